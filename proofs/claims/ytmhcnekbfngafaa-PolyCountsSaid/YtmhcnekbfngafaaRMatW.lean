/- arborref.matchings: the walk. -/
import Derived.Test.YtmhcnekbfngafaaPB
import Derived.Test.YtmhcnekbfngafaaPC
import Derived.Test.YtmhcnekbfngafaaTutW
namespace Go.Proofs.Ytmhcnekbfngafaa
open Go Go.RowKit

theorem matA_two : ∀ (l : EL) (s : Nat → Bool) (k : Nat), matA l s k ≤ (2 ^ l.length : Nat)
  | [], s, k => by
    rw [matA]
    split <;> simp
  | e :: l, s, k => by
    rw [matA, List.length_cons, Nat.pow_succ]
    have h1 := matA_two l s k
    have h2 := matA_two l (rmV (rmV s e.1) e.2) (k - 1)
    split
    · split <;> omega
    · omega
theorem mRef_len : ∀ (l : EL) (s : Nat → Bool) (n : Nat) (out : List Int), (mRef l s n out).length ≤ max out.length (n + l.length + 1)
  | [], s, n, out => by rw [mRef, addAt_length]; simp
  | e :: l, s, n, out => by
    rw [mRef, List.length_cons]
    have h1 := mRef_len l s n out
    split
    · have h2 := mRef_len l (rmV (rmV s e.1) e.2) (n + 1) (mRef l s n out)
      omega
    · omega

/-- The marks and the list under way. -/
structure RM (w0 w : World) (U OO N : Nat) (s : Nat → Bool) (out : List Int) : Prop where
  row : w.rowIs U 4 N (rb fun u => !s u)
  cel : ∃ cv, w.cell? ⟨OO, 0, none⟩ = some cv ∧ OwnC w w0.heap.size cv out
  fz : w.frozen? ⟨OO, 0, none⟩ = false
  ch : Chg (fun q => q = U ∨ q = OO) w0 w
  lo : OO < w0.heap.size
  lu : U < w0.heap.size
  ne : U ≠ OO
theorem RM.congr {w0 w : World} {U OO N : Nat} {s s' : Nat → Bool} {out out' : List Int} (h : RM w0 w U OO N s out) (e : ∀ u, s u = s' u) (e2 : out = out') : RM w0 w U OO N s' out' := by
  subst e2
  exact ⟨row_rb h.row fun u _ => by rw [e], h.cel, h.fz, h.ch, h.lo, h.lu, h.ne⟩
theorem RM.mark {w0 w : World} {U OO N : Nat} {s : Nat → Bool} {out : List Int} (h : RM w0 w U OO N s out) (a : Nat) (b : Bool) : RM w0 (w.setCell ⟨U, a, none⟩ (.bool b)) U OO N (fun u => if u = a then !b else s u) out := by
  obtain ⟨cv, h1, h2⟩ := h.cel
  refine ⟨row_rb (row_set_rb h.row a b) fun u _ => ?_, ⟨cv, ?_, ownsRow_setCell_below h2 (by show U < _; exact h.lu) _⟩, ?_, h.ch.setCell (fun _ => Or.inl rfl) _, h.lo, h.lu, h.ne⟩
  · split <;> simp
  · rw [World.cell?_setCell_far _ _ _ _ h.ne]; exact h1
  · have : (w.setCell ⟨U, a, none⟩ (.bool b)).frozen? ⟨OO, 0, none⟩ = w.frozen? ⟨OO, 0, none⟩ := World.frozen?_setCell _ _ _ _
    rw [this]; exact h.fz
theorem RM.drew {w0 w : World} {U OO N : Nat} {s : Nat → Bool} {out : List Int} (h : RM w0 w U OO N s out) (n : Nat) : RM w0 (w.drewN n) U OO N s out :=
  ⟨h.row, h.cel, h.fz, h.ch.drewN n, h.lo, h.lu, h.ne⟩

/-- Behind an append onto the list, laid back into its variable. -/
theorem RM.app {w0 wr w2 : World} {U OO N : Nat} {s : Nat → Bool} {L : List Int} {cv : Value} {a2 : Option Addr} {c2 : Nat} {x : Int} (h : RM w0 wr U OO N s L) (hc : wr.cell? ⟨OO, 0, none⟩ = some cv) (ho : OwnC wr w0.heap.size cv L)
    (hown : w2.ownsRow w0.heap.size 3 1 (.slice a2 (L.length + 1) c2) (L.length + 1) (L.map (Value.int .i64) ++ [.int .i64 x])) (hg : (wr.alloc (Obj.cells #[.int .i64 x] 3)).grownBy w2 cv.ownBlock) :
    RM w0 (w2.setCell ⟨OO, 0, none⟩ (.slice a2 (L.length + 1) c2)) U OO N s (L ++ [x]) := by
  have hne : ∀ k, k < w0.heap.size → some k ≠ cv.ownBlock := fun k hk e => by
    have := (World.ownsRow.lt ho k e.symm).1
    omega
  have hs := h.ch.size
  have hlo := h.lo
  have hlu := h.lu
  have key : ∀ k, k < w0.heap.size → w2.heap[k]? = wr.heap[k]? := fun k hk => by
    have h1 := hg.block k (by rw [World.size_alloc]; omega) (hne k hk)
    have h2 := (below1 wr (Obj.cells #[.int .i64 x] 3)).block k (by omega)
    exact h1.trans h2
  have hcell : w2.cell? ⟨OO, 0, none⟩ = some cv := by rw [World.cell?_of_block (w := wr) (key OO hlo)]; exact hc
  have hch : Chg (fun q => q = U ∨ q = OO) w0 w2 := by
    have hsz := hg.size
    rw [World.size_alloc] at hsz
    exact ⟨hg.os.trans h.ch.os, hg.tape.trans h.ch.tape, hg.output.trans h.ch.output, by omega, fun k hk hS => (key k hk).trans (h.ch.block k hk hS)⟩
  refine ⟨(h.row.of_block (key U hlu)).setOther (a := ⟨OO, 0, none⟩) h.ne _, ⟨_, World.cell?_setCell_same' _ _ _ (by rw [hcell]; rfl), ?_⟩, ?_, hch.setCell (fun _ => Or.inr rfl) _, h.lo, h.lu, h.ne⟩
  · refine ownsRow_setCell_below ?_ (by show OO < _; exact h.lo) _
    rw [List.length_append, List.map_append]
    exact hown
  · rw [World.frozen?_setCell, World.frozen?_of_block (w := wr) (key OO hlo)]; exact h.fz
theorem RM.put {w0 wr : World} {U OO N : Nat} {s : Nat → Bool} {L : List Int} {g cap : Nat} (h : RM w0 wr U OO N s L) (hc : wr.cell? ⟨OO, 0, none⟩ = some (.slice (some ⟨g, 0, none⟩) L.length cap)) (ho : OwnC wr w0.heap.size (.slice (some ⟨g, 0, none⟩) L.length cap) L) (k : Nat) (x : Int) :
    RM w0 (wr.setCell ⟨g, k, none⟩ (.int .i64 x)) U OO N s (L.set k x) := by
  have hb := (World.ownsRow.lt ho g rfl).1
  have hlo := h.lo
  have hlu := h.lu
  refine ⟨h.row.setOther (a := ⟨g, k, none⟩) (show U ≠ g by omega) _, ⟨.slice (some ⟨g, 0, none⟩) L.length cap, ?_, by have := ho.set k x; rwa [OwnC, List.length_set] at *⟩, ?_, h.ch.setCell (fun hlt => ?_) _, h.lo, h.lu, h.ne⟩
  · rw [World.cell?_setCell_far _ _ _ _ (show g ≠ OO by omega)]; exact hc
  · rw [World.frozen?_setCell]; exact h.fz
  · exact absurd hlt (by show ¬ g < _; omega)

set_option maxHeartbeats 6400000 in
set_option maxRecDepth 100000 in
theorem rmat_any {N U OO : Nat} (hN : N ≤ 100) {w0 : World} : ∀ (E : List (Int × Int)) (s : Nat → Bool) (n : Nat) (out : List Int) (ev : Value) (w : World), (∀ w', Chg (fun q => q = U ∨ q = OO) w0 w' → IsEdges w' ev E) → EndsN N E → E.length ≤ 14 → n + E.length ≤ 100 → out.length ≤ 200 →
    (∀ j, 0 ≤ out.getD j 0 ∧ out.getD j 0 + (2 ^ E.length : Nat) ≤ 1000000000) → RM w0 w U OO N s out →
    Calls Try.prog 57 #[ev, .slice (some ⟨U, 0, none⟩) N N, .int .i64 (n : Int), .pointer (some ⟨OO, 0, none⟩)] w fun e w' => e = .returned (.tuple #[]) ∧ RM w0 w' U OO N s (mRef (elN E) s n out) := by
  intro E
  induction E with
  | nil =>
    intro s n out ev w hE _ _ hn hol hbd hr
    obtain ⟨ad, cap, rfl⟩ : ∃ ad cap, ev = .slice ad 0 cap := by
      obtain ⟨a, c, _, _, rfl, _⟩ := hE w hr.ch
      exact ⟨a, c, rfl⟩
    simp only [List.length_nil, Nat.add_zero] at hn
    have hb1 := hbd n
    simp only [List.length_nil, Nat.pow_zero] at hb1
    have Hr := Lib.hid hr
    clear hr hE hbd
    go_enter Try.func57, Try.ntmps57
    go_wp2
    go_loopg [13] (n + 1 - out.length) (fun g s13 wr => ∃ Le : List Int, out.length ≤ Le.length ∧ Le.length ≤ max out.length (n + 1) ∧ Le = extL out Le.length ∧ g = n + 1 - Le.length ∧ RM w0 wr U OO N s Le)
    case atStart => exact ⟨out, Nat.le_refl _, by omega, (ext_self _ (Nat.le_refl _)).symm, rfl, Hr.out⟩
    case round =>
      obtain ⟨Le, h1, h2, h3, rfl, hr⟩ := hrel
      obtain ⟨cv, hc, ho⟩ := hr.cel
      have fz := hr.fz
      have hsz := hr.ch.size
      have hlo := hr.lo
      have H3 := Lib.hid h3; have Hr3 := Lib.hid hr; have Ho3 := Lib.hid ho
      by_cases hle : Le.length ≤ n
      · obtain ⟨aL, cL, rfl⟩ := ownsRow_form ho
        have Hc3 := Lib.hid hc
        clear hr ho h3
        have hcs := below_cell (below1 wr (Obj.cells #[Value.int .i64 0] 3)) hc
        go_wp2_with (at_builtin; refine wpList_append_at rfl (.tmp 22) (.tmp 23) 39 rfl w0.heap.size 3 (.int .i64 0) 8 Try.underlying39 info3 rfl _ Le.length (Le.map (Value.int .i64)) rfl (Ho3.out.alloc _) _ 1 [.int .i64 0] rfl (HasCells.one _ _ _ rfl) (by omega) (by omega) (by omega) (by rw [World.size_alloc]; omega) ?_; intro a6 c6 w6 hown6 hg6 hat6; have Hr6 := Lib.hid (Hr3.out.app Hc3.out Ho3.out hown6 hg6); have fz6 : w6.frozen? ⟨OO, 0, none⟩ = false := (by have := Hr6.out.fz; rwa [World.frozen?_setCell] at this); have Hown6 := Lib.hid hown6; have hz6 := hg6.size; rw [World.size_alloc] at hz6; have hc6 : w6.cell? ⟨OO, 0, none⟩ = some (.slice aL Le.length cL) := (by rw [World.cell?_of_block (w := (wr.alloc (Obj.cells #[Value.int .i64 0] 3))) (hg6.block OO (by rw [World.size_alloc]; omega) (fun e => by have := (World.ownsRow.lt Ho3.out OO e.symm).1; omega))]; exact hcs); clear hown6 hg6 hat6)
        go_roundg (n + 1 - (Le.length + 1))
        case measure => go_light; omega
        case rel => exact ⟨Le ++ [0], by simp; omega, by simp; omega, by
          rw [List.length_append]
          conv => lhs; rw [H3.out]
          exact ext_snoc out h1, by simp, Hr6.out⟩
      · obtain ⟨gL, cL, rfl, hbase, hgl, cells, frz⟩ := OwnC.form ho (by omega)
        have cc := cells n (by omega)
        have ff := frz n
        have hv : Le.getD n 0 = out.getD n 0 := by rw [H3.out]; exact ext_getD _ _ _
        rw [hv] at cc
        have Hv := Lib.hid hv; have Hc3 := Lib.hid hc
        clear ho h3 cells frz hv hr
        generalize out.getD n 0 = vc at *
        have hws : IntKind.i64.wrap (vc + 1) = vc + 1 := by
          obtain ⟨a, ha⟩ := Int.eq_ofNat_of_zero_le (show 0 ≤ vc + 1 by omega)
          rw [ha]; exact wrap_nat (by omega)
        go_wp2
        refine bodyPost_ret (v := .tuple #[]) (by simp [results, Try.results57, go_sem]) rfl ?_
        exact ⟨rfl, by
          have h8 := H3.out
          have h7 := addAt_set out n 1 h1 (by omega) h2
          rw [← h8, Hv.out] at h7
          have h9 := Hr3.out.put Hc3.out Ho3.out n (vc + 1)
          rw [h7] at h9
          exact h9⟩
  | cons e E ih =>
    intro s n out ev w hE hEn hlen hn hol hbd hr
    obtain ⟨x, y, hxy, hx, hy⟩ := hEn.at (k := 0) (by simp)
    simp only [List.getD_cons_zero] at hxy
    subst hxy
    simp only [List.length_cons] at hlen hn hbd
    obtain ⟨eb, eo, cap, rfl, hcap, htl, cx, cy⟩ := (hE w hr.ch).cut
    have HT := Lib.hid (show ∀ w', Chg (fun q => q = U ∨ q = OO) w0 w' → IsEdges w' (.slice (cut2 eb eo (cap - 1)) E.length (cap - 1)) E ∧ w'.cell? ⟨eb, eo, none⟩ = some (.int .i64 (x : Int)) ∧ w'.cell? ⟨eb, eo + 1, none⟩ = some (.int .i64 (y : Int)) from fun w' h' => by
      obtain ⟨eb', eo', cap', e1, -, h2, h3, h4⟩ := (hE w' h').cut
      simp only [Value.slice.injEq, Option.some.injEq, Addr.mk.injEq, and_true, true_and] at e1
      obtain ⟨⟨rfl, rfl⟩, rfl⟩ := e1
      exact ⟨h2, h3, h4⟩)
    obtain ⟨i2, hi2, hz2, hsz2, hby2⟩ := info_parts info2
    have hsl := run_slice_two (P := Try.prog) Try.underlying22 hi2 hsz2 eb eo E.length cap hcap
    have IH := Lib.hid ih; have HE := Lib.hid (show EndsN N E from fun e he => hEn e (by simp [he])); have Hr := Lib.hid hr
    have hp : (2 ^ (E.length + 1) : Nat) = 2 ^ E.length + 2 ^ E.length := by rw [Nat.pow_succ]; omega
    have B1 := Lib.hid (show ∀ j, 0 ≤ out.getD j 0 ∧ out.getD j 0 + (2 ^ E.length : Nat) ≤ 1000000000 from fun j => by
      have := hbd j
      rw [hp] at this
      have h0 : 0 ≤ ((2 ^ E.length : Nat) : Int) := Int.natCast_nonneg _
      omega)
    have B2 := Lib.hid (show ∀ j, 0 ≤ (mRef (elN E) s n out).getD j 0 ∧ (mRef (elN E) s n out).getD j 0 + (2 ^ E.length : Nat) ≤ 1000000000 from fun j => by
      have h1 := hbd j
      rw [hp] at h1
      have h2 := matA_two (elN E) s (j - n)
      have h3 := matA_nn (elN E) s (j - n)
      rw [elN_length] at h2
      rw [mRef_getD]
      have h0 : 0 ≤ ((2 ^ E.length : Nat) : Int) := Int.natCast_nonneg _
      split <;> omega)
    have Hl2 := Lib.hid (show (mRef (elN E) s n out).length ≤ 200 by
      have := mRef_len (elN E) s n out
      rw [elN_length] at this
      omega)
    have HM := Lib.hid (show mRef (elN (((x : Int), (y : Int)) :: E)) s n out = if s x && s y then mRef (elN E) (rmV (rmV s x) y) (n + 1) (mRef (elN E) s n out) else mRef (elN E) s n out from rfl)
    clear hE hEn hbd hr htl cx cy ih hp
    go_enter Try.func57, Try.ntmps57
    go_upto_region 5 with (go_at_call 57; refine (IH.out s n out _ w (fun w' h' => (HT.out w' h').1) HE.out (by omega) (by omega) (by omega) B1.out Hr.out).mono ?_; rintro e w1 ⟨rfl, hr1⟩; have Hr1 := Lib.hid hr1; clear hr1)
    obtain ⟨-, cx, cy⟩ := HT.out w1 Hr1.out.ch
    clear hsl
    go_quiet (fail)
    have Hr2 := Lib.hid (Hr1.out.drew nq)
    clear cx cy Hr1
    generalize w1.drewN nq = w2 at *
    have t1 := Hr2.out.row.cell hx
    have t2 := Hr2.out.row.cell hy
    simp only [rb] at t1 t2
    generalize mRef (elN E) s n out = out1 at *
    cases hsx : s x with
    | false =>
      rw [hsx] at HM t1
      clear hsx
      go_wp2
      go_end0
      exact ⟨rfl, Hr2.out.congr (fun _ => rfl) (by rw [HM.out]; rfl)⟩
    | true =>
      cases hsy : s y with
      | false =>
        rw [hsx, hsy] at HM
        rw [hsx] at t1
        rw [hsy] at t2
        clear hsx hsy
        go_wp2
        go_end0
        exact ⟨rfl, Hr2.out.congr (fun _ => rfl) (by rw [HM.out]; rfl)⟩
      | true =>
        rw [hsx, hsy] at HM
        rw [hsx] at t1
        rw [hsy] at t2
        have f1 := Hr2.out.row.frozen x
        have f2 := Hr2.out.row.frozen y
        have m0 := Hr2.out.row.lt
        have Hr3 := Lib.hid (((Hr2.out.mark x true).mark y true).congr (s' := rmV (rmV s x) y) (fun u => by
          unfold rmV
          by_cases e1 : u = y
          · subst e1; simp
          · by_cases e2 : u = x
            · subst e2; simp [e1]
            · simp [e1, e2]) rfl)
        obtain ⟨bq, t3⟩ : ∃ bq, (w2.setCell ⟨U, x, none⟩ (.bool true)).cell? ⟨U, y, none⟩ = some (.bool bq) := ⟨_, (Hr2.out.mark x true).row.cell hy⟩
        have Hs := Lib.hid (And.intro hsx hsy)
        clear hsx hsy
        obtain ⟨n1, hn1⟩ : ∃ n1, n1 = n + 1 := ⟨_, rfl⟩
        have hwn : IntKind.i64.wrap ((n : Int) + 1) = (n1 : Int) := by rw [hn1]; exact wrap_nat (n := n + 1) (by omega)
        have hn1' : n1 + E.length ≤ 100 := by omega
        have Hn1 := Lib.hid hn1
        have hsl := run_slice_two (P := Try.prog) Try.underlying22 hi2 hsz2 eb eo E.length cap hcap
        clear hn1
        go_upto_region 8 with fail
        clear t1 t2 t3 f1 f2 m0
        generalize (w2.setCell ⟨U, x, none⟩ (.bool true)).setCell ⟨U, y, none⟩ (.bool true) = w3 at *
        go_upto_region 9 with (go_at_call 57; refine (IH.out (rmV (rmV s x) y) n1 out1 _ w3 (fun w' h' => (HT.out w' h').1) HE.out (by omega) (by omega) Hl2.out B2.out Hr3.out).mono ?_; rintro e w4 ⟨rfl, hr4⟩; have Hr4 := Lib.hid hr4; clear hr4)
        have t1 := Hr4.out.row.cell hx
        have t2 := Hr4.out.row.cell hy
        simp only [rb] at t1 t2
        have f1 := Hr4.out.row.frozen x
        have f2 := Hr4.out.row.frozen y
        have m0 := Hr4.out.row.lt
        obtain ⟨bq4, t3⟩ : ∃ bq, (w4.setCell ⟨U, x, none⟩ (.bool false)).cell? ⟨U, y, none⟩ = some (.bool bq) := ⟨_, (Hr4.out.mark x false).row.cell hy⟩
        clear hsl
        go_wp2
        go_end0
        exact ⟨rfl, ((Hr4.out.mark x false).mark y false).congr (fun u => by
          unfold rmV
          by_cases e1 : u = y
          · subst e1; simp [Hs.out.2]
          · by_cases e2 : u = x
            · subst e2; simp [e1, Hs.out.1]
            · simp [e1, e2]) (by rw [HM.out, Hn1.out]; rfl)⟩

end Go.Proofs.Ytmhcnekbfngafaa
