/- minor.Minor. -/
import Derived.Test.YtfflnpcbpcldeaaTryS
import Derived.Test.YtfflnpcbpcldeaaTwoFault
import Derived.Test.YtfflnpcbpcldeaaRowsOwn
namespace Go.Proofs.Ytfflnpcbpcldeaa
open Go.RowKit

/-- The nodes of a set. -/
def bitsTo (s : Nat) : Nat → List Nat
  | 0 => []
  | v + 1 => if s.testBit v then bitsTo s v ++ [v] else bitsTo s v
theorem bitsTo_length (s : Nat) : ∀ n, (bitsTo s n).length ≤ n
  | 0 => Nat.le_refl _
  | n + 1 => by
    have := bitsTo_length s n
    rw [bitsTo]; split
    · rw [List.length_append]; simp; omega
    · omega

/-- Sets come back, or none; and a fault. -/
def MinorPost (N : Nat) (r : Option (List Nat)) (c a : Int) (w : World) (e : Ending) (w' : World) : Prop :=
  Below w.heap.size w w' ∧ ((∃ S v, r = some S ∧ e = .returned (.tuple #[v, .bool true, .agg #[.int .i64 c, .int .i64 a]]) ∧ IsRows w' v (S.map fun s => ints (bitsTo s N))) ∨
  (r = none ∧ e = .returned (.tuple #[.slice none 0 0, .bool false, .agg #[.int .i64 c, .int .i64 a]])))

theorem LookSt.facts {w wr : World} {n : Int} {s : Value} {l : List (Int × Int)} {m : Int} {t : Value} {k : List (Int × Int)} (h : LookSt w wr n s l m t k) : wr.cell? ⟨w.heap.size, 0, none⟩ = some (.int .i64 n) ∧ wr.cell? ⟨w.heap.size, 1, none⟩ = some s ∧ wr.cell? ⟨w.heap.size + 1, 0, none⟩ = some (.int .i64 m) ∧ wr.cell? ⟨w.heap.size + 1, 1, none⟩ = some t ∧
    wr.cell? ⟨w.heap.size + 1 + 1, 0, none⟩ = some (.int .i64 0) ∧ wr.cell? ⟨w.heap.size + 1 + 1, 1, none⟩ = some (.int .i64 0) ∧
    wr.frozen? ⟨w.heap.size + 1 + 1, 0, none⟩ = false ∧ wr.frozen? ⟨w.heap.size + 1 + 1, 1, none⟩ = false ∧ w.heap.size + 1 + 1 < wr.heap.size := by
  obtain ⟨z0, z1, f0, f1, l0⟩ := row_facts h.r
  exact ⟨h.ts.cn, h.ts.cs, h.ts.dm, h.ts.dt, z0, z1, f0, f1, l0⟩

theorem LookSt.start {w : World} {n : Int} {s : Value} {l : List (Int × Int)} {m : Int} {t : Value} {k : List (Int × Int)} (h : IsEdges w s l) (h' : IsEdges w t k) :
    LookSt w (((w.alloc (Obj.cells #[.int .i64 n, s] 24)).alloc (Obj.cells #[.int .i64 m, t] 24)).alloc (Obj.cells #[.int .i64 0, .int .i64 0] 27)) n s l m t k := by
  have st := TwoSt.start (n := n) (m := m) h h'
  have hz := two_row ((w.alloc (Obj.cells #[.int .i64 n, s] 24)).alloc (Obj.cells #[.int .i64 m, t] 24)) (.int .i64 0) (.int .i64 0) 27
  rw [World.size_alloc, World.size_alloc] at hz
  exact ⟨st.below (below1 _ _), hz⟩

set_option maxHeartbeats 3200000 in
set_option maxRecDepth 100000 in
theorem minor_bad {n : Int} {l : List (Int × Int)} {m : Int} {k : List (Int × Int)} {c a : Int} (N : Nat) (hs : FewSpec n l m k c a) (hc : c ≠ 0) (s t : Value) (w : World) (h : IsEdges w s l) (h' : IsEdges w t k) :
    Calls Try.prog 34 #[.agg #[.int .i64 n, s], .agg #[.int .i64 m, t]] w (MinorPost N none c a w) := by
  obtain ⟨ad, cap, rfl⟩ := h.form
  obtain ⟨ad', cap', rfl⟩ := h'.form
  have St := Lib.hid (LookSt.start (n := n) (m := m) h h')
  have Hs := Lib.hid hs
  have q : (c != 0) = true := by simpa using hc
  clear hs h h' hc
  go_enter Try.func34, Try.ntmps34
  go_upto_region 1 with fail
  generalize ((w.alloc (Obj.cells #[.int .i64 n, .slice ad l.length cap] 24)).alloc (Obj.cells #[.int .i64 m, .slice ad' k.length cap'] 24)).alloc (Obj.cells #[.int .i64 0, .int .i64 0] 27) = w1 at *
  obtain ⟨u0, u1, u2, u3, u4, u5, u6, u7, u8⟩ := St.out.facts
  go_wp2_with fail
  refine (look_is Hs.out _ _ _ St.out.ts.he St.out.ts.hf).mono ?_
  rintro e w2 ⟨rfl, hb2⟩
  have S2 := Lib.hid ((St.out.below hb2).below (below1 w2 (Obj.cells #[.int .i64 c, .int .i64 a] 27)))
  have R2 := Lib.hid (VarF.new w2 c a 27)
  have hl2 := (St.out.below hb2).facts.2.2.2.2.2.2.2.2
  clear u0 u1 u2 u3 u4 u5 u6 u7 u8 hb2
  go_upto_region 3 with fail
  generalize w2.heap.size = F at *
  generalize w2.alloc (Obj.cells #[.int .i64 c, .int .i64 a] 27) = w3 at *
  obtain ⟨u0, u1, u2, u3, u4, u5, u6, u7, u8⟩ := S2.out.facts
  have c0 := R2.out.c0
  have c1 := R2.out.c1
  go_region
  all_goals
    obtain ⟨e0, e1, hfin⟩ := S2.out.fin c a
    have hfin := hfin.drew
    go_wp2
    exact bodyPost_ret (v := .tuple #[.slice none 0 0, .bool false, .agg #[.int .i64 c, .int .i64 a]]) (by simp [results, Try.results34, go_sem, e0, e1]) rfl ⟨hfin, Or.inr ⟨rfl, rfl⟩⟩

theorem ownsRow_set {w : World} {base : Nat} {e : TypeId} {size : Nat} {v : Value} {n : Nat} {xs : List Value} (h : w.ownsRow base e size v n xs) {X : Nat} (hX : X < base) (k : Nat) (x : Value) : (w.setCell ⟨X, k, none⟩ x).ownsRow base e size v n xs := by
  refine h.kept (grown_set w X k x) ?_
  cases hv : v.ownBlock with
  | none => exact Or.inl rfl
  | some g =>
    have := (h.lt g hv).1
    exact Or.inr (fun e => by cases e; omega)
theorem Copied.set {B : Nat} {wr : World} {v : Value} {k : Nat} {m : List (List Int)} (h : Copied B wr v k m) {X : Nat} (hX : X < B) (j : Nat) (x : Value) : Copied B (wr.setCell ⟨X, j, none⟩ x) v k m := by
  obtain ⟨vals, h1, h2⟩ := h
  refine ⟨vals, ownsRow_set h1 hX j x, fun i hi => ?_⟩
  obtain ⟨r, hr, ho⟩ := h2 i hi
  exact ⟨r, hr, ownsRow_set ho hX j x⟩

theorem adj_symm (l : List (Int × Int)) (i j : Nat) : adj l i j = adj l j i := by
  unfold adj hasE
  congr 1
  funext e
  have : Meets e i j ↔ Meets e j i := by unfold Meets; omega
  simp [this]
theorem near_symm (l : List (Int × Int)) (N : Nat) : ∀ x y, x < N → y < N → (near l N x).testBit y = true → (near l N y).testBit x = true := fun x y hx hy h => by
  unfold near at h ⊢
  rw [maskOf_bit] at h ⊢
  rw [adj_symm l y x]
  simp at h ⊢
  exact ⟨hx, h.2⟩

/-- What the search of Minor finds. -/
noncomputable def minorF (N M : Nat) (l k : List (Int × Int)) : Option (List Nat) := tryS (wholeB (near l N)) (fun s => bes (near l N) s N) (near k M) M (pow2 N - 1) []

theorem tryS_lt {W : Nat → Bool} {B mh : Nat → Nat} {P : Nat} : ∀ {f left : Nat} {S r : List Nat}, tryS W B mh f left S = some r → left < P → (∀ x ∈ S, x < P) → (∀ x ∈ r, x < P) ∧ r.length = S.length + f
  | 0, left, S, r, h, _, hl => by
    obtain rfl := Option.some.inj h
    exact ⟨hl, rfl⟩
  | f + 1, left, S, r, h, hP, hl => by
    rw [tryS] at h
    obtain ⟨t, h0, ht, hg⟩ := firstFrom_has left left (Nat.le_refl _) (Within.refl _) h
    have htl := ht.le
    split at hg
    · have hlw : less left t ≤ left := Within.le (fun i hi => by rw [less_bit, Bool.and_eq_true] at hi; exact hi.1)
      obtain ⟨h1, h2⟩ := tryS_lt (P := P) hg (by omega) (fun x hx => by
        rcases List.mem_append.1 hx with h | h
        · exact hl x h
        · obtain rfl : x = t := by simpa using h
          omega)
      exact ⟨h1, by simp at h2; omega⟩
    · cases hg

set_option maxHeartbeats 6400000 in
set_option maxRecDepth 100000 in
theorem minor_ok {N M : Nat} {l k : List (Int × Int)} (hs : FewSpec N l M k 0 0) (s t : Value) (w : World) (h : IsEdges w s l) (h' : IsEdges w t k) :
    Calls Try.prog 34 #[.agg #[.int .i64 (N : Int), s], .agg #[.int .i64 (M : Int), t]] w (MinorPost N (minorF N M l k) 0 0 w) := by
  obtain ⟨ad, cap, rfl⟩ := h.form
  obtain ⟨ad', cap', rfl⟩ := h'.form
  have St := Lib.hid (LookSt.start (n := (N : Int)) (m := (M : Int)) h h')
  have Hs := Lib.hid hs
  obtain ⟨g1, g2, hN, hM, -⟩ := hs.good
  have hok : ∀ j, j < l.length → EndsOk (N : Int) (l.getD j (0, 0)) ∧ (l.getD j (0, 0)).1 ≠ (l.getD j (0, 0)).2 := fun j hj => ⟨(g1.fine j hj).1, (g1.fine j hj).2.1⟩
  have hok' : ∀ j, j < k.length → EndsOk (M : Int) (k.getD j (0, 0)) ∧ (k.getD j (0, 0)).1 ≠ (k.getD j (0, 0)).2 := fun j hj => ⟨(g2.fine j hj).1, (g2.fine j hj).2.1⟩
  have Hok := Lib.hid hok
  have Hok' := Lib.hid hok'
  have hN10 : N ≤ 10 := by omega
  have hM6 : M ≤ 6 := by omega
  have hP := pow2_le hN10
  have hP1 := pow2_pos N
  have q0 := op_shl (show N < 62 by omega)
  clear hs h h' g1 g2 hok hok' hN hM
  go_enter Try.func34, Try.ntmps34
  go_upto_region 1 with fail
  generalize ((w.alloc (Obj.cells #[.int .i64 (N : Int), .slice ad l.length cap] 24)).alloc (Obj.cells #[.int .i64 (M : Int), .slice ad' k.length cap'] 24)).alloc (Obj.cells #[.int .i64 0, .int .i64 0] 27) = w1 at *
  obtain ⟨u0, u1, u2, u3, u4, u5, u6, u7, u8⟩ := St.out.facts
  go_wp2_with fail
  refine (look_is Hs.out _ _ _ St.out.ts.he St.out.ts.hf).mono ?_
  rintro e w2 ⟨rfl, hb2⟩
  have S2 := Lib.hid ((St.out.below hb2).below (below1 w2 (Obj.cells #[.int .i64 0, .int .i64 0] 27)))
  have hl2 := (St.out.below hb2).facts.2.2.2.2.2.2.2.2
  clear u0 u1 u2 u3 u4 u5 u6 u7 u8 hb2
  go_upto_region 4 with fail
  generalize w2.heap.size = F at *
  generalize w2.alloc (Obj.cells #[.int .i64 0, .int .i64 0] 27) = w3 at *
  obtain ⟨u0, u1, u2, u3, u4, u5, u6, u7, u8⟩ := S2.out.facts
  go_wp2_with fail
  refine (masks_any k M _ w3 S2.out.ts.hf (by omega) Hok'.out).mono ?_
  rintro e w4 ⟨rH, rfl, hH1, hH2, hb4⟩
  have r5 := World.rowIs_alloc w4 #[.slice none 0 0, .slice none 0 0, .slice (some ⟨rH, 0, none⟩) M M, .slice none 0 0] 104 (fun i => if i = 0 then .slice none 0 0 else if i = 1 then .slice none 0 0 else if i = 2 then .slice (some ⟨rH, 0, none⟩) M M else .slice none 0 0) (fun i hi => by
    match i, hi with
    | 0, _ => rfl
    | 1, _ => rfl
    | 2, _ => rfl
    | 3, _ => rfl)
  have S5 := Lib.hid ((S2.out.below hb4).below (below1 w4 (Obj.cells #[.slice none 0 0, .slice none 0 0, .slice (some ⟨rH, 0, none⟩) M M, .slice none 0 0] 104)))
  have hl4 := (S2.out.below hb4).facts.2.2.2.2.2.2.2.2
  have h5 := hH2.alloc (Obj.cells #[.slice none 0 0, .slice none 0 0, .slice (some ⟨rH, 0, none⟩) M M, .slice none 0 0] 104)
  have R5 := Lib.hid r5
  have H5 := Lib.hid h5
  have nHX : rH < w4.heap.size := hH2.lt
  clear u0 u1 u2 u3 u4 u5 u6 u7 u8 r5 h5 hH2 hb4
  go_upto_region 5 with fail
  generalize w4.heap.size = bX at *
  generalize w4.alloc (Obj.cells #[.slice none 0 0, .slice none 0 0, .slice (some ⟨rH, 0, none⟩) M M, .slice none 0 0] 104) = w5 at *
  obtain ⟨u0, u1, u2, u3, u4, u5, u6, u7, u8⟩ := S5.out.facts
  have lX := R5.out.lt
  go_wp2_with fail
  refine (masks_any l N _ w5 S5.out.ts.he (by omega) Hok.out).mono ?_
  rintro e w6 ⟨rN, rfl, hN1, hN2, hb6⟩
  clear u0 u1 u2 u3 u4 u5 u6 u7 u8
  have hs6 := hb6.size
  go_wp2_with fail
  refine (whole_any N rN (near l N) w6 hN10 hN2 (fun v _ => maskOf_few _ (by omega)) (near_symm l N)).mono ?_
  rintro e w7 ⟨bI, bB, rfl, hI1, hB1, hIB, hI2, hB2, hb7⟩
  have hb57 := upb hb6 hb7
  have S7 := Lib.hid (S5.out.below hb57)
  have R7 := R5.out.of_block (hb57.block _ lX)
  have H7 := H5.out.of_block (hb57.block _ (by omega))
  have lX7 := R7.lt
  have lI := hI2.lt
  have lB := hB2.lt
  have lH := H7.lt
  have nIX : bI ≠ bX := by omega
  have nBX : bB ≠ bX := by omega
  have c0 := R7.cell (show 0 < 4 by omega)
  have c1 := R7.cell (show 1 < 4 by omega)
  have f0 := R7.frozen 0
  have f1 := R7.frozen 1
  have R8 : ((w7.setCell ⟨bX, 0, none⟩ (.slice (some ⟨bI, 0, none⟩) (pow2 N) (pow2 N))).setCell ⟨bX, 1, none⟩ (.slice (some ⟨bB, 0, none⟩) (pow2 N) (pow2 N))).rowIs bX 104 4 (xrow bI bB rH (pow2 N) M (.slice none 0 0)) := ((R7.set 0 _).set 1 _).congr fun i hi => by
    match i, hi with
    | 0, _ => rfl
    | 1, _ => rfl
    | 2, _ => rfl
    | 3, _ => rfl
  have E8 : SEnv ((w7.setCell ⟨bX, 0, none⟩ (.slice (some ⟨bI, 0, none⟩) (pow2 N) (pow2 N))).setCell ⟨bX, 1, none⟩ (.slice (some ⟨bB, 0, none⟩) (pow2 N) (pow2 N))) (pow2 N) M (wholeB (near l N)) (fun s => bes (near l N) s N) (near k M) bX bI bB rH w7.heap.size :=
    ⟨(hI2.setOther nIX _).setOther nIX _, (hB2.setOther nBX _).setOther nBX _, (H7.setOther (show rH ≠ bX by omega) _).setOther (show rH ≠ bX by omega) _, ⟨lX7, lI, lB, lH⟩, ⟨nIX, nBX, by omega⟩, by rw [size_setCell, size_setCell]; exact Nat.le_refl _⟩
  have C8 : Chg (fun q => q = bX) w7 ((w7.setCell ⟨bX, 0, none⟩ (.slice (some ⟨bI, 0, none⟩) (pow2 N) (pow2 N))).setCell ⟨bX, 1, none⟩ (.slice (some ⟨bB, 0, none⟩) (pow2 N) (pow2 N))) := ((Chg.refl (fun q => q = bX) w7).setCell (p := ⟨bX, 0, none⟩) (fun _ => rfl) _).setCell (p := ⟨bX, 1, none⟩) (fun _ => rfl) _
  have R8 := Lib.hid R8
  have E8 := Lib.hid E8
  have C8 := Lib.hid C8
  clear hI2 hB2 R7 H7 hb7 hb6 hb57 hN2
  go_upto_region 6 with fail
  clear c0 c1 f0 f1
  generalize (w7.setCell ⟨bX, 0, none⟩ (.slice (some ⟨bI, 0, none⟩) (pow2 N) (pow2 N))).setCell ⟨bX, 1, none⟩ (.slice (some ⟨bB, 0, none⟩) (pow2 N) (pow2 N)) = w8 at *
  have hl7 := S7.out.facts.2.2.2.2.2.2.2.2
  have cn8 := C8.out.cell S7.out.ts.cn (show ¬ w.heap.size = bX by omega)
  have rf8 := C8.out.rowIs S7.out.r (show ¬ w.heap.size + 1 + 1 = bX by omega)
  have hB8 := S7.out.ts.hb.trans (C8.out.toBelow (B := w.heap.size) (by omega) (fun q hq e => by omega))
  have Rf8 := Lib.hid rf8
  have HB8 := Lib.hid hB8
  clear rf8 hB8
  go_wp2_with fail
  have hcall := tryS_any (pow2 N) M (wholeB (near l N)) (fun s => bes (near l N) s N) (near k M) bX bI bB rH w7.heap.size hP hM6 (fun s hs => bes_few fun v hv => maskOf_few _ (by omega)) (fun i hi => maskOf_few _ (by omega)) M [] (pow2 N - 1) w8 rfl (by simp) (by omega) E8.out ⟨_, R8.out, World.ownsRow_nil _ _ _ _⟩
  rw [show ((pow2 N - 1 : Nat) : Int) = (pow2 N : Int) - 1 by omega] at hcall
  refine hcall.mono ?_
  clear hcall
  rintro e w9 ⟨hc9, hr9⟩
  have nt : ∀ q, q < w7.heap.size → q ≠ bX → ¬ Turns bX w7.heap.size q := fun q h1 h2 h => by
    rcases h with h | h
    · exact h2 h
    · omega
  have cn9 := hc9.cell cn8 (nt w.heap.size (by omega) (by omega))
  have rf9 := hc9.rowIs Rf8.out (nt _ (by omega) (by omega))
  have hB9 := HB8.out.trans (hc9.toBelow (B := w.heap.size) HB8.out.size (fun q hq h => nt q (by omega) (by omega) h))
  have Rf9 := Lib.hid rf9
  have HB9 := Lib.hid hB9
  clear rf9 hB9 hc9 cn8 nt
  have hlen : ∀ r, tryS (wholeB (near l N)) (fun s => bes (near l N) s N) (near k M) M (pow2 N - 1) [] = some r → r.length = M := fun r h => by
    have := (tryS_lt (P := pow2 N) h (by omega) (by simp)).2; simpa using this
  have hltr : ∀ r, tryS (wholeB (near l N)) (fun s => bes (near l N) s N) (near k M) M (pow2 N - 1) [] = some r → ∀ x ∈ r, x < pow2 N := fun r h => (tryS_lt h (show pow2 N - 1 < pow2 N by omega) (by simp)).1
  have Hlen := Lib.hid hlen
  have Hlt := Lib.hid hltr
  clear hlen hltr
  rcases hr9 with ⟨r, hr, rfl, sv, g1, g2⟩ | ⟨hr, rfl, sv, g1, g2⟩
  · have Hr := Lib.hid hr
    have hr6 : r.length ≤ 6 := by have := Hlen.out r hr; omega
    have hrx := Hlt.out r hr
    have his := IsInts.owned (base := w7.heap.size) (e := 3) g2
    obtain ⟨sa, sc, rfl⟩ := ownsRow_form g2
    obtain ⟨c0, c1, c2, c3, f3⟩ := xrow_facts g1
    have His := Lib.hid his
    have Hrx := Lib.hid hrx
    clear his g1 g2 hr hrx q0
    go_wp2
    clear c0 c1 c2 c3 f3
    go_loopg [4, 49] r.length (fun g s4 s49 wr => ∃ q : Nat, q ≤ r.length ∧ g = r.length - q ∧ s49 = .int .i64 q ∧ Copied w9.heap.size wr s4 q (r.map fun s => ints (bitsTo s N)) ∧ Below w9.heap.size w9 wr)
    case atStart => exact ⟨0, Nat.zero_le _, rfl, rfl, ⟨[], World.ownsRow_nil _ _ _ _, fun _ h => absurd h (Nat.not_lt_zero _)⟩, Below.refl _ _⟩
    case round =>
      obtain ⟨q, hq, rfl, rfl, hcp, hb⟩ := hrel
      have Hcp := Lib.hid hcp
      have Hb := Lib.hid hb
      clear hcp
      by_cases hlt : q < r.length
      · obtain ⟨lb, lo, rfl, hl1⟩ := ints_at' His.out hb hlt
        have hxs : r.getD q 0 < pow2 N := Hrx.out _ (by rw [List.getD_eq_getElem?_getD, List.getElem?_eq_getElem hlt]; exact List.getElem_mem hlt)
        have cn := below_cell hb cn9
        have hsz := hb.size
        have hget : (r.map fun s => ints (bitsTo s N)).getD q [] = ints (bitsTo (r.getD q 0) N) := by simp [List.getD, hlt]
        have Hget := Lib.hid hget
        generalize r.getD q 0 = x at *
        clear hb hget
        go_wp2
        obtain ⟨wo, rfl⟩ : ∃ wo : World, wo = wr := ⟨_, rfl⟩
        go_loopg [11, 55] N (fun g s11 s55 wr => ∃ v : Nat, v ≤ N ∧ g = N - v ∧ s55 = .int .i64 v ∧ wr.ownsRow wo.heap.size 3 1 s11 (bitsTo x v).length ((ints (bitsTo x v)).map (Value.int .i64)) ∧ Below wo.heap.size wo wr)
        case atStart => exact ⟨0, Nat.zero_le _, rfl, rfl, World.ownsRow_nil _ _ _ _, Below.refl _ _⟩
        case round =>
          obtain ⟨v, hv, rfl, rfl, ho, hb2⟩ := hrel
          have hbl := bitsTo_length x v
          have Ho := Lib.hid ho
          have Hb2 := Lib.hid hb2
          have hsz2 := hb2.size
          by_cases hvN : v < N
          · have q1 := op_shr x v
            have q2 := op_bit (v := v) (a := x) (by show x < _; omega)
            cases hbt : x.testBit v
            · rw [bit_zero hbt] at q2
              have Hbt := Lib.hid hbt
              clear hbt ho hb2
              go_wp2
              go_roundg (N - (v + 1))
              case measure => go_light; omega
              case rel => exact ⟨v + 1, by omega, rfl, by go_num, by rw [show bitsTo x (v + 1) = bitsTo x v from by rw [bitsTo, if_neg (by rw [Hbt.out]; exact Bool.false_ne_true)]]; exact Ho.out, Hb2.out⟩
            · rw [bit_one hbt] at q2
              have Hbt := Lib.hid hbt
              obtain ⟨va, vc, rfl⟩ := ownsRow_form ho
              clear hbt ho hb2
              go_wp2_with (at_builtin; refine wpList_append_has rfl (.tmp 63) (.tmp 65) 51 rfl wo.heap.size 3 (.int .i64 0) 8 Try.underlying51 info3 rfl _ (bitsTo x v).length ((ints (bitsTo x v)).map (Value.int .i64)) rfl (Ho.out.alloc _) _ 1 [.int .i64 (v : Int)] rfl (HasCells.one _ _ _ rfl) (by omega) (by omega) (by simp; omega) ?_; intro a2 c2 w2 hown2 hg2; have hn2 := Lib.hid ((Hb2.out.alloc (by omega) (Obj.cells #[.int .i64 (v : Int)] 3)).grown hg2 (by rw [World.size_alloc]; omega) (fun g e => (Ho.out.lt g e).1)); have Hown2 := Lib.hid hown2; clear hown2 hg2)
              go_roundg (N - (v + 1))
              case measure => go_light; omega
              case rel => exact ⟨v + 1, by omega, rfl, by go_num, by
                rw [show bitsTo x (v + 1) = bitsTo x v ++ [v] from by rw [bitsTo, if_pos Hbt.out], ints_snoc, List.map_append, List.length_append]; exact Hown2.out, hn2.out⟩
          · obtain rfl : v = N := by omega
            obtain ⟨vals, hown, hvv⟩ := Hcp.out
            obtain ⟨va, vc, rfl⟩ := ownsRow_form hown
            obtain ⟨xa, xc, rfl⟩ := ownsRow_form ho
            have hg1 := grown_of_below hb2
            have Hg1 := Lib.hid hg1
            have hown1 := grown_none hown hg1
            have Hown1 := Lib.hid hown1
            have Hown := Lib.hid hown
            have Hvv := Lib.hid hvv
            clear hown hvv ho hb2 hg1 hown1 Hcp
            go_wp2_with (at_builtin; refine wpList_append_has rfl (.tmp 68) (.tmp 70) 40 rfl w9.heap.size 51 (.slice none 0 0) 24 Try.underlying40 infoS rfl _ q vals rfl (Hown1.out.alloc _) _ 1 [.slice xa (bitsTo x v).length xc] rfl (HasCells.one _ _ _ rfl) (by omega) (by omega) (by simp; omega) ?_; intro a2 c2 w2 hown2 hg2; have Hm := Lib.hid (Copied.more (m := r.map fun s => ints (bitsTo s v)) Hown.out Hvv.out Hg1.out (by rw [Hget.out, ints_length]; exact ownsRow_low Ho.out (by omega)) hown2 hg2); have hn2 := Lib.hid (((Hb.out.trans (Hb2.out.mono Hb.out.size)).alloc (by omega) (Obj.cells #[.slice xa (bitsTo x v).length xc] 51)).grown hg2 (by rw [World.size_alloc]; omega) (fun g e => (Hown1.out.lt g e).1)); clear hown2 hg2)
            go_roundg (r.length - (q + 1))
            case measure => go_light; omega
            case rel => exact ⟨q + 1, by omega, rfl, by go_num, Hm.out, hn2.out⟩
      · obtain rfl : r.length = q := by omega
        have hlenm : (r.map fun s => ints (bitsTo s N)).length = r.length := by simp
        have rf := Rf9.out.of_block (hb.block _ Rf9.out.lt)
        obtain ⟨z0, z1, f0, f1, l0⟩ := row_facts rf
        have R9 := Lib.hid (row_put rf (.int .i64 0) (.int .i64 0))
        have hfin := (((HB9.out.trans (hb.mono HB9.out.size)).setCell (p := ⟨w.heap.size + 1 + 1, 0, none⟩) (show w.heap.size ≤ w.heap.size + 1 + 1 by omega) (.int .i64 0)).setCell (p := ⟨w.heap.size + 1 + 1, 1, none⟩) (show w.heap.size ≤ w.heap.size + 1 + 1 by omega) (.int .i64 0)).drew
        have hl9 := Rf9.out.lt
        have hcs := (Hcp.out.set hl9 0 (.int .i64 0)).set hl9 1 (.int .i64 0)
        have hrows := (Copied.rows (B := w9.heap.size) (m := r.map fun s => ints (bitsTo s N)) (by rw [hlenm]; exact hcs)).below (Below.refl _ _).drew
        obtain ⟨vals, hown, -⟩ := Hcp.out
        obtain ⟨va, vc, rfl⟩ := ownsRow_form hown
        have Hrows := Lib.hid hrows
        have Hf := Lib.hid hfin
        clear hb hown hcs hrows rf hfin
        go_upto_region 20 with fail
        go_region
        all_goals
          obtain ⟨e0, e1, -, -, -⟩ := row_facts R9.out
          go_wp2
          exact bodyPost_ret (v := .tuple #[.slice va r.length vc, .bool true, .agg #[.int .i64 0, .int .i64 0]]) (by simp [results, Try.results34, go_sem, e0, e1]) rfl ⟨Hf.out, Or.inl ⟨r, _, Hr.out, rfl, Hrows.out⟩⟩
  · obtain ⟨z0, z1, f0, f1, l0⟩ := row_facts Rf9.out
    have Hr := Lib.hid hr
    have R9 := Lib.hid (row_put Rf9.out (.int .i64 0) (.int .i64 0))
    have hfin := ((HB9.out.setCell (p := ⟨w.heap.size + 1 + 1, 0, none⟩) (show w.heap.size ≤ w.heap.size + 1 + 1 by omega) (.int .i64 0)).setCell (p := ⟨w.heap.size + 1 + 1, 1, none⟩) (show w.heap.size ≤ w.heap.size + 1 + 1 by omega) (.int .i64 0)).drew
    have Hf := Lib.hid hfin
    clear hr g1 g2 hfin
    go_upto_region 7 with fail
    go_region
    all_goals
      obtain ⟨e0, e1, -, -, -⟩ := row_facts R9.out
      go_wp2
      exact bodyPost_ret (v := .tuple #[.slice none 0 0, .bool false, .agg #[.int .i64 0, .int .i64 0]]) (by simp [results, Try.results34, go_sem, e0, e1]) rfl ⟨Hf.out, Or.inr ⟨Hr.out, rfl⟩⟩

end Go.Proofs.Ytfflnpcbpcldeaa
