/- parts.Strong: parts of arcs, each one ahead of those that it leads to. -/
import Derived.Test.YtmhcnekbfngafaaStrM
import Derived.BigQuiet
import Derived.Maps.RangeWalk
namespace Go.Proofs.Ytmhcnekbfngafaa
open Go.RowKit Go.Maps

/-- What parts.Strong answers. -/
def StrongPost (l : List (Int × Int)) (N : Nat) (w : World) (e : Ending) (w' : World) : Prop :=
  ∃ v S, e = .returned (.tuple #[v, .agg #[.int .i64 0, .int .i64 0]]) ∧ SelOk N (gA l) S ∧ leftQ N (gA l) S = [] ∧ IsRows w' v (S.map fun p => ints (cls N (gA l) p)) ∧ Below w.heap.size w w'

/-- The rows of least nodes. -/
def RowsV (w : World) (B N : Nat) (G : Nat → Nat → Bool) (Q : List Nat) (vs : List Value) : Prop := ∀ j, j < Q.length → w.ownsRow B 3 1 (vs.getD j (.bool false)) (cls N G (Q.getD j 0)).length (nvals (cls N G (Q.getD j 0)))

/-- While parts are made: the row of those that are done. -/
structure PaS (w5 wr : World) (N bD : Nat) (D : Nat → Bool) : Prop where
  g : w5.grownBy wr (some bD)
  done : wr.rowIs bD 4 N (rb D)
theorem PaS.below {w5 wr w' : World} {N bD : Nat} {D : Nat → Bool} (h : PaS w5 wr N bD D) (hb : Below wr.heap.size wr w') : PaS w5 w' N bD D :=
  ⟨h.g.trans ((grown_of_below hb).but _), h.done.of_block (hb.block _ h.done.lt)⟩
theorem PaS.grown {w5 wr w' : World} {N bD : Nat} {D : Nat → Bool} (h : PaS w5 wr N bD D) {row : Option Nat} (hg : wr.grownBy w' row) (hr : ∀ q, row = some q → w5.heap.size ≤ q) (hD : bD < w5.heap.size) : PaS w5 w' N bD D :=
  ⟨h.g.andThen hg (fun j e => Or.inl (hr j e)), h.done.of_block (hg.block _ h.done.lt (fun e => by have := hr _ e.symm; omega))⟩
theorem PaS.set {w5 wr : World} {N bD : Nat} {D : Nat → Bool} (h : PaS w5 wr N bD D) (k : Nat) (x : Bool) : PaS w5 (wr.setCell ⟨bD, k, none⟩ (.bool x)) N bD (fun q => if q = k then x else D q) :=
  ⟨h.g.trans (grown_set wr bD k _), row_set_rb h.done k x⟩
theorem PaS.congr {w5 wr : World} {N bD : Nat} {D D' : Nat → Bool} (h : PaS w5 wr N bD D) (e : ∀ q, q < N → D q = D' q) : PaS w5 wr N bD D' := ⟨h.g, row_rb h.done e⟩

theorem nodup_few : ∀ (n : Nat) (l : List Nat), l.Nodup → (∀ v ∈ l, v < n) → l.length ≤ n := by
  intro n
  induction n with
  | zero =>
    intro l _ h
    cases l with
    | nil => exact Nat.le_refl _
    | cons a l => exact absurd (h a (by simp)) (Nat.not_lt_zero _)
  | succ n ih =>
    intro l hd h
    by_cases hm : n ∈ l
    · have h1 := ih (l.erase n) (hd.erase _) fun v hv => by
        have h2 := h v (List.mem_of_mem_erase hv)
        have h3 : v ≠ n := fun e => by rw [e] at hv; exact (List.Nodup.not_mem_erase hd) hv
        omega
      have h2 := List.length_erase_of_mem hm
      omega
    · have := ih l hd fun v hv => by
        have h2 := h v hv
        have h3 : v ≠ n := fun e => hm (e ▸ hv)
        omega
      omega
/-- While one part behind the other is taken. -/
structure StE (w6 wr : World) (n m : Nat) (s10 s14 : Value) (vq vs : List Value) : Prop where
  hb : Below w6.heap.size w6 wr
  out : ∃ a cap, s10 = .slice a n cap ∧ n ≤ cap ∧ cap ≤ 9223372036854775807 ∧ vq.length = n ∧ (0 < n → ∃ b off, a = some ⟨b, off, none⟩ ∧ s14.ownBlock ≠ some b ∧ ∀ j, j < n → wr.cell? ⟨b, off + j, none⟩ = some (vq.getD j (.bool false)))
  own : wr.ownsRow w6.heap.size 39 1 s14 m vs
theorem RowsV.head {w : World} {B N : Nat} {G : Nat → Nat → Bool} {Q : List Nat} {vs : List Value} (h : RowsV w B N G Q vs) (hP : Pre N G) {j : Nat} (hj : j < Q.length) (hq : Q.getD j 0 < N ∧ ldB G (Q.getD j 0) = true) :
    ∃ b o n c, vs.getD j (.bool false) = .slice (some ⟨b, o, none⟩) n c ∧ 0 < n ∧ w.cell? ⟨b, o, none⟩ = some (.int .i64 (Q.getD j 0 : Nat)) := by
  have ho := h j hj
  obtain ⟨r, hr⟩ := hP.head hq.1 hq.2
  rw [hr] at ho
  rcases ho.2 with ⟨-, h0⟩ | ⟨g, cap, cur, e, -⟩
  · simp at h0
  · have hc := ho.cells (g := g) (by rw [e]; rfl) 0 (.int .i64 (Q.getD j 0 : Nat)) (by simp [nvals, ints])
    rw [Addr.add_lit] at hc
    exact ⟨g, 0, _, cap, e, by simp, hc⟩
theorem RowsV.one {w : World} {B N : Nat} {G : Nat → Nat → Bool} {Q : List Nat} {vs : List Value} (h : RowsV w B N G Q vs) (hl : vs.length = Q.length) : ∀ u ∈ vs, u.oneCell' = true := fun u hu => by
  obtain ⟨j, hj, ej⟩ := List.mem_iff_getElem.1 hu
  obtain ⟨a, c, e⟩ := ownsRow_form (h j (by omega))
  rw [List.getD, List.getElem?_eq_getElem hj, Option.getD_some, ej] at e
  rw [e]; rfl
theorem own_rows {w : World} {B B' N : Nat} {G : Nat → Nat → Bool} {S : List Nat} {v : Value} {vs : List Value} (h : w.ownsRow B 39 1 v S.length vs) (hr : RowsV w B' N G S vs) : IsRows w v (S.map fun p => ints (cls N G p)) := by
  obtain ⟨a, c, rfl⟩ := ownsRow_form h
  obtain ⟨h1, h2, h3, b, h4, h5⟩ := ownsRow_cap h
  have hl : (S.map fun p => ints (cls N G p)).length = S.length := List.length_map _
  have hvs : vs.length = S.length := by have := h.1; omega
  refine ⟨a, c, b, 0, by rw [hl], by rw [hl]; exact h1, h2, fun hp => (h4 (by rw [hl] at hp; exact hp)).1, h3, fun j hj => ?_⟩
  rw [hl] at hj
  have e : vs[j]? = some (vs.getD j (.bool false)) := by rw [List.getD, List.getElem?_eq_getElem (by omega)]; rfl
  refine ⟨vs.getD j (.bool false), by rw [Nat.zero_add]; exact h5 j _ e, ?_⟩
  have e2 : (S.map fun p => ints (cls N G p)).getD j [] = ints (cls N G (S.getD j 0)) := by simp [List.getD, List.getElem?_eq_getElem hj]
  rw [e2]
  exact IsInts.owned (hr j hj)
theorem RowsV.below {w w' : World} {B N : Nat} {G : Nat → Nat → Bool} {Q : List Nat} {vs : List Value} (h : RowsV w B N G Q vs) (hb : Below w.heap.size w w') : RowsV w' B N G Q vs := fun j hj => ownsRow_below (h j hj) hb (Nat.le_refl _)
theorem RowsV.set {w : World} {B N q : Nat} {G : Nat → Nat → Bool} {Q : List Nat} {vs : List Value} (h : RowsV w B N G Q vs) (hq : q < B) (k : Nat) (x : Value) : RowsV (w.setCell ⟨q, k, none⟩ x) B N G Q vs := fun j hj => (h j hj).kept (grown_set w q k x) (own_side (h j hj) hq)
/-- One taken out. -/
theorem RowsV.drop {w : World} {B N i : Nat} {G : Nat → Nat → Bool} {Q : List Nat} {vs : List Value} (h : RowsV w B N G Q vs) (hl : vs.length = Q.length) (hi : i < Q.length) : RowsV w B N G (Q.take i ++ Q.drop (i + 1)) (vs.take i ++ vs.drop (i + 1)) := fun j hj => by
  have e : ∀ {α : Type} (L : List α) (d : α), i < L.length → (L.take i ++ L.drop (i + 1)).getD j d = L.getD (if j < i then j else j + 1) d := fun L d hL => by
    have ht : (L.take i).length = i := by rw [List.length_take]; omega
    by_cases c : j < i
    · rw [if_pos c, List.getD, List.getD, List.getElem?_append_left (by omega), List.getElem?_take_of_lt c]
    · rw [if_neg c, List.getD, List.getD, List.getElem?_append_right (by omega), ht, List.getElem?_drop, show i + 1 + (j - i) = j + 1 by omega]
  rw [e Q 0 hi, e vs (.bool false) (by omega)]
  refine h _ ?_
  rw [List.length_append, List.length_take, List.length_drop] at hj
  split <;> omega
theorem cut_len {α : Type} {L : List α} {n i : Nat} (h : L.length = n) (hi : i < n) : (L.take i ++ L.drop (i + 1)).length = i + (n - (i + 1)) := by
  rw [List.length_append, List.length_take, List.length_drop]; omega
theorem RowsV.snoc {w : World} {B N p : Nat} {G : Nat → Nat → Bool} {S : List Nat} {vs : List Value} {r : Value} (h : RowsV w B N G S vs) (hl : vs.length = S.length) (hr : w.ownsRow B 3 1 r (cls N G p).length (nvals (cls N G p))) : RowsV w B N G (S ++ [p]) (vs ++ [r]) := fun j hj => by
  rw [List.length_append, List.length_singleton] at hj
  by_cases e : j = S.length
  · have e1 : (S ++ [p]).getD j 0 = p := by subst e; simp [List.getD]
    have e2 : (vs ++ [r]).getD j (.bool false) = r := by subst e; rw [← hl]; simp [List.getD]
    rw [e1, e2]; exact hr
  · have e1 : (S ++ [p]).getD j 0 = S.getD j 0 := by simp [List.getD, List.getElem?_append_left (show j < S.length by omega)]
    have e2 : (vs ++ [r]).getD j (.bool false) = vs.getD j (.bool false) := by simp [List.getD, List.getElem?_append_left (show j < vs.length by omega)]
    rw [e1, e2]; exact h j (by omega)

set_option maxHeartbeats 6400000 in
set_option maxRecDepth 100000 in
theorem strong_ok {l : List (Int × Int)} {N : Nat} (hgood : GoodArcs N l) (s : Value) (w : World) (h : IsEdges w s l) :
    Calls Try.prog 44 #[.int .i64 (N : Int), s] w (StrongPost l N w) := by
  obtain ⟨ad, cap, rfl⟩ := h.form
  have hN : N ≤ 100 := by have := hgood.hi; omega
  have Hg := Lib.hid hgood
  have hF := FRes.start w
  have cz0 := hF.hz.cell (show 0 < 2 by omega)
  have cz1 := hF.hz.cell (show 1 < 2 by omega)
  have zz0 := hF.hz.frozen 0
  have zz1 := hF.hz.frozen 1
  have he1 := h.below hF.hb
  have HF := Lib.hid hF; have He1 := Lib.hid he1
  have hmk := run_make_row' (P := Try.prog) 44 60 (.slice none 0 0) 24 Try.underlying44 infoG rfl .i64 .i64 N (by omega) (by omega)
  clear hgood hF he1 h cz0 cz1 zz0 zz1
  go_enter Try.func44, Try.ntmps44
  go_upto_region 1 with fail
  generalize w.alloc (Obj.cells #[Value.int IntKind.i64 0, Value.int IntKind.i64 0] 27) = w1 at *
  go_upto_region 2 with (go_at_call 68; refine (parcs_any l N _ w1 He1.out).mono ?_; rintro e w2 ⟨c, a, hs2, rfl, hb2⟩; obtain ⟨rfl, rfl⟩ := hs2.uniq Hg.out.spec; have b3 := hb2.trans ((below1 w2 (Obj.cells #[.int .i64 0, .int .i64 0] 27)).mono hb2.size); have F2 := Lib.hid (HF.out.below b3); have E2 := Lib.hid (He1.out.below b3); have e01 := two_cells w2 (.int .i64 0) (.int .i64 0) 27; clear hb2 hs2 b3)
  generalize w2.alloc (Obj.cells #[.int .i64 0, .int .i64 0] 27) = w3 at *
  obtain ⟨e0, e1⟩ := e01
  clear HF He1
  go_upto_region 4 with fail
  clear e0 e1
  have hrow := World.rowIs_made w3 (.slice none 0 0) N 60
  have hb4 := below1 w3 (.cells (madeCells #[.slice none 0 0] N) 60)
  have hz4 : w3.heap.size < (w3.alloc (.cells (madeCells #[.slice none 0 0] N) 60)).heap.size := by simp
  have T4 := Lib.hid (ToS.mk (w := w3) (bT := w3.heap.size) (N := N) (k := 0) (R := fun _ => 0) (G := gA l) hb4 (Nat.le_refl _) (hrow.congr fun i _ => by simp) (fun i hi => absurd hi (Nat.not_lt_zero _)) (fun i hi => absurd hi (Nat.not_lt_zero _)))
  clear hrow hb4
  go_upto_region 5 with fail
  clear hmk
  generalize w3.alloc (.cells (madeCells #[.slice none 0 0] N) 60) = w4 at *
  generalize hbT : w3.heap.size = bT at *
  have HbT := Lib.hid hbT
  clear hbT
  go_wp2
  go_loopg [30] N (fun g s30 wr => ∃ (k : Nat) (R : Nat → Nat), k ≤ N ∧ g = N - k ∧ s30 = .int .i64 k ∧ ToS w3 wr bT N k R (gA l))
  case atStart => exact ⟨0, _, Nat.zero_le _, rfl, rfl, T4.out⟩
  case round =>
    obtain ⟨k, R, hk, rfl, rfl, hT⟩ := hrel
    have HT := Lib.hid hT
    have hzT := hT.head.lt
    by_cases hlt : k < N
    · have he := E2.out.below hT.hb
      have He := Lib.hid he
      clear hT he
      go_wp2_with (go_at_call 69; refine (preach_any Hg.out hlt _ wr He.out).mono ?_; rintro e w6 ⟨b, I, rfl, hlo, hr6, hb6, hI⟩; have T6 := Lib.hid (HT.out.below hb6); have Hr6 := Lib.hid (row_rb hr6 fun q _ => (show I q = gA l k q from by rw [Bool.eq_iff_iff, gA_iff]; exact hI q)); have t6 := T6.out.head.cell hlt; have f6 := T6.out.head.frozen k; have l6 := T6.out.head.lt; clear hr6 hb6 hI)
      go_roundg (N - (k + 1))
      case measure => go_light; omega
      case rel => exact ⟨k + 1, _, by omega, rfl, by go_num, T6.out.put hlt (by omega) Hr6.out⟩
    · obtain rfl : N = k := by omega
      clear hT
      obtain ⟨wp, rfl⟩ : ∃ wp : World, wp = wr := ⟨_, rfl⟩
      have hmk2 := run_make_row' (P := Try.prog) 60 4 (.bool false) 1 Try.underlying60 info4 rfl .i64 .i64 N (by omega) (by omega)
      have hr5 := World.rowIs_made wp (.bool false) N 4
      have hb5 := below1 wp (.cells (madeCells #[.bool false] N) 4)
      have hz5 : (wp.alloc (.cells (madeCells #[.bool false] N) 4)).heap.size = wp.heap.size + 1 := World.size_alloc _ _
      have Hr5 := Lib.hid (hr5.congr (g := rb fun _ => false) fun _ _ => rfl)
      have T5 := Lib.hid (HT.out.below hb5)
      clear hr5 hb5
      go_upto_region 11 with fail
      clear hmk2
      generalize wp.alloc (.cells (madeCells #[.bool false] N) 4) = w5 at *
      generalize hbD : wp.heap.size = bD at *
      have HbD := Lib.hid hbD
      have hPre := gA_pre l N
      have HP := Lib.hid hPre
      clear hbD hPre
      generalize hG : gA l = G at *
      have HG := Lib.hid hG
      clear hG
      have hTD : ∀ i, i < N → R i < bD := fun i hi => by have := (HT.out.row i hi).lt; rw [HbD.out] at this; exact this
      have HTD := Lib.hid hTD
      clear hTD
      have hTb : bT < bD := by have := HT.out.head.lt; rw [HbD.out] at this; exact this
      have hDz : bD < w5.heap.size := by omega
      have tat : ∀ (wz : World), w5.grownBy wz (some bD) → ∀ (i j : Nat), i < N → j < N → wz.cell? ⟨bT, i, none⟩ = some (.slice (some ⟨R i, 0, none⟩) N N) ∧ wz.cell? ⟨R i, j, none⟩ = some (.bool (G i j)) := fun wz hg i j hi hj =>
        T5.out.at hi hj fun q hq hc => hg.block q hq (fun e => by
          have := Option.some.inj e
          rcases hc with rfl | ⟨i, hi, rfl⟩
          · omega
          · have := HTD.out i hi; omega)
      have Tat := Lib.hid tat
      clear tat
      go_wp2
      go_loopg [10, 44] N (fun g s10 s44 wr => ∃ k : Nat, k ≤ N ∧ g = N - k ∧ s44 = .int .i64 k ∧ PaS w5 wr N bD (inP G k) ∧ PRow wr w5.heap.size s10 ((lds G k).map (cls N G)))
      case atStart => exact ⟨0, Nat.zero_le _, rfl, rfl, ⟨World.grownBy.refl _ _, row_rb Hr5.out fun q _ => by simp [inP]⟩, PRow.nil _ _⟩
      case round =>
        obtain ⟨k, hk, rfl, rfl, hpa, hpr⟩ := hrel
        obtain ⟨wq, rfl⟩ : ∃ wq : World, wq = wr := ⟨_, rfl⟩
        have Hpa := Lib.hid hpa
        obtain ⟨vals, k1, k2⟩ := hpr
        obtain ⟨aO, cO, rfl⟩ := ownsRow_form k1
        rw [List.length_map] at k1
        rw [List.length_map]
        have hll := lds_len G k
        have K1 := Lib.hid k1; have K2 := Lib.hid k2
        have hzq := hpa.g.size
        clear k1 k2
        by_cases hlt : k < N
        · have cd := hpa.done.cell hlt
          simp only [rb] at cd
          have hls := lds_succ G k
          clear hpa
          cases hld : inP G k k with
          | true =>
            rw [hld] at cd
            have hl : ldB G k = false := by rw [ldB_inP, hld]; rfl
            rw [if_neg (by rw [hl]; simp), List.append_nil] at hls
            have Hls := Lib.hid hls; have Hl := Lib.hid hl
            clear hl hls hld
            go_wp2
            go_roundg (N - (k + 1))
            case measure => go_light; omega
            case rel => exact ⟨k + 1, by omega, rfl, by go_num, Hpa.out.congr fun q hq => (HP.out.other hlt Hl.out q hq).symm, by rw [Hls.out]; exact ⟨vals, by rw [List.length_map]; exact K1.out, K2.out⟩⟩
          | false =>
            rw [hld] at cd
            have hl : ldB G k = true := by rw [ldB_inP, hld]; rfl
            rw [if_pos hl] at hls
            have Hls := Lib.hid hls; have Hl := Lib.hid hl
            have hst := HP.out.clsTo_start hl
            have Hst := Lib.hid hst
            clear hl hls hld hst
            go_wp2
            clear cd
            go_loopg [12, 13] (N - k) (fun g s12 s13 wr => ∃ i : Nat, k ≤ i ∧ i ≤ N ∧ g = N - i ∧ s13 = .int .i64 i ∧ PaS w5 wr N bD (fun q => inP G k q || (decide (q < i) && eqvB G k q)) ∧ wq.grownBy wr (some bD) ∧ wr.ownsRow wq.heap.size 3 1 s12 (clsTo G k i).length (nvals (clsTo G k i)))
            case atStart => exact ⟨k, Nat.le_refl _, hk, rfl, rfl, Hpa.out.congr fun q hq => by
              by_cases e : q < k
              · rw [HP.out.ge Hl.out e]; simp
              · simp [e], World.grownBy.refl _ _, by rw [Hst.out]; exact World.ownsRow_nil _ _ _ _⟩
            case round =>
              obtain ⟨i, hki, hi, rfl, rfl, hp3, hg3, ho3⟩ := hrel
              obtain ⟨aP, cP, rfl⟩ := ownsRow_form ho3
              have Hp3 := Lib.hid hp3; have Hg3 := Lib.hid hg3; have Ho3 := Lib.hid ho3
              have hcl := clsTo_len G k i
              have hz3 := hg3.size
              clear hg3 ho3
              by_cases hil : i < N
              · obtain ⟨t1, t2⟩ := Tat.out _ hp3.g _ _ hlt hil
                obtain ⟨t3, t4⟩ := Tat.out _ hp3.g _ _ hil hlt
                have cd := hp3.done.cell hil
                have fd := hp3.done.frozen i
                have ld := hp3.done.lt
                simp only [rb] at cd
                have hsu := clsTo_succ G k i
                have heq : eqvB G k i = (G k i && G i k) := rfl
                rw [heq] at hsu
                clear hp3
                by_cases hb : (G k i && G i k) = true
                · rw [if_pos hb] at hsu
                  have hb2 : G k i = true ∧ G i k = true := by simpa using hb
                  have Hb := Lib.hid (heq.trans hb); have Hsu := Lib.hid hsu
                  rw [hb2.1] at t2
                  rw [hb2.2] at t4
                  clear hb hsu heq hb2
                  generalize hcc : clsTo G k i = cc at *
                  have Hcc := Lib.hid hcc
                  clear hcc
                  go_upto_region 22 with (at_builtin; refine wpList_append_has rfl (.tmp 73) (.tmp 75) 39 rfl wq.heap.size 3 (.int .i64 0) 8 Try.underlying39 info3 rfl (.slice aP cc.length cP) cc.length (nvals cc) rfl (Ho3.out.alloc _) _ 1 (nvals [i]) rfl (HasCells.one _ _ _ rfl) (by omega) (by omega) (by simp; omega) ?_; intro a8 c8 w8 ho8 hg8; have P8 := Lib.hid ((Hp3.out.below (below1 wr (Obj.cells #[.int .i64 (i : Int)] 3))).grown hg8 (fun q e => by have := (Ho3.out.lt q e).1; omega) hDz); have G8 := Lib.hid ((Hg3.out.trans (World.grownBy_alloc wr (Obj.cells #[.int .i64 (i : Int)] 3) (some bD))).andThen hg8 (fun q e => Or.inl (Ho3.out.lt q e).1)); have Ho8 := Lib.hid ho8; clear ho8 hg8)
                  have cd8 := P8.out.done.cell hil
                  have fd8 := P8.out.done.frozen i
                  have ld8 := P8.out.done.lt
                  clear t1 t2 t3 t4 cd fd ld
                  go_wp2
                  go_roundg (N - (i + 1))
                  case measure => go_light; omega
                  case rel => exact ⟨i + 1, by omega, by omega, rfl, by go_num, (P8.out.set i true).congr fun q hq => by
                    by_cases e : q = i
                    · subst e; simp [Hb.out]
                    · rw [if_neg e]
                      have : decide (q < i + 1) = decide (q < i) := by simp; omega
                      rw [this], G8.out.trans (grown_set _ bD i _), by
                    have h9 := Ho8.out.kept (grown_set w8 bD i (.bool true)) (own_side Ho8.out (by omega))
                    rw [Hsu.out]
                    simpa [nvals, ints] using h9⟩
                · have hb' : (G k i && G i k) = false := by simpa using hb
                  rw [if_neg hb, List.append_nil] at hsu
                  have Hb := Lib.hid (heq.trans hb'); have Hsu := Lib.hid hsu
                  clear hb hsu heq
                  have fin : PaS w5 wr N bD (fun q => inP G k q || (decide (q < i + 1) && eqvB G k q)) := Hp3.out.congr fun q hq => by
                    by_cases e : q = i
                    · subst e; simp [Hb.out]
                    · have : decide (q < i + 1) = decide (q < i) := by simp; omega
                      rw [this]
                  have Hfin := Lib.hid fin
                  clear fin
                  cases h1 : G k i with
                  | false =>
                    rw [h1] at t2
                    clear hb' h1 t3 t4
                    go_wp2
                    go_roundg (N - (i + 1))
                    case measure => go_light; omega
                    case rel => exact ⟨i + 1, by omega, by omega, rfl, by go_num, Hfin.out, Hg3.out, by rw [Hsu.out]; exact Ho3.out⟩
                  | true =>
                    rw [h1] at t2 hb'
                    have h2 : G i k = false := by simpa using hb'
                    rw [h2] at t4
                    clear hb' h1 h2
                    go_wp2
                    go_roundg (N - (i + 1))
                    case measure => go_light; omega
                    case rel => exact ⟨i + 1, by omega, by omega, rfl, by go_num, Hfin.out, Hg3.out, by rw [Hsu.out]; exact Ho3.out⟩
              · obtain rfl : i = N := by omega
                clear hp3
                have hcls : clsTo G k i = cls i G k := rfl
                rw [hcls] at Ho3 hcl ⊢
                clear hcls
                have hk1' := K1.out.kept Hg3.out (own_side K1.out hDz)
                have K1' := Lib.hid hk1'
                have K2' := Lib.hid (show ∀ j, j < ((lds G k).map (cls i G)).length → ∃ r, vals[j]? = some r ∧ wr.ownsRow w5.heap.size 3 1 r (((lds G k).map (cls i G)).getD j []).length (nvals (((lds G k).map (cls i G)).getD j [])) from fun j hj => by
                  obtain ⟨r, e, ho⟩ := K2.out j hj
                  exact ⟨r, e, ho.kept Hg3.out (own_side ho hDz)⟩)
                have Ho4 := Lib.hid (ownsRow_low Ho3.out hzq)
                clear hk1' K1 K2
                generalize hnl : (lds G k).length = nl at *
                have Hnl := Lib.hid hnl
                clear hnl
                go_wp2_with (at_builtin; refine wpList_append_at rfl (.tmp 80) (.tmp 82) 30 rfl w5.heap.size 39 (.slice none 0 0) 24 Try.underlying30 infoS rfl (.slice aO nl cO) nl vals rfl (K1'.out.alloc _) _ 1 [.slice aP (cls i G k).length cP] rfl (HasCells.one _ _ _ rfl) (by omega) (by omega) (by omega) (by simp; omega) ?_; intro a8 c8 w8 ho8 hg8 hat8; have P8 := Lib.hid ((Hp3.out.below (below1 wr (Obj.cells #[.slice aP (cls i G k).length cP] 39))).grown hg8 (fun q e => (K1'.out.lt q e).1) hDz); have R8 := Lib.hid (PRow.more (m := (lds G k).map (cls i G)) (x := cls i G k) (by rw [List.length_map, Hnl.out]; exact K1'.out) K2'.out Ho4.out (by rw [List.length_map, Hnl.out]; exact ho8) hg8); clear ho8 hg8 hat8)
                go_roundg (i - (k + 1))
                case measure => go_light; omega
                case rel => exact ⟨k + 1, by omega, rfl, by go_num, P8.out.congr fun q hq => by rw [inP_succ]; simp [hq], by rw [Hls.out, List.map_append]; exact R8.out⟩
        · obtain rfl : k = N := by omega
          have hg6 := hpa.g
          have F6 := Lib.hid (F2.out.below ((T5.out.hb.grown hg6 T5.out.hb.size (fun q e => by have := Option.some.inj e; have := T5.out.lo; have := HT.out.hb.size; omega))))
          have hQ0 : leftQ k G [] = lds G k := by unfold leftQ; exact List.filter_eq_self.2 fun v _ => by simp
          have hvl : vals.length = (lds G k).length := by have := K1.out.1; omega
          have hR0 : RowsV wq w5.heap.size k G (leftQ k G []) vals := fun j hj => by
            rw [hQ0] at hj ⊢
            obtain ⟨r, e, ho⟩ := K2.out j (by rw [List.length_map]; exact hj)
            have e1 : vals.getD j (.bool false) = r := by rw [List.getD, e]; rfl
            have e2 : ((lds G k).map (cls k G)).getD j [] = cls k G ((lds G k).getD j 0) := by simp [List.getD, List.getElem?_eq_getElem hj]
            rw [e2] at ho
            rw [e1]
            exact ho
          have hS0 : StE wq wq (leftQ k G []).length 0 (.slice aO (leftQ k G []).length cO) (.slice none 0 0) vals [] := by
            rw [hQ0]
            obtain ⟨a, c, e, h1, h2, h3, h4⟩ := VSl.own K1.out
            refine ⟨Below.refl _ _, ⟨a, c, e, h1, h2, h3, fun hn => ?_⟩, World.ownsRow_nil _ _ _ _⟩
            obtain ⟨b, off, e2, h5⟩ := h4 hn
            exact ⟨b, off, e2, by simp [Value.ownBlock], h5⟩
          have hle : (leftQ k G []).length ≤ k := by rw [hQ0]; exact lds_len G k
          have hz6 := hg6.size
          have hlw : w.heap.size < w5.heap.size := by have := F2.out.hz.lt; have := T5.out.hb.size; omega
          have HR0 := Lib.hid hR0; have HS0 := Lib.hid hS0; have Hg6 := Lib.hid hg6
          rw [← hQ0]
          clear hpa hg6 hvl hR0 hS0 hQ0
          go_wp2
          go_loopg [10, 14] k (fun g s10 s14 wr => ∃ (S : List Nat) (vq vs : List Value), (leftQ k G S).length ≤ g ∧ SelOk k G S ∧ StE wq wr (leftQ k G S).length S.length s10 s14 vq vs ∧ RowsV wq w5.heap.size k G (leftQ k G S) vq ∧ RowsV wq w5.heap.size k G S vs)
          case atStart => exact ⟨[], vals, [], hle, SelOk.nil, HS0.out, HR0.out, fun j hj => absurd hj (Nat.not_lt_zero _)⟩
          case round =>
            clear HS0 HR0 hle
            obtain ⟨S, vq, vs, hg, hsel, hst, hrq, hrs⟩ := hrel
            obtain ⟨a0, cap0, rfl, hc1, hc2, hc3, hc4⟩ := hst.out
            obtain ⟨aS, cS, rfl⟩ := ownsRow_form hst.own
            have hQm : ∀ j, j < (leftQ k G S).length → (leftQ k G S).getD j 0 ∈ leftQ k G S := fun j hj => by rw [List.getD, List.getElem?_eq_getElem hj]; exact List.getElem_mem _
            have hQN : ∀ j, j < (leftQ k G S).length → (leftQ k G S).getD j 0 < k ∧ ldB G ((leftQ k G S).getD j 0) = true := fun j hj => lds_mem.1 (leftQ_mem.1 (hQm j hj)).1
            have hSl : S.length ≤ k := by
              exact nodup_few k S hsel.nd fun v hv => (lds_mem.1 (hsel.mem v hv)).1
            have hQl : (leftQ k G S).length ≤ 100 := by have := List.length_filter_le (fun v => !S.contains v) (lds G k); have := lds_len G k; unfold leftQ; omega
            have Hst := Lib.hid hst; have Hrq := Lib.hid hrq; have Hrs := Lib.hid hrs; have Hsel := Lib.hid hsel; have Hg1 := Lib.hid hg
            have HQm := Lib.hid hQm; have HQN := Lib.hid hQN
            clear hst hrq hrs hsel hg hQm hQN
            generalize hQ : leftQ k G S = Q at *
            have HQ := Lib.hid hQ
            clear hQ
            by_cases hn : 0 < Q.length
            · obtain ⟨b, off, rfl, hsep, hcell⟩ := hc4 hn
              have Hcell := Lib.hid hcell; have Hsep := Lib.hid hsep
              generalize hnQ : Q.length = n at *
              have HnQ := Lib.hid hnQ
              have hnI : (0 : Int) < (n : Int) := by omega
              have Hinj := Lib.hid (show ∀ a b, a < n → b < n → Q.getD a 0 = Q.getD b 0 → a = b from fun a b ha hb e => by
                have hr := leftQ_rise (N := k) (G := G) S
                rw [HQ.out, List.pairwise_iff_getElem] at hr
                rw [List.getD, List.getD, List.getElem?_eq_getElem (by omega), List.getElem?_eq_getElem (by omega)] at e
                simp only [Option.getD_some] at e
                rcases Nat.lt_trichotomy a b with h | h | h
                · have := hr a b (by omega) (by omega) h; omega
                · exact h
                · have := hr b a (by omega) (by omega) h; omega)
              clear hcell hsep hnQ
              obtain ⟨w7, rfl⟩ : ∃ w7 : World, w7 = wr := ⟨_, rfl⟩
              have hg7 := Lib.hid (Hg6.out.trans ((grown_of_below ⟨Hst.out.hb.os, Hst.out.hb.tape, Hst.out.hb.output, Hst.out.hb.size, Hst.out.hb.block⟩).but (some bD)))
              go_wp2
              go_loopg [10, 14, 90] n (fun g s10 s14 s90 wr => ∃ i m : Nat, i ≤ n ∧ g = n - i ∧ s10 = .slice (some ⟨b, off, none⟩) n cap0 ∧ s14 = .slice aS S.length cS ∧ s90 = .int .i64 i ∧ wr = w7.drewN m ∧ ∀ j, j < i → ¬ MinQ G Q (Q.getD j 0))
              case atStart => exact ⟨0, 0, Nat.zero_le _, rfl, rfl, rfl, rfl, rfl, fun j hj => absurd hj (Nat.not_lt_zero _)⟩
              case round =>
                obtain ⟨i, m, hi, rfl, rfl, rfl, rfl, rfl, hno⟩ := hrel
                have Hno := Lib.hid hno
                clear hno
                by_cases hil : i < n
                · have ci := Hcell.out i hil
                  obtain ⟨bi, oi, ni, ni2, ei, hni, hpi⟩ := Hrq.out.head HP.out (show i < Q.length by rw [HnQ.out]; exact hil) (HQN.out i hil)
                  have hpN := (HQN.out i hil).1
                  rw [ei] at ci
                  have hniI : (0 : Int) < (ni : Int) := by omega
                  have hp7 : w7.cell? ⟨bi, oi, none⟩ = some (.int .i64 (Q.getD i 0 : Nat)) := below_cell Hst.out.hb hpi
                  have Ei := Lib.hid ei
                  clear hpi ei
                  generalize hp : Q.getD i 0 = p at *
                  have Hp := Lib.hid hp
                  clear hp
                  go_wp2
                  clear ci
                  go_loopg [17, 97] n (fun g s17 s97 wr => ∃ (j m : Nat) (fb : Bool), j ≤ n ∧ g = n - j ∧ s97 = .int .i64 j ∧ s17 = .bool fb ∧ wr = w7.drewN m ∧ (fb = true ↔ ∀ j', j' < j → j' ≠ i → G (Q.getD j' 0) p = false))
                  case atStart => exact ⟨0, m, true, Nat.zero_le _, rfl, rfl, rfl, rfl, ⟨fun _ j' hj' => absurd hj' (Nat.not_lt_zero _), fun _ => rfl⟩⟩
                  case round =>
                    obtain ⟨j, m2, fb, hj, rfl, rfl, rfl, rfl, hfb⟩ := hrel
                    have Hfb := Lib.hid hfb
                    clear hfb
                    by_cases hjl : j < n
                    · have cj := Hcell.out j hjl
                      obtain ⟨bj, oj, nj, nj2, ej, hnj, hpj⟩ := Hrq.out.head HP.out (show j < Q.length by rw [HnQ.out]; exact hjl) (HQN.out j hjl)
                      have hqN := (HQN.out j hjl).1
                      rw [ej] at cj
                      have hnjI : (0 : Int) < (nj : Int) := by omega
                      have hq7 : w7.cell? ⟨bj, oj, none⟩ = some (.int .i64 (Q.getD j 0 : Nat)) := below_cell Hst.out.hb hpj
                      clear hpj ej
                      generalize hq : Q.getD j 0 = q at *
                      have Hq := Lib.hid hq
                      clear hq
                      obtain ⟨t1, t2⟩ := Tat.out _ hg7.out q p hqN hpN
                      cases fb with
                      | false =>
                        have HF1 := Lib.hid (show ¬ ∀ j', j' < j → j' ≠ i → G (Q.getD j' 0) p = false from fun h => absurd (Hfb.out.2 h) (by simp))
                        clear t1 t2 hq7 hp7 Hfb
                        go_wp2
                        go_quiet (fail)
                        go_wp2
                        go_roundg (n - (j + 1))
                        case measure => go_light; omega
                        case rel => exact ⟨j + 1, m2 + nq, false, by omega, rfl, by go_num, rfl, rfl, ⟨fun h => (by simp at h), fun h => absurd (fun j' hj' => h j' (by omega)) HF1.out⟩⟩
                      | true =>
                        have HF1 := Lib.hid (show ∀ j', j' < j → j' ≠ i → G (Q.getD j' 0) p = false from Hfb.out.1 rfl)
                        clear Hfb
                        by_cases hij : i = j
                        · have qij : ((i : Int) == (j : Int)) = true := by simp [hij]
                          have Hij := Lib.hid hij
                          clear hij t1 t2 hq7 hp7
                          go_wp2
                          go_quiet (fail)
                          go_wp2
                          go_roundg (n - (j + 1))
                          case measure => go_light; omega
                          case rel => exact ⟨j + 1, m2 + nq, true, by omega, rfl, by go_num, rfl, rfl, ⟨fun _ j' hj' hne => HF1.out j' (by have := Hij.out; omega) hne, fun _ => rfl⟩⟩
                        · have qij : ((i : Int) == (j : Int)) = false := by simp; omega
                          have Hij := Lib.hid hij
                          clear hij
                          generalize hgv : G q p = gv at *
                          have Hgv := Lib.hid hgv
                          clear hgv
                          go_wp2
                          go_quiet (fail)
                          go_wp2
                          go_roundg (n - (j + 1))
                          case measure => go_light; omega
                          case rel => exact ⟨j + 1, m2 + nq, !gv, by omega, rfl, by go_num, rfl, rfl, ⟨fun h j' hj' hne => by
                            by_cases e : j' = j
                            · subst e; rw [Hq.out, Hgv.out]; simpa using h
                            · exact HF1.out j' (by omega) hne, fun h => by have := h j (by omega) (fun e => Hij.out e.symm); rw [Hq.out, Hgv.out] at this; simp [this]⟩⟩
                    · obtain rfl : j = n := by omega
                      cases fb with
                      | false =>
                        have HF1 := Lib.hid (show ¬ ∀ j', j' < j → j' ≠ i → G (Q.getD j' 0) p = false from fun h => absurd (Hfb.out.2 h) (by simp))
                        clear Hfb
                        go_wp2
                        go_roundg (j - (i + 1))
                        case measure => go_light; omega
                        case rel => exact ⟨i + 1, m2, by omega, rfl, rfl, rfl, by go_num, rfl, fun j' hj' => by
                          by_cases e : j' = i
                          · subst e
                            intro hmin
                            rw [Hp.out] at hmin
                            refine HF1.out fun j2 hj2 hne => hmin _ (HQm.out j2 hj2) fun e => hne ?_
                            rw [← Hp.out] at e
                            exact Hinj.out j2 j' hj2 hil e
                          · exact Hno.out j' (by omega)⟩
                      | true =>
                        have HF1 := Lib.hid (show ∀ j', j' < j → j' ≠ i → G (Q.getD j' 0) p = false from Hfb.out.1 rfl)
                        clear Hfb
                        have hmin : MinQ G Q p := fun q hq hne => by
                          obtain ⟨j2, hj2, ej⟩ := List.mem_iff_getElem.1 hq
                          have e2 : Q.getD j2 0 = q := by rw [List.getD, List.getElem?_eq_getElem hj2]; exact ej
                          rw [← e2]
                          exact HF1.out j2 (by rw [← HnQ.out]; exact hj2) fun e => hne (by rw [← e2, e]; exact Hp.out)
                        have Hmin := Lib.hid hmin
                        clear hmin
                        have hown8 := ownsRow_below Hst.out.own (Below.drewN' (Below.refl _ w7) m2) (Nat.le_refl _)
                        have Hown8 := Lib.hid hown8
                        have hz7 := Hst.out.hb.size
                        have hb7 : b < w7.heap.size := by
                          have h1 := Hcell.out 0 hn
                          exact World.block_lt_of_cell? _ _ h1
                        clear hown8
                        have hz8 : (w7.drewN m2).heap.size = w7.heap.size := rfl
                        go_upto_region 38 with (at_builtin; refine wpList_append_at rfl (.tmp 124) (.tmp 126) 30 rfl wq.heap.size 39 (.slice none 0 0) 24 Try.underlying30 infoS rfl (.slice aS S.length cS) S.length vs rfl (Hown8.out.alloc _) _ 1 [.slice (some ⟨bi, oi, none⟩) ni ni2] rfl (HasCells.one _ _ _ rfl) (by omega) (by omega) (by omega) (by simp; omega) ?_; intro a9 c9 w9 ho9 hg9 hat9; have Ho9 := Lib.hid ho9; have Hg9 := Lib.hid hg9; have Hat9 := Lib.hid hat9; clear ho9 hg9 hat9)
                        have hb8 := below1 (w7.drewN m2) (Obj.cells #[.slice (some ⟨bi, oi, none⟩) ni ni2] 39)
                        have hcell9 : ∀ q, q < j → w9.cell? ⟨b, off + q, none⟩ = some (vq.getD q (.bool false)) := fun q hq => by
                          have h1 : (w7.drewN m2).cell? ⟨b, off + q, none⟩ = some (vq.getD q (.bool false)) := Hcell.out q hq
                          have h2 := below_cell hb8 h1
                          exact (World.cell?_of_block (a := ⟨b, off + q, none⟩) (Hg9.out.block b (World.block_lt_of_cell? _ _ h2) (fun e => Hsep.out e.symm))).trans h2
                        have hsep9 : (Value.slice a9 (S.length + 1) c9).ownBlock ≠ some b := fun e => by
                          rcases Hat9.out with h1 | h1
                          · rw [h1] at e; exact Hsep.out e
                          · rw [h1] at e; have := Option.some.inj e; rw [World.size_alloc, hz8] at this; omega
                        have hbw9 : Below wq.heap.size wq w9 := ((Below.drewN' Hst.out.hb m2).alloc (by rw [hz8]; exact hz7) (Obj.cells #[.slice (some ⟨bi, oi, none⟩) ni ni2] 39)).grown Hg9.out (by rw [World.size_alloc, hz8]; omega) (fun q e => (Hown8.out.lt q e).1)
                        have Hcell9 := Lib.hid hcell9; have Hsep9 := Lib.hid hsep9; have Hbw9 := Lib.hid hbw9
                        clear hcell9 hsep9 hbw9 hb8
                        obtain ⟨iS, hiS, -, hszS, -⟩ := info_parts infoS
                        refine region_tail 8 (by kernel_rfl) (by kernel_rfl) ?_
                        have HcA := Lib.hid (show ∀ q, q < j → w9.drew.cell? ⟨b, off + q, none⟩ = some (vq.getD q (.bool false)) from Hcell9.out)
                        have HoA := Lib.hid (ownsRow_below Ho9.out (Below.refl _ w9).drew (Nat.le_refl _))
                        have HbA := Lib.hid (Hbw9.out.drew)
                        clear Ho9 Hg9 Hat9 Hcell9 Hbw9
                        generalize w9.drew = wA at *
                        have hs3 := run_slice_3 (P := Try.prog) Try.underlying30 hiS (some ⟨b, off, none⟩) j cap0 i (by omega) (by omega)
                        obtain ⟨aL, hsL, haL⟩ := run_slice_low (P := Try.prog) Try.underlying30 hiS hszS b off j cap0 (i + 1) (by omega) (by omega) wA
                        have hsL' : (Instr.slice 30 (.slice (some ⟨b, off, none⟩) j cap0) (some (.int .i64 ((i : Int) + 1))) none none).run Try.prog wA = .ok (.slice (some aL) (j - (i + 1)) (cap0 - (i + 1))) wA := hsL
                        have hwr : IntKind.i64.wrap ((i : Int) + 1) = (i : Int) + 1 := IntWalk.i64_in _ (by omega)
                        have HaL := Lib.hid haL
                        clear hsL haL hiS hszS
                        have hvql : vq.length = j := hc3
                        simp only [List.take_succ_cons, List.take_zero, List.drop_succ_cons, List.drop_zero]
                        repeat still_step
                        refine wpStill_nil ?_
                        clear hwr hs3 hsL'
                        have hone := Hrq.out.one (by rw [HnQ.out]; exact hvql)
                        have Hone := Lib.hid hone
                        clear hone
                        go_wp2_with (at_builtin; refine wpList_append_cut rfl (.tmp 131) (.tmp 135) 30 rfl 39 (.slice none 0 0) 24 Try.underlying30 infoS rfl (by omega) b off i (vq.take i) rfl (by rw [List.length_take]; omega) (fun q u hu => ?_) aL (j - (i + 1)) (cap0 - (i + 1)) (vq.drop (i + 1)) rfl (by rw [List.length_drop]; omega) (fun q u hu => ?_) (fun u hu => Hone.out u (List.mem_of_mem_drop hu)) (by omega) ?_)
                        · have hq : q < i := by have := (List.getElem?_eq_some_iff.1 hu).1; rw [List.length_take] at this; omega
                          rw [List.getElem?_take_of_lt hq] at hu
                          have h1 := HcA.out q (by omega)
                          rw [List.getD, hu] at h1
                          exact h1
                        · have hq : q < j - (i + 1) := by have := (List.getElem?_eq_some_iff.1 hu).1; rw [List.length_drop] at this; omega
                          rw [List.getElem?_drop] at hu
                          rw [HaL.out (by omega), Addr.add_lit]
                          have h1 := HcA.out (i + 1 + q) (by omega)
                          rw [List.getD, hu] at h1
                          rw [show off + (i + 1) + q = off + (i + 1 + q) by omega]
                          exact h1
                        · intro aN cN wN hcN hcN2 hout hgN
                          have hsplit : Q = Q.take i ++ p :: Q.drop (i + 1) := by
                            have h1 : Q[i]'(by rw [HnQ.out]; exact hil) = p := by
                              have := Hp.out
                              rwa [List.getD, List.getElem?_eq_getElem (by rw [HnQ.out]; exact hil)] at this
                            rw [← h1]
                            have h2 := List.drop_eq_getElem_cons (l := Q) (i := i) (by rw [HnQ.out]; exact hil)
                            rw [← h2, List.take_append_drop]
                          have hleft : leftQ k G (S ++ [p]) = Q.take i ++ Q.drop (i + 1) := leftQ_snoc (by rw [HQ.out]; exact hsplit)
                          have hll2 : (leftQ k G (S ++ [p])).length = i + (j - (i + 1)) := by
                            rw [hleft]; exact cut_len HnQ.out hil
                          have hpm : p ∈ leftQ k G S := by rw [HQ.out, ← Hp.out]; exact HQm.out i hil
                          have hrise := leftQ_rise (N := k) (G := G) S
                          rw [HQ.out, List.pairwise_iff_getElem] at hrise
                          have hsel2 : SelOk k G (S ++ [p]) := Hsel.out.snoc hpm (by rw [HQ.out]; exact Hmin.out) fun q hq hlt => by
                            rw [HQ.out] at hq ⊢
                            obtain ⟨j2, hj2, ej⟩ := List.mem_iff_getElem.1 hq
                            have e2 : Q.getD j2 0 = q := by rw [List.getD, List.getElem?_eq_getElem hj2]; exact ej
                            rw [← e2]
                            refine Hno.out j2 ?_
                            have hp2 : Q[i]'(by rw [HnQ.out]; exact hil) = p := by
                              have := Hp.out
                              rwa [List.getD, List.getElem?_eq_getElem (by rw [HnQ.out]; exact hil)] at this
                            rcases Nat.lt_trichotomy i j2 with h | h | h
                            · have := hrise i j2 (by rw [HnQ.out]; exact hil) hj2 h; omega
                            · subst h; omega
                            · exact h
                          have hownN := HoA.out.kept hgN (by cases (Value.slice a9 (S.length + 1) c9).ownBlock <;> simp)
                          have hvsl : vs.length = S.length := by have := Hst.out.own.1; omega
                          have hstE : StE wq wN (leftQ k G (S ++ [p])).length (S ++ [p]).length (.slice aN (i + (j - (i + 1))) cN) (.slice a9 (S.length + 1) c9) (vq.take i ++ vq.drop (i + 1)) (vs ++ [.slice (some ⟨bi, oi, none⟩) ni ni2]) := by
                            rw [hll2]
                            refine ⟨HbA.out.trans ((below_grown0 hgN).mono HbA.out.size), ⟨aN, cN, rfl, hcN, hcN2, cut_len hvql hil, fun hp0 => ?_⟩, by rw [List.length_append, List.length_singleton]; exact hownN⟩
                            obtain ⟨b', off', e1, e2, e3⟩ := hout hp0
                            refine ⟨b', off', e1, fun e => ?_, fun q hq => ?_⟩
                            · rcases e2 with h | h
                              · rw [h] at e; exact Hsep9.out e
                              · have := (HoA.out.lt b' e).2; omega
                            · have hl : q < (vq.take i ++ vq.drop (i + 1)).length := by rw [cut_len hvql hil]; exact hq
                              rw [List.getD, List.getElem?_eq_getElem hl]
                              exact e3 q _ (List.getElem?_eq_getElem hl)
                          have hr1 := Hrq.out.drop (i := i) (by rw [HnQ.out]; exact hvql) (by rw [HnQ.out]; exact hil)
                          rw [← hleft] at hr1
                          have hrow := Hrq.out i (by rw [HnQ.out]; exact hil)
                          rw [Ei.out, Hp.out] at hrow
                          have hr2 := Hrs.out.snoc hvsl hrow
                          have HstE := Lib.hid hstE; have Hsel2 := Lib.hid hsel2; have Hr1 := Lib.hid hr1; have Hr2 := Lib.hid hr2; have Hll2 := Lib.hid hll2
                          clear hstE hsel2 hr1 hr2 hll2 hrow hvsl hownN hrise hpm hleft hsplit hout hgN hcN hcN2
                          go_wp2
                          go_roundg ((leftQ k G (S ++ [p])).length)
                          case measure =>
                            have h1 := Hg1.out
                            have h2 := Hll2.out
                            go_light; omega
                          case rel => exact ⟨S ++ [p], _, _, Nat.le_refl _, Hsel2.out, HstE.out, Hr1.out, Hr2.out⟩
                · obtain rfl : i = n := by omega
                  obtain ⟨p, hp, hm⟩ := HP.out.least (Q := Q) (fun q hq => by
                    obtain ⟨j, hj, ej⟩ := List.mem_iff_getElem.1 hq
                    have := HQN.out j (by rw [← HnQ.out]; exact hj)
                    rw [List.getD, List.getElem?_eq_getElem hj, Option.getD_some, ej] at this
                    exact this) (fun e => by rw [e] at HnQ; have := HnQ.out; simp at this; omega)
                  obtain ⟨j, hj, ej⟩ := List.mem_iff_getElem.1 hp
                  have h1 := Hno.out j (by rw [← HnQ.out]; exact hj)
                  rw [List.getD, List.getElem?_eq_getElem hj, Option.getD_some, ej] at h1
                  exact absurd hm h1
            · have hn0 : Q.length = 0 := by omega
              have hQnil : Q = [] := List.eq_nil_of_length_eq_zero hn0
              have F7 := Lib.hid (F6.out.below (Below.mk (B := wq.heap.size) Hst.out.hb.os Hst.out.hb.tape Hst.out.hb.output Hst.out.hb.size Hst.out.hb.block))
              have cz0 := F7.out.hz.cell (show 0 < 2 by omega)
              have cz1 := F7.out.hz.cell (show 1 < 2 by omega)
              have zz0 := F7.out.hz.frozen 0
              have zz1 := F7.out.hz.frozen 1
              have hBl := F7.out.hz.lt
              obtain ⟨e0, e1, e2⟩ := F7.out.put (.int .i64 0) (.int .i64 0)
              have ho1 := (Hst.out.own.kept (grown_set wr w.heap.size 0 (.int .i64 0)) (own_side Hst.out.own (by omega))).kept (grown_set _ w.heap.size 1 (.int .i64 0)) (own_side Hst.out.own (by omega))
              have hrf := ((Hrs.out.below (Below.mk (B := wq.heap.size) Hst.out.hb.os Hst.out.hb.tape Hst.out.hb.output Hst.out.hb.size Hst.out.hb.block)).set (show w.heap.size < w5.heap.size by omega) 0 (.int .i64 0)).set (show w.heap.size < w5.heap.size by omega) 1 (.int .i64 0)
              have Hrf := Lib.hid (own_rows ho1 hrf)
              have HQn := Lib.hid hQnil
              rw [hn0]
              clear ho1 hrf hQnil hc4 hc3 hc1 hn hn0
              go_wp2
              exact bodyPost_ret (v := .tuple #[.slice aS S.length cS, .agg #[.int .i64 0, .int .i64 0]]) (by simp [results, Try.results44, go_sem, e0, e1]) rfl ⟨_, S, rfl, by rw [HG.out]; exact Hsel.out, by rw [HG.out, HQ.out]; exact HQn.out, by rw [HG.out]; exact Hrf.out, e2⟩

end Go.Proofs.Ytmhcnekbfngafaa
