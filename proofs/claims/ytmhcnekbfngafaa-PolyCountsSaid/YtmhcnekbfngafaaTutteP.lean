/- What poly.Tutte answers; how far a table goes, met entry by entry. -/
import Derived.Test.YtmhcnekbfngafaaTutW
import Derived.Test.YtmhcnekbfngafaaPB
import Derived.Test.YtmhcnekbfngafaaGood
namespace Go.Proofs.Ytmhcnekbfngafaa
open Go Go.RowKit Go.Maps

def TutSpec (n : Int) (l : List (Int × Int)) (c a : Int) (ll : List (List Int)) : Prop :=
  (GraphSpec n l c a ∧ c ≠ 0 ∧ ll = []) ∨ (GraphSpec n l 0 0 ∧ 12 < l.length ∧ c = 2 ∧ a = 0 ∧ ll = []) ∨
    (GraphSpec n l 0 0 ∧ l.length ≤ 12 ∧ c = 0 ∧ a = 0 ∧ ∃ R C, IsDims (tutN id (elN l)) R C ∧ ll = tabL (tutN id (elN l)) R C)
def TuttePost (n : Int) (l : List (Int × Int)) (w : World) (e : Ending) (w' : World) : Prop :=
  ∃ c a v ll, e = .returned (.tuple #[v, .agg #[.int .i64 c, .int .i64 a]]) ∧ IsRows w' v ll ∧ TutSpec n l c a ll ∧ Below w.heap.size w w'
theorem GoodGraph.ends {N : Nat} {l : List (Int × Int)} (h : GoodGraph (N : Int) l) : EndsN N l := fun e he => by
  obtain ⟨j, hj, rfl⟩ := List.getElem_of_mem he
  have := (h.fine j hj).1
  rw [List.getD, List.getElem?_eq_getElem hj, Option.getD_some] at this
  unfold EndsOk at this
  omega
theorem below_cell' {B : Nat} {w w' : World} (h : Below B w w') {a : Addr} {v : Value} (ha : a.block < B) (hc : w.cell? a = some v) : w'.cell? a = some v := by
  rw [World.cell?_of_block (h.block _ ha)]; exact hc
theorem IsRows.nil (w : World) : IsRows w (.slice none 0 0) [] := ⟨none, 0, 0, 0, rfl, Nat.le_refl _, by omega, by simp, by simp, by simp⟩

/-- How far the entries that have been met go. -/
structure DimI (T : Nat → Nat → Int) (K : Nat) (left : Lit → Bool) (R C : Nat) : Prop where
  lt : ∀ i j, T i j ≠ 0 → Met left i j → i < R ∧ j < C
  row : ∀ r, R = r + 1 → ∃ j, T r j ≠ 0
  col : ∀ c, C = c + 1 → ∃ i, T i c ≠ 0
  few : R ≤ K + 1 ∧ C ≤ K + 1
theorem DimI.start {D : DataW Unit} {K : Nat} {T : Nat → Nat → Int} (h : Holds D K T) (hf : ∀ i j, K < i ∨ K < j → T i j = 0) (hK : K ≤ 1000) : DimI T K (Maps.has D) 0 0 where
  lt := fun i j ht hm => by
    by_cases e : K < i ∨ K < j
    · exact absurd (hf i j e) ht
    · obtain ⟨l, hl⟩ := key_ex (i := i) (j := j) (by omega) (by omega)
      exact absurd (holds_none h hl (hm l hl)) ht
  row := fun r h => by omega
  col := fun r h => by omega
  few := by omega
theorem met_step {left : Lit → Bool} {kl : Lit} {i0 j0 i j : Nat} (hkl : KeyP i0 j0 kl) (hm : Met (fun z => left z && !z.sameKey kl) i j) : Met left i j ∨ (i = i0 ∧ j = j0) := by
  by_cases e : i = i0 ∧ j = j0
  · exact Or.inr e
  · refine Or.inl fun l hl => ?_
    have h1 := hm l hl
    have : l ≠ kl := fun e2 => e (by subst e2; exact key_inj hl hkl)
    have h2 : (left l && !l.sameKey kl) = false := h1
    rw [sameKey_ne this] at h2
    simpa using h2
theorem DimI.none {T : Nat → Nat → Int} {K R C : Nat} {left : Lit → Bool} (h : DimI T K left R C) {kl : Lit} {i0 j0 : Nat} (hkl : KeyP i0 j0 kl) (h0 : T i0 j0 = 0) : DimI T K (fun z => left z && !z.sameKey kl) R C where
  lt := fun i j ht hm => by
    rcases met_step hkl hm with h1 | ⟨rfl, rfl⟩
    · exact h.lt i j ht h1
    · exact absurd h0 ht
  row := h.row
  col := h.col
  few := h.few
theorem DimI.more {T : Nat → Nat → Int} {K R C : Nat} {left : Lit → Bool} (h : DimI T K left R C) {kl : Lit} {i0 j0 : Nat} (hkl : KeyP i0 j0 kl) (h0 : T i0 j0 ≠ 0) (hi : i0 ≤ K) (hj : j0 ≤ K) : DimI T K (fun z => left z && !z.sameKey kl) (max R (i0 + 1)) (max C (j0 + 1)) where
  lt := fun i j ht hm => by
    rcases met_step hkl hm with h1 | ⟨rfl, rfl⟩
    · have := h.lt i j ht h1; omega
    · omega
  row := fun r e => by
    by_cases e2 : r = i0
    · subst e2; exact ⟨j0, h0⟩
    · exact h.row r (by omega)
  col := fun r e => by
    by_cases e2 : r = j0
    · subst e2; exact ⟨i0, h0⟩
    · exact h.col r (by omega)
  few := by have := h.few; omega
theorem DimI.dims {T : Nat → Nat → Int} {K R C : Nat} {left : Lit → Bool} (h : DimI T K left R C) (hl : ∀ l, left l = false) : IsDims T R C :=
  ⟨fun i j ht => h.lt i j ht fun l _ => hl l, h.row, h.col⟩

/-- Rows of one's own under way: k of R are there. -/
structure OutSt (w wr : World) (O R C k : Nat) (T : Nat → Nat → Int) (Rb : Nat → Nat) : Prop where
  hb : Below w.heap.size w wr
  row : wr.rowIs O 39 R (fun i => if i < k then .slice (some ⟨Rb i, 0, none⟩) C C else .slice none 0 0)
  lo : w.heap.size ≤ O
  rows : ∀ i, i < k → w.heap.size ≤ Rb i ∧ Rb i ≠ O ∧ wr.rowIs (Rb i) 3 C (ri (T i))
theorem OutSt.below {w wr w' : World} {O R C k : Nat} {T : Nat → Nat → Int} {Rb : Nat → Nat} (h : OutSt w wr O R C k T Rb) (hb : Below wr.heap.size wr w') : OutSt w w' O R C k T Rb :=
  ⟨upp0 h.hb hb, h.row.of_block (hb.block _ h.row.lt), h.lo, fun i hi => ⟨(h.rows i hi).1, (h.rows i hi).2.1, (h.rows i hi).2.2.of_block (hb.block _ (h.rows i hi).2.2.lt)⟩⟩
theorem rows_is {wr : World} {O R C : Nat} {T : Nat → Nat → Int} {Rb : Nat → Nat} (hrow : wr.rowIs O 39 R (fun i => if i < R then .slice (some ⟨Rb i, 0, none⟩) C C else .slice none 0 0)) (hr : ∀ i, i < R → wr.rowIs (Rb i) 3 C (ri (T i))) (hR : R ≤ 1000) (hC : C ≤ 1000) : IsRows wr (.slice (some ⟨O, 0, none⟩) R R) (tabL T R C) := by
  have hl : (tabL T R C).length = R := by simp [tabL]
  refine ⟨some ⟨O, 0, none⟩, R, O, 0, by rw [hl], by rw [hl]; omega, by omega, fun _ => rfl, by simp, fun j hj => ?_⟩
  rw [hl] at hj
  refine ⟨_, by rw [Nat.zero_add]; exact hrow.cell hj, ?_⟩
  have e : (tabL T R C).getD j [] = (List.range C).map fun i => T j i := by simp [tabL, List.getD, hj]
  rw [e]
  simp only [if_pos hj]
  exact IsInts.ofRow (hr j hj) (by omega)
theorem OutSt.set {w wr : World} {O R C : Nat} {T : Nat → Nat → Int} {Rb : Nat → Nat} (h : OutSt w wr O R C R T Rb) (hR : R ≤ 1000) (hC : C ≤ 1000) {B : Nat} (hB : B < w.heap.size) (x y : Value) : IsRows ((wr.setCell ⟨B, 0, none⟩ x).setCell ⟨B, 1, none⟩ y) (.slice (some ⟨O, 0, none⟩) R R) (tabL T R C) := by
  have hlo := h.lo
  refine rows_is ((h.row.setOther (a := ⟨B, 0, none⟩) (show O ≠ B by omega) x).setOther (a := ⟨B, 1, none⟩) (show O ≠ B by omega) y) (fun i hi => ?_) hR hC
  obtain ⟨h1, h2, h3⟩ := h.rows i hi
  exact (h3.setOther (a := ⟨B, 0, none⟩) (show Rb i ≠ B by omega) x).setOther (a := ⟨B, 1, none⟩) (show Rb i ≠ B by omega) y
theorem own_blk {H : Type} {P : Program} {k : TypeId} {R : Value → Option (DataW H × List MemPlace)} {w w' : World} {b n : Nat} {D : DataW H} (h : w.ownsMap P k R b n D) (hb : w'.heap[b]? = w.heap[b]?) : w'.ownsMap P k R b n D := by
  obtain ⟨es, clock, h1, h2⟩ := h
  exact ⟨es, clock, by rw [hb]; exact h1, h2⟩

/-- Row k is being filled: q of its places are. -/
structure OutQ (w wr : World) (O R C k q : Nat) (T : Nat → Nat → Int) (Rb : Nat → Nat) (A : Nat) : Prop where
  hb : Below w.heap.size w wr
  row : wr.rowIs O 39 R (fun i => if i < k then .slice (some ⟨Rb i, 0, none⟩) C C else if i = k then .slice (some ⟨A, 0, none⟩) C C else .slice none 0 0)
  lo : w.heap.size ≤ O
  rows : ∀ i, i < k → w.heap.size ≤ Rb i ∧ Rb i ≠ O ∧ Rb i ≠ A ∧ wr.rowIs (Rb i) 3 C (ri (T i))
  la : w.heap.size ≤ A ∧ A ≠ O
  ra : wr.rowIs A 3 C (ri fun j => if j < q then T k j else 0)
theorem OutSt.begin {w wr : World} {O R C k : Nat} {T : Nat → Nat → Int} {Rb : Nat → Nat} (h : OutSt w wr O R C k T Rb) : OutQ w ((wr.setCell ⟨O, k, none⟩ (.slice (some ⟨wr.heap.size, 0, none⟩) C C)).alloc (.cells (madeCells #[.int .i64 0] C) 3)) O R C k 0 T Rb wr.heap.size := by
  rw [← World.setCell_alloc_past (w := wr) _ O k _ h.row.lt]
  have h1 := h.below (below1 wr (.cells (madeCells #[.int .i64 0] C) 3))
  have hO := h.row.lt
  refine ⟨h1.hb.setCell (p := ⟨O, k, none⟩) h.lo _, (h1.row.set k _).congr fun i hi => ?_, h.lo, fun i hi => ⟨(h.rows i hi).1, (h.rows i hi).2.1, ?_, (h1.rows i hi).2.2.setOther (a := ⟨O, k, none⟩) (h.rows i hi).2.1 _⟩, ⟨h.hb.size, by omega⟩, ?_⟩
  · by_cases e : i = k
    · subst e; simp
    · simp [e]
  · have := (h.rows i hi).2.2.lt; omega
  · exact (row_ri ((World.rowIs_made wr (.int .i64 0) C 3).congr (g := ri fun _ => 0) fun _ _ => rfl) fun j _ => by simp).setOther (a := ⟨O, k, none⟩) (show wr.heap.size ≠ O by omega) _
theorem OutQ.put {w wr : World} {O R C k q : Nat} {T : Nat → Nat → Int} {Rb : Nat → Nat} {A : Nat} (h : OutQ w wr O R C k q T Rb A) : OutQ w (wr.setCell ⟨A, q, none⟩ (.int .i64 (T k q))) O R C k (q + 1) T Rb A := by
  refine ⟨h.hb.setCell (p := ⟨A, q, none⟩) h.la.1 _, h.row.setOther (a := ⟨A, q, none⟩) (Ne.symm h.la.2) _, h.lo, fun i hi => ⟨(h.rows i hi).1, (h.rows i hi).2.1, (h.rows i hi).2.2.1, (h.rows i hi).2.2.2.setOther (a := ⟨A, q, none⟩) (h.rows i hi).2.2.1 _⟩, h.la, row_ri (row_set_ri h.ra q (T k q)) fun j _ => ?_⟩
  by_cases e : j = q
  · subst e; rw [if_pos rfl, if_pos (by omega)]
  · rw [if_neg e]
    by_cases e2 : j < q
    · rw [if_pos e2, if_pos (by omega)]
    · rw [if_neg e2, if_neg (by omega)]
theorem OutQ.done {w wr : World} {O R C k : Nat} {T : Nat → Nat → Int} {Rb : Nat → Nat} {A : Nat} (h : OutQ w wr O R C k C T Rb A) : OutSt w wr O R C (k + 1) T (fun i => if i = k then A else Rb i) := by
  refine ⟨h.hb, h.row.congr fun i hi => ?_, h.lo, fun i hi => ?_⟩
  · by_cases e : i = k
    · subst e; simp
    · by_cases e2 : i < k
      · simp only [if_pos e2, if_neg e, if_pos (show i < k + 1 by omega)]
      · simp only [if_neg e2, if_neg e, if_neg (show ¬ i < k + 1 by omega)]
  · by_cases e : i = k
    · subst e
      rw [if_pos rfl]
      exact ⟨h.la.1, h.la.2, row_ri h.ra fun j hj => by rw [if_pos hj]⟩
    · rw [if_neg e]
      obtain ⟨h1, h2, h3, h4⟩ := h.rows i (by omega)
      exact ⟨h1, h2, h4⟩
theorem OutQ.drew {w wr : World} {O R C k q : Nat} {T : Nat → Nat → Int} {Rb : Nat → Nat} {A : Nat} (h : OutQ w wr O R C k q T Rb A) : OutQ w wr.drew O R C k q T Rb A :=
  ⟨h.hb.drew, h.row, h.lo, h.rows, h.la, h.ra⟩

end Go.Proofs.Ytmhcnekbfngafaa
