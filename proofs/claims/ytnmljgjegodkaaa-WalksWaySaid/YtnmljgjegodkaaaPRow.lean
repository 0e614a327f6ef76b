/- Rows of nodes of one's own; the row of those that are done. -/
import Derived.Test.YtnmljgjegodkaaaNbRow
import Derived.Maps.RangeWalk
namespace Go.Proofs.Ytnmljgjegodkaaa
open Go.RowKit Go.Maps

/-- Rows of nodes: all of one's own. -/
def PRow (w : World) (B : Nat) (v : Value) (m : List (List Nat)) : Prop :=
  ∃ vals, w.ownsRow B 29 1 v m.length vals ∧ ∀ j, j < m.length → ∃ r, vals[j]? = some r ∧ w.ownsRow B 3 1 r (m.getD j []).length (nvals (m.getD j []))
theorem PRow.nil (w : World) (B : Nat) : PRow w B (.slice none 0 0) [] := ⟨[], World.ownsRow_nil _ _ _ _, fun j hj => absurd hj (Nat.not_lt_zero _)⟩
theorem own_side {w : World} {B : Nat} {e : TypeId} {size : Nat} {v : Value} {n : Nat} {xs : List Value} (h : w.ownsRow B e size v n xs) {q : Nat} (hq : q < B) : v.ownBlock = none ∨ v.ownBlock ≠ some q := by
  cases hv : v.ownBlock with
  | none => exact Or.inl rfl
  | some g => exact Or.inr fun e => by cases e; have := (h.lt _ hv).1; omega
theorem PRow.kept {w w' : World} {B q : Nat} {v : Value} {m : List (List Nat)} (h : PRow w B v m) (hg : w.grownBy w' (some q)) (hq : q < B) : PRow w' B v m := by
  obtain ⟨vals, h1, h2⟩ := h
  refine ⟨vals, h1.kept hg (own_side h1 hq), fun j hj => ?_⟩
  obtain ⟨r, e, ho⟩ := h2 j hj
  exact ⟨r, e, ho.kept hg (own_side ho hq)⟩
theorem PRow.below {w w' : World} {B : Nat} {v : Value} {m : List (List Nat)} (h : PRow w B v m) (hb : Below w.heap.size w w') : PRow w' B v m := by
  obtain ⟨vals, h1, h2⟩ := h
  refine ⟨vals, ownsRow_below h1 hb (Nat.le_refl _), fun j hj => ?_⟩
  obtain ⟨r, e, ho⟩ := h2 j hj
  exact ⟨r, e, ownsRow_below ho hb (Nat.le_refl _)⟩
/-- One row more. -/
theorem PRow.more {w1 w2 : World} {B : Nat} {v r v' : Value} {m : List (List Nat)} {x : List Nat} {vals : List Value} {o : Obj}
    (hown : w1.ownsRow B 29 1 v m.length vals) (hv : ∀ j, j < m.length → ∃ r, vals[j]? = some r ∧ w1.ownsRow B 3 1 r (m.getD j []).length (nvals (m.getD j [])))
    (hr : w1.ownsRow B 3 1 r x.length (nvals x)) (h2 : w2.ownsRow B 29 1 v' (m.length + 1) (vals ++ [r])) (g2 : (w1.alloc o).grownBy w2 v.ownBlock) : PRow w2 B v' (m ++ [x]) := by
  have hlen : vals.length = m.length := by have := hown.1; omega
  have ty : ∀ g, v.ownBlock = some g → ∃ c e' fz, (w1.alloc o).heap[g]? = some (.cells c e' fz) ∧ e' ≠ 3 := fun g hg => by
    obtain ⟨c, fz, hc⟩ := ownsRow_type (hown.alloc o) g hg
    exact ⟨c, _, fz, hc, by decide⟩
  refine ⟨_, by rw [List.length_append]; exact h2, fun j hj => ?_⟩
  rw [List.length_append, List.length_singleton] at hj
  by_cases e : j = m.length
  · subst e
    refine ⟨r, by rw [List.getElem?_append_right (by omega)]; simp [hlen], ?_⟩
    have e2 : (m ++ [x]).getD m.length [] = x := by simp [List.getD]
    rw [e2]
    exact ownsRow_typed (hr.alloc o) g2 ty
  · obtain ⟨q, hq, ho⟩ := hv j (by omega)
    have e2 : (m ++ [x]).getD j [] = m.getD j [] := by simp [List.getD, List.getElem?_append_left (show j < m.length by omega)]
    refine ⟨q, by rw [List.getElem?_append_left (by omega)]; exact hq, ?_⟩
    rw [e2]
    exact ownsRow_typed (ho.alloc o) g2 ty

/-- While parts are made: the row of those that are done. -/
structure PaS (w5 wr : World) (N bD : Nat) (D : Nat → Bool) : Prop where
  g : w5.grownBy wr (some bD)
  done : wr.rowIs bD 4 N (rb D)
theorem PaS.below {w5 wr w' : World} {N bD : Nat} {D : Nat → Bool} (h : PaS w5 wr N bD D) (hb : Below wr.heap.size wr w') : PaS w5 w' N bD D :=
  ⟨h.g.trans ((grown_of_below hb).but _), h.done.of_block (hb.block _ h.done.lt)⟩
theorem PaS.grown {w5 wr w' : World} {N bD : Nat} {D : Nat → Bool} (h : PaS w5 wr N bD D) {row : Option Nat} (hg : wr.grownBy w' row) (hr : ∀ q, row = some q → w5.heap.size ≤ q) (hD : bD < w5.heap.size) : PaS w5 w' N bD D :=
  ⟨h.g.andThen hg (fun j e => Or.inl (hr j e)), h.done.of_block (hg.block _ h.done.lt (fun e => by have := hr _ e.symm; omega))⟩
theorem PaS.set {w5 wr : World} {N bD : Nat} {D : Nat → Bool} (h : PaS w5 wr N bD D) (k : Nat) (x : Bool) : PaS w5 (wr.setCell ⟨bD, k, none⟩ (.bool x)) N bD (fun q => if q = k then x else D q) :=
  ⟨h.g.trans (grown_set wr bD k _), row_set_rb h.done k x⟩
theorem PaS.congr {w5 wr : World} {N bD : Nat} {D D' : Nat → Bool} (h : PaS w5 wr N bD D) (e : ∀ q, q < N → D q = D' q) : PaS w5 wr N bD D' := ⟨h.g, row_rb h.done e⟩

/-- One element of a row. -/
theorem NB.lookR {w : World} {B N : Nat} {V : Nat → Value} {X : Nat → List Nat} (h : NB w B N V X) {r j : Nat} (hr : r < N) (hj : j < (X r).length) :
    ∃ g c, V r = .slice (some ⟨g, 0, none⟩) (X r).length c ∧ w.cell? ⟨g, j, none⟩ = some (.int .i64 ((X r).getD j 0 : Nat)) := by
  have ho := h.owns hr
  have hx : (nvals (X r))[j]? = some (.int .i64 ((X r).getD j 0 : Nat)) := by
    simp [nvals, ints, List.getD, List.getElem?_eq_getElem hj]
  rcases ho.2 with ⟨e, h0⟩ | ⟨g, cap, cur, e, -⟩
  · omega
  · have c := ho.cells (g := g) (by rw [e]; rfl) _ _ hx
    rw [Addr.add_lit, Nat.zero_add] at c
    exact ⟨g, cap, e, c⟩

/-- Rows of nodes, to be read. -/
theorem PRow.rows {w : World} {B : Nat} {v : Value} {m : List (List Nat)} (h : PRow w B v m) : IsRows w v (m.map ints) := by
  obtain ⟨vals, h0, hv⟩ := h
  obtain ⟨a, c, rfl⟩ := ownsRow_form h0
  obtain ⟨h1, h2, h3, b, h4, h5⟩ := ownsRow_cap h0
  refine ⟨a, c, b, 0, by rw [List.length_map], by rw [List.length_map]; exact h1, h2, fun hp => (h4 (by rwa [List.length_map] at hp)).1, h3, fun j hj => ?_⟩
  rw [List.length_map] at hj
  obtain ⟨r, hr, hi⟩ := hv j hj
  have e : (m.map ints).getD j [] = ints (m.getD j []) := by simp [List.getD, List.getElem?_eq_getElem hj]
  exact ⟨r, by rw [Nat.zero_add]; exact h5 j r hr, by rw [e]; exact IsInts.owned hi⟩
theorem PRow.form {w : World} {B : Nat} {v : Value} {m : List (List Nat)} (h : PRow w B v m) : ∃ a c, v = .slice a m.length c := by
  obtain ⟨vals, h0, -⟩ := h
  exact ownsRow_form h0

end Go.Proofs.Ytnmljgjegodkaaa
