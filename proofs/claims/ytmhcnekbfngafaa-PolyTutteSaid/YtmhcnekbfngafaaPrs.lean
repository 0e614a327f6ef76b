/- All pairs that are told: a list, row by row. No program in sight. -/
import Derived.Test.YtmhcnekbfngafaaMem
namespace Go.Proofs.Ytmhcnekbfngafaa
open Go.RowKit

/-- The pairs (i, j), i < j < b, that p tells. -/
def rowTo (p : Nat → Nat → Bool) (i b : Nat) : List (Int × Int) := ((List.range b).filter fun j => decide (i < j) && p i j).map fun j : Nat => ((i : Int), (j : Int))
/-- .. of the first a rows. -/
def prsTo (n : Nat) (p : Nat → Nat → Bool) (a : Nat) : List (Int × Int) := (List.range a).flatMap fun i : Nat => rowTo p i n

theorem rowTo_start (p : Nat → Nat → Bool) (i : Nat) : rowTo p i (i + 1) = [] := by
  unfold rowTo
  rw [List.map_eq_nil_iff, List.filter_eq_nil_iff]
  intro j hj
  have := List.mem_range.1 hj
  simp; omega
theorem rowTo_yes {p : Nat → Nat → Bool} {i b : Nat} (hb : i < b) (h : p i b = true) : rowTo p i (b + 1) = rowTo p i b ++ [((i : Int), (b : Int))] := by
  unfold rowTo; rw [List.range_succ, List.filter_append]; simp [hb, h]
theorem rowTo_no {p : Nat → Nat → Bool} {i b : Nat} (h : p i b = false) : rowTo p i (b + 1) = rowTo p i b := by
  unfold rowTo; rw [List.range_succ, List.filter_append]; simp [h]
theorem prsTo_succ (n : Nat) (p : Nat → Nat → Bool) (a : Nat) : prsTo n p (a + 1) = prsTo n p a ++ rowTo p a n := by
  unfold prsTo; rw [List.range_succ, List.flatMap_append]; simp
theorem rowTo_length (p : Nat → Nat → Bool) (i b : Nat) : (rowTo p i b).length ≤ b := by
  unfold rowTo; rw [List.length_map]; exact Nat.le_trans (List.length_filter_le _ _) (by simp)
theorem prsTo_length (n : Nat) (p : Nat → Nat → Bool) (a : Nat) : (prsTo n p a).length ≤ a * n := by
  induction a with
  | zero => simp [prsTo]
  | succ a ih => rw [prsTo_succ, List.length_append]; have := rowTo_length p a n; rw [Nat.add_mul]; omega
theorem rowTo_congr {p q : Nat → Nat → Bool} {i b n : Nat} (hb : b ≤ n) (h : ∀ j, i < j → j < n → p i j = q i j) : rowTo p i b = rowTo q i b := by
  unfold rowTo
  congr 1
  apply List.filter_congr
  intro j hj
  have := List.mem_range.1 hj
  by_cases e : i < j
  · simp [h j e (by omega)]
  · simp [e]
theorem prsTo_congr {p q : Nat → Nat → Bool} {n : Nat} (h : ∀ i j, i < j → j < n → p i j = q i j) (a : Nat) : prsTo n p a = prsTo n q a := by
  induction a with
  | zero => rfl
  | succ a ih => rw [prsTo_succ, prsTo_succ, ih, rowTo_congr (Nat.le_refl n) (h a)]

end Go.Proofs.Ytmhcnekbfngafaa
