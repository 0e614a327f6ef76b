/- Neighbours both ways. No walk. -/
import Derived.Test.YtnmljgjegodkaaaMasksP
namespace Go.Proofs.Ytnmljgjegodkaaa
open Go Go.RowKit

theorem adj_sy (l : List (Int × Int)) (i j : Nat) : adj l i j = adj l j i := by
  unfold adj hasE
  congr 1
  funext e
  simp only [decide_eq_decide]
  unfold Meets
  omega
theorem adj_self {l : List (Int × Int)} (h : ∀ j, j < l.length → (l.getD j (0, 0)).1 ≠ (l.getD j (0, 0)).2) (i : Nat) : adj l i i = false := by
  cases e : adj l i i with
  | false => rfl
  | true =>
    unfold adj hasE at e
    obtain ⟨x, hx, hm⟩ := List.any_eq_true.1 e
    obtain ⟨j, hj, rfl⟩ := List.getElem_of_mem hx
    have h1 := h j hj
    have h2 : l.getD j (0, 0) = l[j] := by simp [List.getD, hj]
    rw [h2] at h1
    have hm := of_decide_eq_true hm
    unfold Meets at hm
    omega

end Go.Proofs.Ytnmljgjegodkaaa
