/- A good graph as a table; members of lists at places. No program in sight. -/
import Derived.Test.YtnmljgjegodkaaaPA
import Derived.Test.YtnmljgjegodkaaaGLaw
namespace Go.Proofs.Ytnmljgjegodkaaa
open Go.RowKit

theorem good_gr {l : List (Int × Int)} {N : Nat} (hg : GoodGraph N l) : Gr N (adj l) where
  sym i j _ _ := adj_symm l i j
  irr i _ := by
    cases e : adj l i i with
    | false => rfl
    | true =>
      unfold adj hasE at e
      obtain ⟨f, hf, hm⟩ := List.any_eq_true.1 e
      obtain ⟨k, hk, rfl⟩ := List.getElem_of_mem hf
      have hfine := (hg.fine k hk).2.1
      have eg : l.getD k (0, 0) = l[k] := by simp [List.getD, hk]
      rw [eg] at hfine
      have hm := of_decide_eq_true hm
      unfold Meets at hm
      omega
theorem getD_mem {α : Type} {l : List α} {d : α} {k : Nat} (hk : k < l.length) : l.getD k d ∈ l := by rw [List.getD, List.getElem?_eq_getElem hk]; exact List.getElem_mem _
theorem mem_getD {α : Type} {l : List α} {d x : α} (h : x ∈ l) : ∃ k, k < l.length ∧ l.getD k d = x := by
  obtain ⟨j, hj, e⟩ := List.getElem_of_mem h
  exact ⟨j, hj, by rw [List.getD, List.getElem?_eq_getElem hj]; exact e⟩

end Go.Proofs.Ytnmljgjegodkaaa
