/- The nodes that (*flow.pipes).side tells. -/
import Derived.Test.YtbnbhjeknocboaaSide
namespace Go.Proofs.Ytbnbhjeknocboaa

/-- The nodes that are reached, in order: they rise. -/
theorem sideL_mem {lev : Nat → Int} {N v : Nat} : v ∈ sideL lev N ↔ v < N ∧ 0 ≤ lev v := by
  unfold sideL seenB
  rw [List.mem_filter, List.mem_range, decide_eq_true_iff]
theorem sideL_at {lev : Nat → Int} {N i : Nat} (hi : i < (sideL lev N).length) : (sideL lev N).getD i 0 < N ∧ 0 ≤ lev ((sideL lev N).getD i 0) := by
  have e : (sideL lev N).getD i 0 = (sideL lev N)[i] := by simp [List.getD, hi]
  rw [e]
  exact sideL_mem.1 (List.getElem_mem hi)
theorem sideL_up (lev : Nat → Int) (N : Nat) : ∀ i, i + 1 < (sideL lev N).length → (sideL lev N).getD i 0 < (sideL lev N).getD (i + 1) 0 := fun i hi => by
  have hp : (sideL lev N).Pairwise (· < ·) := List.Pairwise.filter _ List.pairwise_lt_range
  have e0 : (sideL lev N).getD i 0 = (sideL lev N)[i] := by simp [List.getD, show i < (sideL lev N).length by omega]
  have e1 : (sideL lev N).getD (i + 1) 0 = (sideL lev N)[i + 1] := by simp [List.getD, hi]
  rw [e0, e1]
  exact List.pairwise_iff_getElem.1 hp i (i + 1) (by omega) hi (by omega)

end Go.Proofs.Ytbnbhjeknocboaa
