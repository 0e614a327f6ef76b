/- The world behind a sort of a row. No program in sight. -/
import Derived.Test.YtnhhohhhpaejmaaDoorPA
import Derived.Shelf.SlSortCmp.Whole1
namespace Go.Proofs.YtnhhohhhpaejmaaDoor
open Go.RowKit Go.Sort

section
variable {α : Type} [Inhabited α]
theorem heap_sorted1 {w : World} {g n : Nat} {os : Array Obj} {cur : Array Value} {e : TypeId} {fr : Nat × Nat} (enc : α → Value) (d : Array α) (hb : w.heap[g]? = some (.cells cur e fr)) :
    (sortWorld enc w g 0 n d os).heap[g]? = some (.cells (putCells enc 0 d cur) e fr) := by
  have hg : g < w.heap.size := (Array.getElem?_eq_some_iff.1 hb).1
  unfold sortWorld
  rw [heap_grow_old _ _ (by simpa using hg)]
  simp [putRow, mapBlock, Sort.ahead, Array.getElem?_modify, hb, onCells]
theorem grownBy_sorted1 {w : World} {g n : Nat} {os : Array Obj} (enc : α → Value) (d : Array α) : w.grownBy (sortWorld enc w g 0 n d os) (some g) := by
  unfold sortWorld
  refine ⟨rfl, rfl, rfl, by simp, fun k hk hne => ?_⟩
  rw [heap_grow_old _ _ (by simpa using hk)]
  have : g ≠ k := fun e => hne (by rw [e])
  simp [putRow, mapBlock, Sort.ahead, Array.getElem?_modify, this]
end

end Go.Proofs.YtnhhohhhpaejmaaDoor
