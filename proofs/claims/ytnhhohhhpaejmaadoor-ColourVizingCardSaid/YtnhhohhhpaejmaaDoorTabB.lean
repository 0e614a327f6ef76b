/- A table lies still. No walk. -/
import Derived.Test.YtnhhohhhpaejmaaDoorCtz
import Derived.Test.YtnhhohhhpaejmaaDoorPA
namespace Go.Proofs.YtnhhohhhpaejmaaDoor
open Go Go.RowKit

theorem TabAt.below {g : Nat} {tab : List Nat} {w w' : World} (h : TabAt g tab w) (hb : Below w.heap.size w w') : TabAt g tab w' := fun j hj => below_cell hb (h j hj)
end Go.Proofs.YtnhhohhhpaejmaaDoor
