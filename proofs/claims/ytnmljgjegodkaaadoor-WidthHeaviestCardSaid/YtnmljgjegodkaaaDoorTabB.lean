/- A table lies still. No walk. -/
import Derived.Test.YtnmljgjegodkaaaDoorCtz
import Derived.Test.YtnmljgjegodkaaaDoorPA
namespace Go.Proofs.YtnmljgjegodkaaaDoor
open Go Go.RowKit

theorem TabAt.below {g : Nat} {tab : List Nat} {w w' : World} (h : TabAt g tab w) (hb : Below w.heap.size w w') : TabAt g tab w' := fun j hj => below_cell hb (h j hj)
end Go.Proofs.YtnmljgjegodkaaaDoor
