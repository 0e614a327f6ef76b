/- For colour.Number and colour.Poly: two rows that are made. -/
import Derived.Test.YtnhhohhhpaejmaaDoorPF
import Derived.Test.YtnhhohhhpaejmaaDoorLoose
import Derived.Test.YtnhhohhhpaejmaaDoorSmallC
import Derived.BigRegion
import Derived.BigQuiet
import Derived.Deep.CutBlock
import Derived.Deep.RegionHeld3
namespace Go.Proofs.YtnhhohhhpaejmaaDoor
open Go Go.RowKit

theorem NOk.le {l : List (Int × Int)} {N : Nat} {need last : Nat → Nat} {s : Nat} (h : NOk l N need last s) (hl : ∀ j, j < l.length → (l.getD j (0, 0)).1 ≠ (l.getD j (0, 0)).2) (hs : s < 2 ^ N) : need s ≤ N := by
  rcases Nat.lt_or_ge N (need s) with e | e
  · exact absurd (Col.all hl hs) (h.no N e)
  · exact e
theorem two_made (W : World) (M : Nat) : ((W.alloc (.cells (madeCells #[.int .i64 0] M) 3)).alloc (.cells (madeCells #[.int .i64 0] M) 3)).rowIs W.heap.size 3 M (rn fun _ => 0) ∧
    ((W.alloc (.cells (madeCells #[.int .i64 0] M) 3)).alloc (.cells (madeCells #[.int .i64 0] M) 3)).rowIs (W.heap.size + 1) 3 M (rn fun _ => 0) ∧
    Below W.heap.size W ((W.alloc (.cells (madeCells #[.int .i64 0] M) 3)).alloc (.cells (madeCells #[.int .i64 0] M) 3)) := by
  have h1 := World.rowIs_made W (.int .i64 0) M 3
  have h2 := World.rowIs_made (W.alloc (.cells (madeCells #[.int .i64 0] M) 3)) (.int .i64 0) M 3
  rw [World.size_alloc] at h2
  have hb := below1 (W.alloc (.cells (madeCells #[.int .i64 0] M) 3)) (.cells (madeCells #[.int .i64 0] M) 3)
  exact ⟨(h1.of_block (hb.block _ h1.lt)).congr fun i _ => rfl, h2.congr fun i _ => rfl, below2 _ _ _⟩

end Go.Proofs.YtnhhohhhpaejmaaDoor
