/- What functions of one graph find, and what comes back. -/
import Derived.Test.YtnmljgjegodkaaaPA
import Derived.Test.YtnmljgjegodkaaaGood
import Derived.Test.YtnmljgjegodkaaaHasGrid
import Derived.Test.YtnmljgjegodkaaaSame
namespace Go.Proofs.Ytnmljgjegodkaaa
open Go.RowKit

/-- A graph and a fault come back. -/
def TwoPost (N' : Int) (L' : List (Int × Int)) (c' a' : Int) (w : World) (e : Ending) (w' : World) : Prop :=
  ∃ v, OwnE w' w.heap.size v L' ∧ Below w.heap.size w w' ∧ e = .returned (.tuple #[.agg #[.int .i64 N', v], .agg #[.int .i64 c', .int .i64 a']])

/-- What a function of one graph finds: the graph's own variable, two results. -/
structure CSt (w wr : World) (n : Int) (s : Value) (l : List (Int × Int)) : Prop where
  hb : Below w.heap.size w wr
  cn : wr.cell? ⟨w.heap.size, 0, none⟩ = some (.int .i64 n)
  cs : wr.cell? ⟨w.heap.size, 1, none⟩ = some s
  r0 : wr.rowIs (w.heap.size + 1) 24 2 (fun i => if i = 0 then .int .i64 0 else .slice none 0 0)
  r1 : wr.rowIs (w.heap.size + 1 + 1) 27 2 (fun i => if i = 0 then .int .i64 0 else .int .i64 0)
  he : IsEdges wr s l
theorem CSt.start {w : World} {n : Int} {s : Value} {l : List (Int × Int)} (h : IsEdges w s l) : CSt w (((w.alloc (Obj.cells #[.int .i64 n, s] 24)).alloc (Obj.cells #[.int .i64 0, .slice none 0 0] 24)).alloc (Obj.cells #[.int .i64 0, .int .i64 0] 27)) n s l := by
  have h1 := two_cells w (.int .i64 n) s 24
  have r0 := two_row (w.alloc (Obj.cells #[.int .i64 n, s] 24)) (.int .i64 0) (.slice none 0 0) 24
  have r1 := two_row ((w.alloc (Obj.cells #[.int .i64 n, s] 24)).alloc (Obj.cells #[.int .i64 0, .slice none 0 0] 24)) (.int .i64 0) (.int .i64 0) 27
  rw [World.size_alloc] at r0
  rw [World.size_alloc, World.size_alloc] at r1
  have hb := (below2 w (Obj.cells #[.int .i64 n, s] 24) (Obj.cells #[.int .i64 0, .slice none 0 0] 24)).alloc (by simp; omega) (Obj.cells #[.int .i64 0, .int .i64 0] 27)
  exact ⟨hb, below_cell (below2 _ _ _) h1.1, below_cell (below2 _ _ _) h1.2, r0.alloc _, r1, h.below hb⟩
theorem CSt.below {w wr w' : World} {n : Int} {s : Value} {l : List (Int × Int)} (h : CSt w wr n s l) (hb : Below wr.heap.size wr w') : CSt w w' n s l :=
  ⟨h.hb.trans (hb.mono h.hb.size), below_cell hb h.cn, below_cell hb h.cs, h.r0.of_block (hb.block _ h.r0.lt), h.r1.of_block (hb.block _ h.r1.lt), h.he.below hb⟩


end Go.Proofs.Ytnmljgjegodkaaa
