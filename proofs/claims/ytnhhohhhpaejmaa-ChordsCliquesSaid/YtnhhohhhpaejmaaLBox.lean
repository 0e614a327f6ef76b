/- What stands throughout a law of one graph. -/
import Derived.Test.YtnhhohhhpaejmaaGridMem
namespace Go.Proofs.Ytnhhohhhpaejmaa
open Go.RowKit

/-- What stands throughout: the argument's box, one's own copy's box, both graphs' edges. -/
structure LB (w wr : World) (n : Int) (v v2 : Value) (l : List (Int × Int)) (B : Nat) : Prop where
  hb : Below w.heap.size w wr
  cn : wr.cell? ⟨w.heap.size, 0, none⟩ = some (.int .i64 n)
  cs : wr.cell? ⟨w.heap.size, 1, none⟩ = some v
  on : wr.cell? ⟨B, 0, none⟩ = some (.int .i64 n)
  os : wr.cell? ⟨B, 1, none⟩ = some v2
  he : IsEdges wr v l
  ho : IsEdges wr v2 l
theorem LB.below {w wr w' : World} {n : Int} {v v2 : Value} {l : List (Int × Int)} {B : Nat} (h : LB w wr n v v2 l B) (hb : Below wr.heap.size wr w') : LB w w' n v v2 l B :=
  ⟨h.hb.trans (hb.mono h.hb.size), below_cell hb h.cn, below_cell hb h.cs, below_cell hb h.on, below_cell hb h.os, h.he.below hb, h.ho.below hb⟩

end Go.Proofs.Ytnhhohhhpaejmaa
