/- A graph's and a fault's variables in memory. -/
import Derived.Test.YtokjcapheogkoaaDoorGOwn
import Derived.Test.YtokjcapheogkoaaDoorPackW
import Derived.Test.YtokjcapheogkoaaDoorFourM
namespace Go.Proofs.YtokjcapheogkoaaDoor
open Go Go.RowKit

/-- A graph's and a fault's variables. -/
structure GP (w : World) (A : Nat) (n : Int) (v : Value) (c a : Int) (L : List (Int × Int)) : Prop where
  r0 : w.rowIs A 24 2 (fun i => if i = 0 then .int .i64 n else v)
  r1 : w.rowIs (A + 1) 27 2 (fun i => if i = 0 then .int .i64 c else .int .i64 a)
  he : IsEdges w v L
theorem GP.new (w : World) (n : Int) (v : Value) (c a : Int) {L : List (Int × Int)} (h : IsEdges w v L) :
    GP ((w.alloc (Obj.cells #[.int .i64 n, v] 24)).alloc (Obj.cells #[.int .i64 c, .int .i64 a] 27)) w.heap.size n v c a L := by
  have r0 := two_row w (.int .i64 n) v 24
  have r1 := two_row (w.alloc (Obj.cells #[.int .i64 n, v] 24)) (.int .i64 c) (.int .i64 a) 27
  rw [World.size_alloc] at r1
  exact ⟨r0.alloc _, r1, h.below (below2 w _ _)⟩
theorem GP.below {w w' : World} {A : Nat} {n : Int} {v : Value} {c a : Int} {L : List (Int × Int)} (h : GP w A n v c a L) (hb : Below w.heap.size w w') : GP w' A n v c a L :=
  ⟨h.r0.of_block (hb.block _ h.r0.lt), h.r1.of_block (hb.block _ h.r1.lt), h.he.below hb⟩
theorem GP.facts {w : World} {A : Nat} {n : Int} {v : Value} {c a : Int} {L : List (Int × Int)} (h : GP w A n v c a L) :
    w.cell? ⟨A, 0, none⟩ = some (.int .i64 n) ∧ w.cell? ⟨A, 1, none⟩ = some v ∧ w.cell? ⟨A + 1, 0, none⟩ = some (.int .i64 c) ∧ w.cell? ⟨A + 1, 1, none⟩ = some (.int .i64 a) :=
  ⟨by rw [h.r0.cell (show 0 < 2 by omega)]; rfl, by rw [h.r0.cell (show 1 < 2 by omega)]; rfl, by rw [h.r1.cell (show 0 < 2 by omega)]; rfl, by rw [h.r1.cell (show 1 < 2 by omega)]; rfl⟩

end Go.Proofs.YtokjcapheogkoaaDoor
