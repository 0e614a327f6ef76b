/- A fault in a variable of its own. -/
import Derived.Test.YtmhcnekbfngafaaRCheck
namespace Go.Proofs.Ytmhcnekbfngafaa
open Go.RowKit

/-- A fault's variable. -/
structure FV (w : World) (b : Nat) (c a : Int) : Prop where
  r : w.rowIs b 27 2 (fun i => if i = 0 then .int .i64 c else .int .i64 a)
theorem FV.below {w w' : World} {b : Nat} {c a : Int} (h : FV w b c a) (hb : Below w.heap.size w w') : FV w' b c a := ⟨h.r.of_block (hb.block _ h.r.lt)⟩
theorem FV.facts {w : World} {b : Nat} {c a : Int} (h : FV w b c a) : w.cell? ⟨b, 0, none⟩ = some (.int .i64 c) ∧ w.cell? ⟨b, 1, none⟩ = some (.int .i64 a) ∧ w.frozen? ⟨b, 0, none⟩ = false ∧ w.frozen? ⟨b, 1, none⟩ = false ∧ b < w.heap.size :=
  ⟨by rw [h.r.cell (show 0 < 2 by omega)]; rfl, by rw [h.r.cell (show 1 < 2 by omega)]; rfl, h.r.frozen 0, h.r.frozen 1, h.r.lt⟩
theorem FV.new (w : World) (c a : Int) : FV (w.alloc (Obj.cells #[.int .i64 c, .int .i64 a] 27)) w.heap.size c a :=
  ⟨World.rowIs_alloc w #[.int .i64 c, .int .i64 a] 27 (fun i => if i = 0 then .int .i64 c else .int .i64 a) (fun i hi => by
    match i, hi with
    | 0, _ => rfl
    | 1, _ => rfl)⟩
theorem FV.put {w : World} {b : Nat} {c a : Int} (h : FV w b c a) (c' a' : Int) : FV ((w.setCell ⟨b, 0, none⟩ (.int .i64 c')).setCell ⟨b, 1, none⟩ (.int .i64 a')) b c' a' :=
  ⟨((h.r.set 0 (.int .i64 c')).set 1 (.int .i64 a')).congr fun i hi => by
    match i, hi with
    | 0, _ => rfl
    | 1, _ => rfl⟩

end Go.Proofs.Ytmhcnekbfngafaa
