/- Two variables of two cells each. No program in sight. -/
import Derived.Test.YtmhcnekbfngafaaRowMem
import Derived.Test.YtmhcnekbfngafaaMem
namespace Go.Proofs.Ytmhcnekbfngafaa
open Go.RowKit

theorem two_row (w : World) (c d : Value) (T : TypeId) : (w.alloc (Obj.cells #[c, d] T)).rowIs w.heap.size T 2 (fun i => if i = 0 then c else d) :=
  World.rowIs_alloc w #[c, d] T _ (fun i hi => by
    match i, hi with
    | 0, _ => rfl
    | 1, _ => rfl)
theorem four_set {w : World} {A B : Nat} {TA TB : TypeId} {f f' : Nat → Value} (h : w.rowIs A TA 2 f) (h' : w.rowIs B TB 2 f') (hne : A ≠ B) (x y z u : Value) :
    ((((w.setCell ⟨A, 0, none⟩ x).setCell ⟨A, 1, none⟩ y).setCell ⟨B, 0, none⟩ z).setCell ⟨B, 1, none⟩ u).cell? ⟨A, 0, none⟩ = some x ∧
    ((((w.setCell ⟨A, 0, none⟩ x).setCell ⟨A, 1, none⟩ y).setCell ⟨B, 0, none⟩ z).setCell ⟨B, 1, none⟩ u).cell? ⟨A, 1, none⟩ = some y ∧
    ((((w.setCell ⟨A, 0, none⟩ x).setCell ⟨A, 1, none⟩ y).setCell ⟨B, 0, none⟩ z).setCell ⟨B, 1, none⟩ u).cell? ⟨B, 0, none⟩ = some z ∧
    ((((w.setCell ⟨A, 0, none⟩ x).setCell ⟨A, 1, none⟩ y).setCell ⟨B, 0, none⟩ z).setCell ⟨B, 1, none⟩ u).cell? ⟨B, 1, none⟩ = some u := by
  have a := (((h.set 0 x).set 1 y).setOther (a := ⟨B, 0, none⟩) hne z).setOther (a := ⟨B, 1, none⟩) hne u
  have b := (((h'.setOther (a := ⟨A, 0, none⟩) (Ne.symm hne) x).setOther (a := ⟨A, 1, none⟩) (Ne.symm hne) y).set 0 z).set 1 u
  exact ⟨a.cell (show 0 < 2 by omega), a.cell (show 1 < 2 by omega), b.cell (show 0 < 2 by omega), b.cell (show 1 < 2 by omega)⟩
theorem four_below {w0 w : World} {A B : Nat} (h : Below w0.heap.size w0 w) (hA : w0.heap.size ≤ A) (hB : w0.heap.size ≤ B) (x y z u : Value) :
    Below w0.heap.size w0 ((((w.setCell ⟨A, 0, none⟩ x).setCell ⟨A, 1, none⟩ y).setCell ⟨B, 0, none⟩ z).setCell ⟨B, 1, none⟩ u) :=
  (((h.setCell hA _).setCell hA _).setCell hB _).setCell hB _

end Go.Proofs.Ytmhcnekbfngafaa
