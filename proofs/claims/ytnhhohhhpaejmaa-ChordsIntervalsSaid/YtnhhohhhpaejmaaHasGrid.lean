/- Tables that are read; the function literal of graph.Complement. -/
import Derived.Test.YtnhhohhhpaejmaaTableM
import Derived.BigQuiet
import Derived.WalkArith
namespace Go.Proofs.Ytnhhohhhpaejmaa
open Go.RowKit

/-- A table, to be read. -/
def HasGrid (w : World) (v : Value) (n : Nat) (G : Nat → Nat → Bool) : Prop := ∃ B, IsGrid w B v n G
theorem HasGrid.below {w w' : World} {v : Value} {n : Nat} {G : Nat → Nat → Bool} (h : HasGrid w v n G) (hb : Below w.heap.size w w') : HasGrid w' v n G := by
  obtain ⟨B, h⟩ := h
  exact ⟨B, h.below hb⟩
/-- One entry, under names of its own. -/
theorem HasGrid.entry {w : World} {v : Value} {n : Nat} {G : Nat → Nat → Bool} (h : HasGrid w v n G) {i j : Nat} (hi : i < n) (hj : j < n) :
    ∃ b o c r, v = .slice (some ⟨b, o, none⟩) n c ∧ w.cell? ⟨b, o + i, none⟩ = some (.slice (some ⟨r, 0, none⟩) n n) ∧ w.cell? ⟨r, j, none⟩ = some (.bool (G i j)) := by
  obtain ⟨B, a, cap, b, o, R, rfl, h2, h3, h4⟩ := h
  obtain rfl := (h3 (by omega)).1
  exact ⟨b, o, cap, R i, rfl, h4.head i hi, h4.cell hi hj⟩

end Go.Proofs.Ytnhhohhhpaejmaa
