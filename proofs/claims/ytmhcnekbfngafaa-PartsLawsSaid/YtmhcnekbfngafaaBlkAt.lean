/- Blocks of one's own, to be read. -/
import Derived.Test.YtmhcnekbfngafaaDMem
namespace Go.Proofs.Ytmhcnekbfngafaa
open Go.RowKit

theorem Blks.form {w : World} {S : Nat} {vs vb : Value} {L : List (List (Int × Int))} (h : Blks w S vs vb L) : ∃ a c, vb = .slice a L.length c := by
  obtain ⟨vals, h1, -⟩ := h
  exact ownsRow_form h1
/-- One block, to be read. -/
theorem Blks.at {w : World} {S c : Nat} {vs : Value} {a : Option Addr} {L : List (List (Int × Int))} (h : Blks w S vs (.slice a L.length c) L) {j : Nat} (hj : j < L.length) : ∃ g r, a = some ⟨g, 0, none⟩ ∧ w.cell? ⟨g, j, none⟩ = some r ∧ IsEdges w r (L.getD j []) := by
  obtain ⟨vals, h1, h2⟩ := h
  obtain ⟨r, er, ho, -⟩ := h2 j hj
  have hv0 := h1
  obtain ⟨g, eg⟩ : ∃ g, a = some ⟨g, 0, none⟩ := by
    rcases hv0.2 with ⟨e, e0⟩ | ⟨g, cap', cur, e, -⟩
    · omega
    · simp only [Value.slice.injEq] at e; exact ⟨g, e.1⟩
  subst eg
  have cr := hv0.cells (g := g) rfl _ _ er
  rw [Addr.add_lit, Nat.zero_add] at cr
  exact ⟨g, r, rfl, cr, ho.edges⟩

end Go.Proofs.Ytmhcnekbfngafaa
