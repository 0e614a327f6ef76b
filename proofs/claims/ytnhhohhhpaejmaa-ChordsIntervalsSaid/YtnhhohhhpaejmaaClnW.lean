/- slices.Clone at a row of integers. -/
import Derived.Test.YtnhhohhhpaejmaaShelf
import Derived.Test.YtnhhohhhpaejmaaPJ
namespace Go.Proofs.Ytnhhohhhpaejmaa
open Go Go.RowKit

theorem clone_any (N : Nat) (f : Nat → Int) (sv : Value) (w : World) (h0 : 0 < N) (hN : N ≤ 1000) (h : IsInts w sv (fnL N f)) :
    Calls Try.prog 66 #[sv] w fun e w' => ∃ g c, e = .returned (.slice (some ⟨g, 0, none⟩) N c) ∧ FnR w' w.heap.size g N c f ∧ Below w.heap.size w w' := by
  obtain ⟨a, c, b, o, rfl, h1, h2, h3, h4, h5⟩ := h
  rw [fnL_len] at h3 ⊢
  rw [h3 h0]
  refine (Try.slices_Clone_int b o N c (fnL N f) w (by rw [fnL_len]; exact Nat.le_refl _) (by omega) h5).mono ?_
  rintro e w' ⟨v', rfl, how, hne, hb⟩
  have e1 : (fnL N f).take N = fnL N f := List.take_of_length_le (by rw [fnL_len]; exact Nat.le_refl _)
  rw [e1] at how
  rcases how.2 with ⟨h', -⟩ | ⟨g, cap, cur, h', -⟩
  · exact absurd h' (by intro e; subst e; simp at hne)
  · subst h'
    exact ⟨g, cap, rfl, ⟨how⟩, hb⟩
end Go.Proofs.Ytnhhohhhpaejmaa
