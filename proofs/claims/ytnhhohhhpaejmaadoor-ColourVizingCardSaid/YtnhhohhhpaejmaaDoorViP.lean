/- Edges of one colour share no node: plain. No program in sight. -/
import Derived.Test.YtnhhohhhpaejmaaDoorPA
namespace Go.Proofs.YtnhhohhhpaejmaaDoor
open Go Go.RowKit

theorem one_apart {N D : Nat} {G : Nat → Nat → Bool} {C : Nat → Nat → Nat} (hC : ColI N G D C) {p q r t : Nat} (hpq : p < q) (hq : q < N) (hrt : r < t) (ht : t < N) (hne : ¬ (p = r ∧ q = t)) (h0 : C p q ≠ 0) (he : C p q = C r t) : p ≠ r ∧ p ≠ t ∧ q ≠ r ∧ q ≠ t := by
  have s1 := hC.sym p q (by omega) hq
  have s2 := hC.sym r t (by omega) ht
  refine ⟨fun e => ?_, fun e => ?_, fun e => ?_, fun e => ?_⟩
  · subst e; exact hne ⟨rfl, hC.one p q t (by omega) hq ht h0 he⟩
  · subst e
    have := hC.one p q r (by omega) hq (by omega) h0 (by rw [he, s2])
    omega
  · subst e
    have := hC.one q p t hq (by omega) ht (by rw [← s1]; exact h0) (by rw [← s1]; exact he)
    omega
  · subst e
    have := hC.one q p r hq (by omega) (by omega) (by rw [← s1]; exact h0) (by rw [← s1, he, s2])
    exact hne ⟨this, rfl⟩
end Go.Proofs.YtnhhohhhpaejmaaDoor
