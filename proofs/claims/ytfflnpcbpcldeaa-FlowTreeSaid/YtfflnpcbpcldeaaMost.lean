/- (*flow.pipes).most: the plain law. No program in sight. -/
import Derived.Test.YtfflnpcbpcldeaaPush
namespace Go.Proofs.Ytfflnpcbpcldeaa

/-- Pipes after some pushes: what went from s to t is sum. -/
structure Sent (N M : Nat) (s t : Nat) (X0 X : Nat → List Nat) (sum : Nat) : Prop where
  ok : NetOk N M X
  same : ∀ q, q ≠ 1 → X q = X0 q
  sums : ∀ i, i < M → leftX X i + leftX X (i ^^^ 1) = leftX X0 i + leftX X0 (i ^^^ 1)
  out : ∀ u, outX M X u = outX M X0 u + ((if s = u then (sum : Int) else 0) - (if t = u then (sum : Int) else 0))

theorem Sent.start {N M : Nat} {s t : Nat} {X : Nat → List Nat} (h : NetOk N M X) : Sent N M s t X X 0 := ⟨h, fun _ _ => rfl, fun _ _ => rfl, fun u => by simp⟩
theorem Sent.more {N M : Nat} {s t : Nat} {X0 X X' : Nat → List Nat} {sum n : Nat} {lev : Nat → Int} (h : Sent N M s t X0 X sum) (a : Aug N M lev t s n X X') : Sent N M s t X0 X' (sum + n) where
  ok := a.ok
  same q hq := (a.same q hq).trans (h.same q hq)
  sums i hi := (a.sum i hi).trans (h.sums i hi)
  out u := by
    rw [a.out u, h.out u]
    by_cases e1 : s = u <;> by_cases e2 : t = u <;> simp only [e1, e2, if_true, if_false] <;> omega

theorem sumZ_le {f : Nat → Int} {c : Int} : ∀ {n}, (∀ k, k < n → f k ≤ c) → sumZ f n ≤ n * c
  | 0, _ => by simp [sumZ]
  | n + 1, h => by
    have h1 := sumZ_le (n := n) fun k hk => h k (by omega)
    have h2 := h n (by omega)
    rw [sumZ]
    have e : ((n + 1 : Nat) : Int) * c = n * c + c := by rw [Int.natCast_add, Int.add_mul]; simp
    omega
theorem sumZ_ge {f : Nat → Int} {c : Int} : ∀ {n}, (∀ k, k < n → -c ≤ f k) → -(n * c) ≤ sumZ f n
  | 0, _ => by simp [sumZ]
  | n + 1, h => by
    have h1 := sumZ_ge (n := n) fun k hk => h k (by omega)
    have h2 := h n (by omega)
    rw [sumZ]
    have e : ((n + 1 : Nat) : Int) * c = n * c + c := by rw [Int.natCast_add, Int.add_mul]; simp
    omega

/-- There is an end to what can be sent. -/
theorem Sent.bound {N M : Nat} {s t : Nat} {X0 X : Nat → List Nat} {sum C : Nat} (h : Sent N M s t X0 X sum) (h0 : NetOk N M X0) (hc : ∀ i, i < M → leftX X0 i + leftX X0 (i ^^^ 1) ≤ C) (hst : s ≠ t) : sum ≤ M * C := by
  have hev := h.ok.even
  have cap : ∀ Y : Nat → List Nat, (∀ i, i < M → leftX Y i + leftX Y (i ^^^ 1) ≤ C) → ∀ u, outX M Y u ≤ (M / 2 : Nat) * (C : Int) ∧ -((M / 2 : Nat) * (C : Int)) ≤ outX M Y u := fun Y hY u => by
    have hk : ∀ k, k < M / 2 → leftX Y (2 * k + 1) ≤ C := fun k hk => by have := hY (2 * k + 1) (by omega); omega
    refine ⟨sumZ_le fun k hlt => ?_, sumZ_ge fun k hlt => ?_⟩
    · have := hk k hlt
      split <;> split <;> omega
    · have := hk k hlt
      split <;> split <;> omega
  have h1 := (cap X (fun i hi => by rw [h.sums i hi]; exact hc i hi) s).1
  have h2 := (cap X0 hc s).2
  have h3 := h.out s
  rw [if_pos rfl, if_neg (fun e => hst e.symm)] at h3
  have e : ((M * C : Nat) : Int) = (M / 2 : Nat) * (C : Int) + (M / 2 : Nat) * (C : Int) := by
    rw [← Int.add_mul, Int.natCast_mul]
    congr 1
    omega
  omega

end Go.Proofs.Ytfflnpcbpcldeaa
