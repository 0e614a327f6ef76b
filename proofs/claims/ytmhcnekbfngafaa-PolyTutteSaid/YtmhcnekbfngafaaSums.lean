/- Sums over the numbers below one: exchange, turning, what cancels. No program in sight. -/
import Derived.Test.YtmhcnekbfngafaaBits
namespace Go.Proofs.Ytmhcnekbfngafaa
open Go Go.RowKit

def sumI (f : Nat → Int) : Nat → Int
  | 0 => 0
  | n + 1 => sumI f n + f n
theorem sumI_congr {f g : Nat → Int} : ∀ {n : Nat}, (∀ i, i < n → f i = g i) → sumI f n = sumI g n
  | 0, _ => rfl
  | n + 1, h => by rw [sumI, sumI, sumI_congr fun i hi => h i (by omega), h n (by omega)]
theorem sumI_add (f g : Nat → Int) : ∀ n : Nat, sumI (fun i => f i + g i) n = sumI f n + sumI g n
  | 0 => rfl
  | n + 1 => by simp only [sumI, sumI_add f g n]; omega
theorem sumI_mul (c : Int) (f : Nat → Int) : ∀ n : Nat, sumI (fun i => c * f i) n = c * sumI f n
  | 0 => by simp [sumI]
  | n + 1 => by simp only [sumI, sumI_mul c f n, Int.mul_add]
theorem sumI_neg (f : Nat → Int) (n : Nat) : sumI (fun i => -f i) n = -sumI f n := by
  have := sumI_mul (-1) f n
  simp only [Int.neg_mul, Int.one_mul] at this
  exact this
theorem sumI_zero : ∀ n : Nat, sumI (fun _ => 0) n = 0
  | 0 => rfl
  | n + 1 => by rw [sumI, sumI_zero n]; rfl
theorem sumI_none {f : Nat → Int} {n : Nat} (h : ∀ i, i < n → f i = 0) : sumI f n = 0 := (sumI_congr h).trans (sumI_zero n)
theorem sumI_comm (f : Nat → Nat → Int) (m : Nat) : ∀ n : Nat, sumI (fun i => sumI (fun j => f i j) m) n = sumI (fun j => sumI (fun i => f i j) n) m
  | 0 => by simp only [sumI]; exact (sumI_zero m).symm
  | n + 1 => by
    simp only [sumI]
    rw [sumI_comm f m n, sumI_add]
theorem sumI_at (f : Nat → Int) (a : Nat) : ∀ n : Nat, sumI (fun i => if i = a then f i else 0) n = if a < n then f a else 0
  | 0 => by simp [sumI]
  | n + 1 => by
    rw [sumI, sumI_at f a n]
    by_cases h : a < n
    · rw [if_pos h, if_neg (by omega), if_pos (by omega)]; omega
    · rw [if_neg h]
      by_cases e : n = a
      · subst e; rw [if_pos rfl, if_pos (by omega)]; omega
      · rw [if_neg e, if_neg (by omega)]; omega
/-- One stands alone. -/
theorem sumI_one {f : Nat → Int} {a n : Nat} (ha : a < n) (h : ∀ i, i < n → i ≠ a → f i = 0) : sumI f n = f a := by
  rw [show sumI f n = sumI (fun i => if i = a then f i else 0) n from sumI_congr fun i hi => by
    by_cases e : i = a
    · rw [if_pos e]
    · rw [if_neg e, h i hi e], sumI_at, if_pos ha]
/-- What is turned has the same sum. -/
theorem sumI_turn {f g : Nat → Int} {n : Nat} (φ ψ : Nat → Nat) (hf : ∀ x, x < n → f x ≠ 0 → φ x < n ∧ ψ (φ x) = x ∧ g (φ x) = f x)
    (hg : ∀ z, z < n → g z ≠ 0 → ψ z < n ∧ φ (ψ z) = z ∧ f (ψ z) = g z) : sumI f n = sumI g n := by
  have h1 : sumI f n = sumI (fun x => sumI (fun z => if z = φ x then f x else 0) n) n := sumI_congr fun x hx => by
    rw [sumI_at (fun _ => f x)]
    by_cases h : f x = 0
    · rw [h]; split <;> rfl
    · rw [if_pos (hf x hx h).1]
  have h2 : sumI g n = sumI (fun z => sumI (fun x => if x = ψ z then g z else 0) n) n := sumI_congr fun z hz => by
    rw [sumI_at (fun _ => g z)]
    by_cases h : g z = 0
    · rw [h]; split <;> rfl
    · rw [if_pos (hg z hz h).1]
  rw [h1, h2, sumI_comm]
  refine sumI_congr fun z hz => sumI_congr fun x hx => ?_
  by_cases e1 : f x = 0
  · rw [e1, show (if z = φ x then (0 : Int) else 0) = 0 by split <;> rfl]
    by_cases e2 : x = ψ z
    · rw [if_pos e2]
      by_cases e3 : g z = 0
      · exact e3.symm
      · have := (hg z hz e3).2.2
        rw [← e2, e1] at this
        exact this
    · rw [if_neg e2]
  · obtain ⟨a1, a2, a3⟩ := hf x hx e1
    by_cases e2 : z = φ x
    · rw [if_pos e2, if_pos (by rw [e2]; exact a2.symm), e2, a3]
    · rw [if_neg e2]
      by_cases e3 : x = ψ z
      · rw [if_pos e3]
        by_cases e4 : g z = 0
        · exact e4.symm
        · exact absurd (by rw [e3]; exact ((hg z hz e4).2.1).symm) e2
      · rw [if_neg e3]
/-- What turns its sign under a turn that goes back is nothing. -/
theorem sumI_anti {f : Nat → Int} {n : Nat} (φ : Nat → Nat) (h : ∀ x, x < n → f x ≠ 0 → φ x < n ∧ φ (φ x) = x ∧ f (φ x) = -f x) : sumI f n = 0 := by
  have := sumI_turn (f := f) (g := fun x => -f x) (n := n) φ φ (fun x hx h0 => ⟨(h x hx h0).1, (h x hx h0).2.1, by rw [(h x hx h0).2.2]; omega⟩) (fun z hz h0 => by
    have h1 : f z ≠ 0 := fun e => h0 (by rw [e]; rfl)
    exact ⟨(h z hz h1).1, (h z hz h1).2.1, (h z hz h1).2.2⟩)
  rw [sumI_neg] at this
  omega
theorem sumI_two (f : Nat → Int) : ∀ n : Nat, sumI f (2 * n) = sumI (fun i => f (2 * i) + f (2 * i + 1)) n
  | 0 => rfl
  | n + 1 => by
    rw [show 2 * (n + 1) = 2 * n + 1 + 1 by omega, sumI, sumI, sumI, sumI_two f n]; omega
theorem sumI_le {f g : Nat → Int} : ∀ {n : Nat}, (∀ i, i < n → f i ≤ g i) → sumI f n ≤ sumI g n
  | 0, _ => Int.le_refl _
  | n + 1, h => by
    have h1 := sumI_le (n := n) fun i hi => h i (by omega)
    have h2 := h n (by omega)
    rw [sumI, sumI]; omega
theorem sumI_lt {f g : Nat → Int} {n a : Nat} (h : ∀ i, i < n → f i ≤ g i) (ha : a < n) (hs : f a < g a) : sumI f n < sumI g n := by
  induction n with
  | zero => omega
  | succ n ih =>
    rw [sumI, sumI]
    have h2 := h n (by omega)
    by_cases e : a = n
    · subst e
      have := sumI_le (n := a) (f := f) (g := g) fun i hi => h i (by omega)
      omega
    · have := ih (fun i hi => h i (by omega)) (by omega)
      omega

/-- Falling powers of any number. -/
def ffI (x : Int) : Nat → Int
  | 0 => 1
  | k + 1 => ffI x k * (x - k)
theorem ffI_back (x : Int) : ∀ k : Nat, ffI x (k + 1) = ffI (x - 1) (k + 1) + (k + 1) * ffI (x - 1) k
  | 0 => by simp only [ffI]; grind
  | k + 1 => by
    have h := ffI_back x k
    have e1 : ffI x (k + 1 + 1) = ffI x (k + 1) * (x - (k + 1)) := by rw [ffI]; push_cast; rfl
    have e2 : ffI (x - 1) (k + 1 + 1) = ffI (x - 1) (k + 1) * (x - 1 - (k + 1)) := by rw [ffI]; push_cast; rfl
    have e3 : ffI (x - 1) (k + 1) = ffI (x - 1) k * (x - 1 - k) := rfl
    rw [e1, e2, h, e3]
    push_cast
    generalize ffI (x - 1) k = G
    generalize (k : Int) = K
    grind
theorem ffI_zero : ∀ k : Nat, 0 < k → ffI 0 k = 0
  | 0, h => by omega
  | 1, _ => by simp [ffI]
  | k + 2, _ => by rw [ffI, ffI_zero (k + 1) (by omega), Int.zero_mul]
theorem ffI_nil {n : Nat} : ∀ k : Nat, n < k → ffI n k = 0
  | 0, h => by omega
  | k + 1, h => by
    rw [ffI]
    by_cases e : n < k
    · rw [ffI_nil k e, Int.zero_mul]
    · have : n = k := by omega
      subst this
      rw [Int.sub_self, Int.mul_zero]

end Go.Proofs.Ytmhcnekbfngafaa
