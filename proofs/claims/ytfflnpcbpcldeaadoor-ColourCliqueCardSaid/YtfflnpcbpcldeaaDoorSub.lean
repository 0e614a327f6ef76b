/- Sets of bits: the lowest one, all that lie within one. No program in sight. -/
import Derived.Test.YtfflnpcbpcldeaaDoorBits
import Derived.Test.YtfflnpcbpcldeaaDoorTryF
namespace Go.Proofs.YtfflnpcbpcldeaaDoor
open Go Go.RowKit

theorem land_half (a b : Nat) : land a b = 2 * land (a / 2) (b / 2) + (if a % 2 = 1 ∧ b % 2 = 1 then 1 else 0) := by
  refine Nat.eq_of_testBit_eq fun i => ?_
  cases i with
  | zero =>
    rw [land_bit]
    simp only [Nat.testBit_zero]
    by_cases h1 : a % 2 = 1 <;> by_cases h2 : b % 2 = 1 <;> simp [h1, h2]
  | succ i =>
    rw [land_bit, Nat.testBit_succ, Nat.testBit_succ, Nat.testBit_succ]
    have : (2 * land (a / 2) (b / 2) + (if a % 2 = 1 ∧ b % 2 = 1 then 1 else 0)) / 2 = land (a / 2) (b / 2) := by split <;> omega
    rw [this, land_bit]

/-- t lies within l. -/
def Within (t l : Nat) : Prop := ∀ i, t.testBit i = true → l.testBit i = true
theorem Within.half {t l : Nat} (h : Within t l) : Within (t / 2) (l / 2) ∧ (t % 2 = 1 → l % 2 = 1) := by
  refine ⟨fun i hi => ?_, fun h1 => ?_⟩
  · rw [← Nat.testBit_succ] at hi ⊢
    exact h _ hi
  · have := h 0 (by simp [Nat.testBit_zero, h1])
    simpa [Nat.testBit_zero] using this
theorem Within.land {t l : Nat} (h : Within t l) : land t l = t := by
  refine Nat.eq_of_testBit_eq fun i => ?_
  rw [land_bit]
  cases e : t.testBit i
  · rfl
  · rw [h i e]; rfl
theorem land_within (t l : Nat) : Within (land t l) l := fun i hi => by
  rw [land_bit, Bool.and_eq_true] at hi
  exact hi.2
theorem Within.refl (l : Nat) : Within l l := fun _ h => h
theorem Within.le {t l : Nat} (h : Within t l) : t ≤ l := by
  rw [← h.land]
  exact Nat.and_le_right

/-- The next one below s. -/
theorem next_sub : ∀ (n s l t : Nat), s ≤ n → Within s l → Within t l → t < s → t ≤ land (s - 1) l := by
  intro n
  induction n with
  | zero => intro s l t hs _ _ ht; omega
  | succ n ih =>
    intro s l t hs hsl htl hts
    obtain ⟨h1, h2⟩ := hsl.half
    obtain ⟨k1, k2⟩ := htl.half
    rw [land_half (s - 1) l]
    rcases Nat.mod_two_eq_zero_or_one s with e | e
    · have e1 : (s - 1) / 2 = s / 2 - 1 := by omega
      have e2 : (s - 1) % 2 = 1 := by omega
      have := ih (s / 2) (l / 2) (t / 2) (by omega) h1 k1 (by omega)
      rw [e1]
      by_cases hl : l % 2 = 1
      · rw [if_pos ⟨e2, hl⟩]; omega
      · rw [if_neg (fun h => hl h.2)]
        have : ¬ t % 2 = 1 := fun h => hl (k2 h)
        omega
    · have e1 : (s - 1) / 2 = s / 2 := by omega
      have e2 : ¬ ((s - 1) % 2 = 1 ∧ l % 2 = 1) := by omega
      rw [e1, if_neg e2, h1.land]
      omega

/-- The first one that is found among the sets within l, from s downward. -/
def firstFrom {α : Type} (g : Nat → Option α) (l : Nat) (s : Nat) : Option α :=
  if h : s = 0 then none else match g s with
    | some r => some r
    | none => firstFrom g l (land (s - 1) l)
termination_by s
decreasing_by
  have : land (s - 1) l ≤ s - 1 := Nat.and_le_left
  omega
theorem firstFrom_zero {α : Type} (g : Nat → Option α) (l : Nat) : firstFrom g l 0 = none := by rw [firstFrom]; simp
theorem firstFrom_some {α : Type} {g : Nat → Option α} {l s : Nat} {r : α} (h : s ≠ 0) (hg : g s = some r) : firstFrom g l s = some r := by
  rw [firstFrom, dif_neg h, hg]
theorem firstFrom_none {α : Type} {g : Nat → Option α} {l s : Nat} (h : s ≠ 0) (hg : g s = none) : firstFrom g l s = firstFrom g l (land (s - 1) l) := by
  rw [firstFrom, dif_neg h, hg]
theorem firstFrom_has {α : Type} {g : Nat → Option α} {l : Nat} {r : α} : ∀ (n s : Nat), s ≤ n → Within s l → firstFrom g l s = some r → ∃ t, t ≠ 0 ∧ Within t l ∧ g t = some r := by
  intro n
  induction n with
  | zero => intro s hs _ h; obtain rfl : s = 0 := by omega
            rw [firstFrom_zero] at h; cases h
  | succ n ih =>
    intro s hs hw h
    by_cases h0 : s = 0
    · subst h0; rw [firstFrom_zero] at h; cases h
    · cases e : g s with
      | some q => rw [firstFrom_some h0 e] at h; exact ⟨s, h0, hw, by rw [e]; exact h⟩
      | none =>
        rw [firstFrom_none h0 e] at h
        have : land (s - 1) l ≤ s - 1 := Nat.and_le_left
        exact ih _ (by omega) (land_within _ _) h
theorem firstFrom_not {α : Type} {g : Nat → Option α} {l : Nat} : ∀ (n s : Nat), s ≤ n → Within s l → firstFrom g l s = none → ∀ t, t ≠ 0 → t ≤ s → Within t l → g t = none := by
  intro n
  induction n with
  | zero => intro s hs _ _ t h0 ht; omega
  | succ n ih =>
    intro s hs hw h t h0 ht htl
    by_cases hs0 : s = 0
    · omega
    · cases e : g s with
      | some q => rw [firstFrom_some hs0 e] at h; cases h
      | none =>
        by_cases e2 : t = s
        · rw [e2]; exact e
        · rw [firstFrom_none hs0 e] at h
          have : land (s - 1) l ≤ s - 1 := Nat.and_le_left
          exact ih _ (by omega) (land_within _ _) h t h0 (next_sub s s l t (Nat.le_refl _) hw htl (by omega)) htl

/-- The lowest bit. -/
theorem low_is : ∀ (n s : Nat), s ≤ n → s ≠ 0 → ∃ v, s.testBit v = true ∧ less s (s - 1) = pow2 v := by
  intro n
  induction n with
  | zero => intro s hs h; omega
  | succ n ih =>
    intro s hs h
    rcases Nat.mod_two_eq_zero_or_one s with e | e
    · obtain ⟨v, h1, h2⟩ := ih (s / 2) (by omega) (by omega)
      refine ⟨v + 1, by rw [Nat.testBit_succ]; exact h1, Nat.eq_of_testBit_eq fun i => ?_⟩
      rw [less_bit, pow2_bit]
      cases i with
      | zero => simp [Nat.testBit_zero]; omega
      | succ i =>
        rw [Nat.testBit_succ, Nat.testBit_succ, show (s - 1) / 2 = s / 2 - 1 by omega, ← less_bit, h2, pow2_bit]
        simp
    · refine ⟨0, by simp [Nat.testBit_zero, e], Nat.eq_of_testBit_eq fun i => ?_⟩
      rw [less_bit, pow2_bit]
      cases i with
      | zero => simp [Nat.testBit_zero]; omega
      | succ i =>
        rw [Nat.testBit_succ, Nat.testBit_succ, show (s - 1) / 2 = s / 2 by omega]
        simp
theorem op_low {s : Nat} (h : Few s) (h0 : s ≠ 0) : ∃ v, s.testBit v = true ∧ bits .and .i64 (s : Int) (-(s : Int)) = (pow2 v : Int) := by
  obtain ⟨v, h1, h2⟩ := low_is s s (Nat.le_refl _) h0
  refine ⟨v, h1, ?_⟩
  rw [← h2, ← op_andNot h (by show s - 1 < _; unfold Few at h; omega)]
  unfold bits
  show IntKind.i64.wrap (((BitVec.ofInt 64 (s : Int)) &&& (BitVec.ofInt 64 (-(s : Int)))).toNat : Int) = IntKind.i64.wrap (((BitVec.ofInt 64 (s : Int)) &&& ~~~(BitVec.ofInt 64 ((s - 1 : Nat) : Int))).toNat : Int)
  have e : BitVec.ofInt 64 (-(s : Int)) = ~~~(BitVec.ofInt 64 ((s - 1 : Nat) : Int)) := by
    have hh : s < 4611686018427387904 := h
    apply BitVec.eq_of_toNat_eq
    rw [BitVec.toNat_not, BitVec.toNat_ofInt, BitVec.toNat_ofInt]
    omega
  rw [e]

end Go.Proofs.YtfflnpcbpcldeaaDoor
