/- Go's bitwise operators on ints that are no less than 0, as operations on natural numbers. No program in sight. Sets of bits: the lowest one, all that lie within one. No program in sight. Numbers as an int holds them. No program in sight. Sums over the numbers below one: exchange, turning, what cancels. No program in sight. -/
import Derived.WalkKit
import Derived.Laws.Entries
import Derived.Test.YtnhhohhhpaejmaaDoorPA
namespace Go.Proofs.YtnhhohhhpaejmaaDoor
open Go Go.RowKit

/-- 'a & b', 'a | b', 'a &^ b', 'a >> v', '1 << v', 'a >> v & 1'. -/
def land (a b : Nat) : Nat := a &&& b
def lor (a b : Nat) : Nat := a ||| b
def less (a b : Nat) : Nat := a ^^^ (a &&& b)
def shr (a v : Nat) : Nat := a >>> v
def pow2 (v : Nat) : Nat := 2 ^ v
def bit (a v : Nat) : Nat := if a.testBit v then 1 else 0

/-- The numbers that these are used of. -/
abbrev Few (a : Nat) : Prop := a < 4611686018427387904

theorem few_two : (4611686018427387904 : Nat) = 2 ^ 62 := rfl
theorem few_bit {a : Nat} (h : Few a) {i : Nat} (hi : a.testBit i = true) : i < 62 := by
  rcases Nat.lt_or_ge i 62 with h' | h'
  · exact h'
  · have : a < 2 ^ i := Nat.lt_of_lt_of_le h (by rw [few_two]; exact Nat.pow_le_pow_right (by decide) h')
    rw [Nat.testBit_lt_two_pow this] at hi
    cases hi
theorem few_of_bit {a n : Nat} (h : ∀ i, a.testBit i = true → i < n) : a < 2 ^ n := by
  refine Nat.lt_pow_two_of_testBit a fun i hi => ?_
  cases e : a.testBit i
  · rfl
  · have := h i e; omega

theorem land_bit (a b i : Nat) : (land a b).testBit i = (a.testBit i && b.testBit i) := Nat.testBit_and a b i
theorem lor_bit (a b i : Nat) : (lor a b).testBit i = (a.testBit i || b.testBit i) := Nat.testBit_or a b i
theorem less_bit (a b i : Nat) : (less a b).testBit i = (a.testBit i && !b.testBit i) := by
  unfold less
  rw [Nat.testBit_xor, Nat.testBit_and]
  cases a.testBit i <;> cases b.testBit i <;> rfl
theorem pow2_bit (v i : Nat) : (pow2 v).testBit i = decide (v = i) := by
  unfold pow2
  rw [Nat.testBit_two_pow]
theorem shr_bit (a v i : Nat) : (shr a v).testBit i = a.testBit (v + i) := Nat.testBit_shiftRight a

theorem land_few {a b : Nat} (h : Few a) : Few (land a b) := Nat.lt_of_le_of_lt Nat.and_le_left h
theorem less_few {a b : Nat} (h : Few a) : Few (less a b) := by
  rw [Few, few_two]
  refine few_of_bit fun i hi => few_bit h ?_
  rw [less_bit] at hi
  cases e : a.testBit i
  · rw [e] at hi; cases hi
  · rfl
theorem lor_few {a b : Nat} (h : Few a) (k : Few b) : Few (lor a b) := by
  rw [Few, few_two]
  refine few_of_bit fun i hi => ?_
  rw [lor_bit] at hi
  cases e : a.testBit i
  · rw [e] at hi; exact few_bit k (by simpa using hi)
  · exact few_bit h e
theorem pow2_few {v : Nat} (h : v < 62) : Few (pow2 v) := by
  rw [Few, few_two]; exact Nat.pow_lt_pow_right (by decide) h
theorem shr_few {a v : Nat} (h : Few a) : Few (shr a v) := Nat.lt_of_le_of_lt (Nat.shiftRight_le a v) h

/-! What the walk meets. -/
theorem wrap_nat {n : Nat} (h : n < 9223372036854775808) : IntKind.i64.wrap (n : Int) = (n : Int) := by
  simp [IntKind.wrap, IntKind.bits, IntKind.signed]; omega
theorem ofInt_nat {a : Nat} (h : a < 18446744073709551616) : (BitVec.ofInt 64 (a : Int)).toNat = a := by
  rw [BitVec.toNat_ofInt]; omega
theorem op_and {a b : Nat} (ha : Few a) (hb : Few b) : bits .and .i64 (a : Int) (b : Int) = (land a b : Int) := by
  have h := land_few (b := b) ha
  unfold bits
  show IntKind.i64.wrap (((BitVec.ofInt 64 (a : Int)) &&& (BitVec.ofInt 64 (b : Int))).toNat : Int) = _
  rw [BitVec.toNat_and, ofInt_nat (by omega), ofInt_nat (by omega)]
  exact wrap_nat (by unfold land at h; omega)
theorem op_or {a b : Nat} (ha : Few a) (hb : Few b) : bits .or .i64 (a : Int) (b : Int) = (lor a b : Int) := by
  have h := lor_few ha hb
  unfold bits
  show IntKind.i64.wrap (((BitVec.ofInt 64 (a : Int)) ||| (BitVec.ofInt 64 (b : Int))).toNat : Int) = _
  rw [BitVec.toNat_or, ofInt_nat (by omega), ofInt_nat (by omega)]
  exact wrap_nat (by unfold lor at h; omega)
theorem op_andNot {a b : Nat} (ha : Few a) (hb : Few b) : bits .andNot .i64 (a : Int) (b : Int) = (less a b : Int) := by
  have h := less_few (b := b) ha
  unfold bits
  show IntKind.i64.wrap (((BitVec.ofInt 64 (a : Int)) &&& ~~~(BitVec.ofInt 64 (b : Int))).toNat : Int) = _
  have e : ((BitVec.ofInt 64 (a : Int)) &&& ~~~(BitVec.ofInt 64 (b : Int))).toNat = less a b := by
    refine Nat.eq_of_testBit_eq fun i => ?_
    rw [less_bit, BitVec.testBit_toNat, BitVec.getLsbD_and, BitVec.getLsbD_not, ← BitVec.testBit_toNat, ← BitVec.testBit_toNat, ofInt_nat (by omega), ofInt_nat (by omega)]
    by_cases hi : i < 64
    · simp [hi]
    · have : a.testBit i = false := by
        cases e : a.testBit i
        · rfl
        · have := few_bit ha e; omega
      simp [this]
  rw [e]
  exact wrap_nat (by omega)
/-- As the walk leaves '1 << v' and 'a >> v'. -/
theorem op_shl {v : Nat} (hv : v < 62) : IntKind.i64.wrap ((2 : Int) ^ v) = (pow2 v : Int) := by
  have := pow2_few hv
  have e : (2 : Int) ^ v = ((pow2 v : Nat) : Int) := by unfold pow2; simp
  rw [e]
  exact wrap_nat (by omega)
theorem op_shr (a v : Nat) : (a : Int) / 2 ^ v = (shr a v : Int) := by
  unfold shr
  rw [Nat.shiftRight_eq_div_pow]
  simp
theorem op_bit {a v : Nat} (ha : Few a) : bits .and .i64 (shr a v : Int) 1 = (bit a v : Int) := by
  have h := op_and (shr_few (v := v) ha) (show Few 1 by decide)
  rw [show ((1 : Nat) : Int) = 1 from rfl] at h
  rw [h]
  congr 1
  unfold land shr bit
  rw [Nat.and_one_is_mod, Nat.testBit_eq_decide_div_mod_eq, Nat.shiftRight_eq_div_pow]
  rcases Nat.mod_two_eq_zero_or_one (a / 2 ^ v) with e | e <;> simp [e]
theorem bit_one {a v : Nat} (h : a.testBit v = true) : bit a v = 1 := by unfold bit; rw [if_pos h]
theorem bit_zero {a v : Nat} (h : a.testBit v = false) : bit a v = 0 := by unfold bit; rw [if_neg (by rw [h]; exact Bool.false_ne_true)]

end Go.Proofs.YtnhhohhhpaejmaaDoor
namespace Go.Proofs.YtnhhohhhpaejmaaDoor
open Go Go.RowKit

theorem land_half (a b : Nat) : land a b = 2 * land (a / 2) (b / 2) + (if a % 2 = 1 ∧ b % 2 = 1 then 1 else 0) := by
  refine Nat.eq_of_testBit_eq fun i => ?_
  cases i with
  | zero =>
    rw [land_bit]
    simp only [Nat.testBit_zero]
    by_cases h1 : a % 2 = 1 <;> by_cases h2 : b % 2 = 1 <;> simp [h1, h2]
  | succ i =>
    rw [land_bit, Nat.testBit_succ, Nat.testBit_succ, Nat.testBit_succ]
    have : (2 * land (a / 2) (b / 2) + (if a % 2 = 1 ∧ b % 2 = 1 then 1 else 0)) / 2 = land (a / 2) (b / 2) := by split <;> omega
    rw [this, land_bit]

/-- t lies within l. -/
def Within (t l : Nat) : Prop := ∀ i, t.testBit i = true → l.testBit i = true
theorem Within.half {t l : Nat} (h : Within t l) : Within (t / 2) (l / 2) ∧ (t % 2 = 1 → l % 2 = 1) := by
  refine ⟨fun i hi => ?_, fun h1 => ?_⟩
  · rw [← Nat.testBit_succ] at hi ⊢
    exact h _ hi
  · have := h 0 (by simp [Nat.testBit_zero, h1])
    simpa [Nat.testBit_zero] using this
theorem Within.land {t l : Nat} (h : Within t l) : land t l = t := by
  refine Nat.eq_of_testBit_eq fun i => ?_
  rw [land_bit]
  cases e : t.testBit i
  · rfl
  · rw [h i e]; rfl
theorem land_within (t l : Nat) : Within (land t l) l := fun i hi => by
  rw [land_bit, Bool.and_eq_true] at hi
  exact hi.2
theorem Within.refl (l : Nat) : Within l l := fun _ h => h
theorem Within.le {t l : Nat} (h : Within t l) : t ≤ l := by
  rw [← h.land]
  exact Nat.and_le_right

/-- The next one below s. -/
theorem next_sub : ∀ (n s l t : Nat), s ≤ n → Within s l → Within t l → t < s → t ≤ land (s - 1) l := by
  intro n
  induction n with
  | zero => intro s l t hs _ _ ht; omega
  | succ n ih =>
    intro s l t hs hsl htl hts
    obtain ⟨h1, h2⟩ := hsl.half
    obtain ⟨k1, k2⟩ := htl.half
    rw [land_half (s - 1) l]
    rcases Nat.mod_two_eq_zero_or_one s with e | e
    · have e1 : (s - 1) / 2 = s / 2 - 1 := by omega
      have e2 : (s - 1) % 2 = 1 := by omega
      have := ih (s / 2) (l / 2) (t / 2) (by omega) h1 k1 (by omega)
      rw [e1]
      by_cases hl : l % 2 = 1
      · rw [if_pos ⟨e2, hl⟩]; omega
      · rw [if_neg (fun h => hl h.2)]
        have : ¬ t % 2 = 1 := fun h => hl (k2 h)
        omega
    · have e1 : (s - 1) / 2 = s / 2 := by omega
      have e2 : ¬ ((s - 1) % 2 = 1 ∧ l % 2 = 1) := by omega
      rw [e1, if_neg e2, h1.land]
      omega

/-- The first one that is found among the sets within l, from s downward. -/
def firstFrom {α : Type} (g : Nat → Option α) (l : Nat) (s : Nat) : Option α :=
  if h : s = 0 then none else match g s with
    | some r => some r
    | none => firstFrom g l (land (s - 1) l)
termination_by s
decreasing_by
  have : land (s - 1) l ≤ s - 1 := Nat.and_le_left
  omega
theorem firstFrom_zero {α : Type} (g : Nat → Option α) (l : Nat) : firstFrom g l 0 = none := by rw [firstFrom]; simp
theorem firstFrom_some {α : Type} {g : Nat → Option α} {l s : Nat} {r : α} (h : s ≠ 0) (hg : g s = some r) : firstFrom g l s = some r := by
  rw [firstFrom, dif_neg h, hg]
theorem firstFrom_none {α : Type} {g : Nat → Option α} {l s : Nat} (h : s ≠ 0) (hg : g s = none) : firstFrom g l s = firstFrom g l (land (s - 1) l) := by
  rw [firstFrom, dif_neg h, hg]
theorem firstFrom_has {α : Type} {g : Nat → Option α} {l : Nat} {r : α} : ∀ (n s : Nat), s ≤ n → Within s l → firstFrom g l s = some r → ∃ t, t ≠ 0 ∧ Within t l ∧ g t = some r := by
  intro n
  induction n with
  | zero => intro s hs _ h; obtain rfl : s = 0 := by omega
            rw [firstFrom_zero] at h; cases h
  | succ n ih =>
    intro s hs hw h
    by_cases h0 : s = 0
    · subst h0; rw [firstFrom_zero] at h; cases h
    · cases e : g s with
      | some q => rw [firstFrom_some h0 e] at h; exact ⟨s, h0, hw, by rw [e]; exact h⟩
      | none =>
        rw [firstFrom_none h0 e] at h
        have : land (s - 1) l ≤ s - 1 := Nat.and_le_left
        exact ih _ (by omega) (land_within _ _) h
theorem firstFrom_not {α : Type} {g : Nat → Option α} {l : Nat} : ∀ (n s : Nat), s ≤ n → Within s l → firstFrom g l s = none → ∀ t, t ≠ 0 → t ≤ s → Within t l → g t = none := by
  intro n
  induction n with
  | zero => intro s hs _ _ t h0 ht; omega
  | succ n ih =>
    intro s hs hw h t h0 ht htl
    by_cases hs0 : s = 0
    · omega
    · cases e : g s with
      | some q => rw [firstFrom_some hs0 e] at h; cases h
      | none =>
        by_cases e2 : t = s
        · rw [e2]; exact e
        · rw [firstFrom_none hs0 e] at h
          have : land (s - 1) l ≤ s - 1 := Nat.and_le_left
          exact ih _ (by omega) (land_within _ _) h t h0 (next_sub s s l t (Nat.le_refl _) hw htl (by omega)) htl

/-- The lowest bit. -/
theorem low_is : ∀ (n s : Nat), s ≤ n → s ≠ 0 → ∃ v, s.testBit v = true ∧ less s (s - 1) = pow2 v := by
  intro n
  induction n with
  | zero => intro s hs h; omega
  | succ n ih =>
    intro s hs h
    rcases Nat.mod_two_eq_zero_or_one s with e | e
    · obtain ⟨v, h1, h2⟩ := ih (s / 2) (by omega) (by omega)
      refine ⟨v + 1, by rw [Nat.testBit_succ]; exact h1, Nat.eq_of_testBit_eq fun i => ?_⟩
      rw [less_bit, pow2_bit]
      cases i with
      | zero => simp [Nat.testBit_zero]; omega
      | succ i =>
        rw [Nat.testBit_succ, Nat.testBit_succ, show (s - 1) / 2 = s / 2 - 1 by omega, ← less_bit, h2, pow2_bit]
        simp
    · refine ⟨0, by simp [Nat.testBit_zero, e], Nat.eq_of_testBit_eq fun i => ?_⟩
      rw [less_bit, pow2_bit]
      cases i with
      | zero => simp [Nat.testBit_zero]; omega
      | succ i =>
        rw [Nat.testBit_succ, Nat.testBit_succ, show (s - 1) / 2 = s / 2 by omega]
        simp
theorem op_low {s : Nat} (h : Few s) (h0 : s ≠ 0) : ∃ v, s.testBit v = true ∧ bits .and .i64 (s : Int) (-(s : Int)) = (pow2 v : Int) := by
  obtain ⟨v, h1, h2⟩ := low_is s s (Nat.le_refl _) h0
  refine ⟨v, h1, ?_⟩
  rw [← h2, ← op_andNot h (by show s - 1 < _; unfold Few at h; omega)]
  unfold bits
  show IntKind.i64.wrap (((BitVec.ofInt 64 (s : Int)) &&& (BitVec.ofInt 64 (-(s : Int)))).toNat : Int) = IntKind.i64.wrap (((BitVec.ofInt 64 (s : Int)) &&& ~~~(BitVec.ofInt 64 ((s - 1 : Nat) : Int))).toNat : Int)
  have e : BitVec.ofInt 64 (-(s : Int)) = ~~~(BitVec.ofInt 64 ((s - 1 : Nat) : Int)) := by
    have hh : s < 4611686018427387904 := h
    apply BitVec.eq_of_toNat_eq
    rw [BitVec.toNat_not, BitVec.toNat_ofInt, BitVec.toNat_ofInt]
    omega
  rw [e]

end Go.Proofs.YtnhhohhhpaejmaaDoor
namespace Go.Proofs.YtnhhohhhpaejmaaDoor
open Go Go.RowKit

/-- As an int holds it. -/
abbrev wI (x : Int) : Int := IntKind.i64.wrap x
theorem wI_64 (x : Int) : wI x = wrap64 x := by
  unfold wI wrap64
  simp [IntKind.wrap, IntKind.bits, IntKind.signed]
  try omega
theorem wI_eq (x : Int) : ∃ q : Int, wI x = x + q * 18446744073709551616 := by
  unfold wI
  refine ⟨-((x + 9223372036854775808) / 18446744073709551616), ?_⟩
  simp [IntKind.wrap, IntKind.bits, IntKind.signed]
  omega
theorem wI_congr {x y q : Int} (h : x = y + q * 18446744073709551616) : wI x = wI y := by
  unfold wI
  simp [IntKind.wrap, IntKind.bits, IntKind.signed]
  omega
theorem wI_add (x y : Int) : wI (wI x + wI y) = wI (x + y) := by
  obtain ⟨a, ha⟩ := wI_eq x
  obtain ⟨b, hb⟩ := wI_eq y
  exact wI_congr (q := a + b) (by rw [ha, hb, Int.add_mul]; omega)
theorem wI_addr (x y : Int) : wI (x + wI y) = wI (x + y) := by
  obtain ⟨b, hb⟩ := wI_eq y
  exact wI_congr (q := b) (by rw [hb]; omega)
theorem wI_mul (x y : Int) : wI (wI x * wI y) = wI (x * y) := by
  obtain ⟨a, ha⟩ := wI_eq x
  obtain ⟨b, hb⟩ := wI_eq y
  refine wI_congr (q := x * b + a * y + a * b * 18446744073709551616) ?_
  rw [ha, hb]
  simp only [Int.add_mul, Int.mul_add]
  have e1 : a * 18446744073709551616 * y = a * y * 18446744073709551616 := by rw [Int.mul_assoc, Int.mul_comm 18446744073709551616 y, ← Int.mul_assoc]
  have e2 : x * (b * 18446744073709551616) = x * b * 18446744073709551616 := by rw [Int.mul_assoc]
  have e3 : a * 18446744073709551616 * (b * 18446744073709551616) = a * b * 18446744073709551616 * 18446744073709551616 := by
    rw [← Int.mul_assoc, Int.mul_assoc a _ b, Int.mul_comm 18446744073709551616 b, ← Int.mul_assoc]
  rw [e1, e2, e3]
  omega
theorem wI_wI (x : Int) : wI (wI x) = wI x := by
  have := wI_addr 0 x
  simpa using this

theorem wI_sub2 (x y : Int) : wI (wI x - wI y) = wI (x - y) := by
  obtain ⟨a, ha⟩ := wI_eq x
  obtain ⟨b, hb⟩ := wI_eq y
  exact wI_congr (q := a - b) (by rw [ha, hb, Int.sub_mul]; omega)
theorem wI_sum (b c : Int) : wI (wI b + c) = wI (b + c) := by rw [Int.add_comm, wI_addr, Int.add_comm]

end Go.Proofs.YtnhhohhhpaejmaaDoor
namespace Go.Proofs.YtnhhohhhpaejmaaDoor
open Go Go.RowKit

def sumI (f : Nat → Int) : Nat → Int
  | 0 => 0
  | n + 1 => sumI f n + f n
theorem sumI_congr {f g : Nat → Int} : ∀ {n : Nat}, (∀ i, i < n → f i = g i) → sumI f n = sumI g n
  | 0, _ => rfl
  | n + 1, h => by rw [sumI, sumI, sumI_congr fun i hi => h i (by omega), h n (by omega)]
theorem sumI_add (f g : Nat → Int) : ∀ n : Nat, sumI (fun i => f i + g i) n = sumI f n + sumI g n
  | 0 => rfl
  | n + 1 => by simp only [sumI, sumI_add f g n]; omega
theorem sumI_mul (c : Int) (f : Nat → Int) : ∀ n : Nat, sumI (fun i => c * f i) n = c * sumI f n
  | 0 => by simp [sumI]
  | n + 1 => by simp only [sumI, sumI_mul c f n, Int.mul_add]
theorem sumI_neg (f : Nat → Int) (n : Nat) : sumI (fun i => -f i) n = -sumI f n := by
  have := sumI_mul (-1) f n
  simp only [Int.neg_mul, Int.one_mul] at this
  exact this
theorem sumI_zero : ∀ n : Nat, sumI (fun _ => 0) n = 0
  | 0 => rfl
  | n + 1 => by rw [sumI, sumI_zero n]; rfl
theorem sumI_none {f : Nat → Int} {n : Nat} (h : ∀ i, i < n → f i = 0) : sumI f n = 0 := (sumI_congr h).trans (sumI_zero n)
theorem sumI_comm (f : Nat → Nat → Int) (m : Nat) : ∀ n : Nat, sumI (fun i => sumI (fun j => f i j) m) n = sumI (fun j => sumI (fun i => f i j) n) m
  | 0 => by simp only [sumI]; exact (sumI_zero m).symm
  | n + 1 => by
    simp only [sumI]
    rw [sumI_comm f m n, sumI_add]
theorem sumI_at (f : Nat → Int) (a : Nat) : ∀ n : Nat, sumI (fun i => if i = a then f i else 0) n = if a < n then f a else 0
  | 0 => by simp [sumI]
  | n + 1 => by
    rw [sumI, sumI_at f a n]
    by_cases h : a < n
    · rw [if_pos h, if_neg (by omega), if_pos (by omega)]; omega
    · rw [if_neg h]
      by_cases e : n = a
      · subst e; rw [if_pos rfl, if_pos (by omega)]; omega
      · rw [if_neg e, if_neg (by omega)]; omega
/-- One stands alone. -/
theorem sumI_one {f : Nat → Int} {a n : Nat} (ha : a < n) (h : ∀ i, i < n → i ≠ a → f i = 0) : sumI f n = f a := by
  rw [show sumI f n = sumI (fun i => if i = a then f i else 0) n from sumI_congr fun i hi => by
    by_cases e : i = a
    · rw [if_pos e]
    · rw [if_neg e, h i hi e], sumI_at, if_pos ha]
/-- What is turned has the same sum. -/
theorem sumI_turn {f g : Nat → Int} {n : Nat} (φ ψ : Nat → Nat) (hf : ∀ x, x < n → f x ≠ 0 → φ x < n ∧ ψ (φ x) = x ∧ g (φ x) = f x)
    (hg : ∀ z, z < n → g z ≠ 0 → ψ z < n ∧ φ (ψ z) = z ∧ f (ψ z) = g z) : sumI f n = sumI g n := by
  have h1 : sumI f n = sumI (fun x => sumI (fun z => if z = φ x then f x else 0) n) n := sumI_congr fun x hx => by
    rw [sumI_at (fun _ => f x)]
    by_cases h : f x = 0
    · rw [h]; split <;> rfl
    · rw [if_pos (hf x hx h).1]
  have h2 : sumI g n = sumI (fun z => sumI (fun x => if x = ψ z then g z else 0) n) n := sumI_congr fun z hz => by
    rw [sumI_at (fun _ => g z)]
    by_cases h : g z = 0
    · rw [h]; split <;> rfl
    · rw [if_pos (hg z hz h).1]
  rw [h1, h2, sumI_comm]
  refine sumI_congr fun z hz => sumI_congr fun x hx => ?_
  by_cases e1 : f x = 0
  · rw [e1, show (if z = φ x then (0 : Int) else 0) = 0 by split <;> rfl]
    by_cases e2 : x = ψ z
    · rw [if_pos e2]
      by_cases e3 : g z = 0
      · exact e3.symm
      · have := (hg z hz e3).2.2
        rw [← e2, e1] at this
        exact this
    · rw [if_neg e2]
  · obtain ⟨a1, a2, a3⟩ := hf x hx e1
    by_cases e2 : z = φ x
    · rw [if_pos e2, if_pos (by rw [e2]; exact a2.symm), e2, a3]
    · rw [if_neg e2]
      by_cases e3 : x = ψ z
      · rw [if_pos e3]
        by_cases e4 : g z = 0
        · exact e4.symm
        · exact absurd (by rw [e3]; exact ((hg z hz e4).2.1).symm) e2
      · rw [if_neg e3]
/-- What turns its sign under a turn that goes back is nothing. -/
theorem sumI_anti {f : Nat → Int} {n : Nat} (φ : Nat → Nat) (h : ∀ x, x < n → f x ≠ 0 → φ x < n ∧ φ (φ x) = x ∧ f (φ x) = -f x) : sumI f n = 0 := by
  have := sumI_turn (f := f) (g := fun x => -f x) (n := n) φ φ (fun x hx h0 => ⟨(h x hx h0).1, (h x hx h0).2.1, by rw [(h x hx h0).2.2]; omega⟩) (fun z hz h0 => by
    have h1 : f z ≠ 0 := fun e => h0 (by rw [e]; rfl)
    exact ⟨(h z hz h1).1, (h z hz h1).2.1, (h z hz h1).2.2⟩)
  rw [sumI_neg] at this
  omega
theorem sumI_two (f : Nat → Int) : ∀ n : Nat, sumI f (2 * n) = sumI (fun i => f (2 * i) + f (2 * i + 1)) n
  | 0 => rfl
  | n + 1 => by
    rw [show 2 * (n + 1) = 2 * n + 1 + 1 by omega, sumI, sumI, sumI, sumI_two f n]; omega
theorem sumI_le {f g : Nat → Int} : ∀ {n : Nat}, (∀ i, i < n → f i ≤ g i) → sumI f n ≤ sumI g n
  | 0, _ => Int.le_refl _
  | n + 1, h => by
    have h1 := sumI_le (n := n) fun i hi => h i (by omega)
    have h2 := h n (by omega)
    rw [sumI, sumI]; omega
theorem sumI_lt {f g : Nat → Int} {n a : Nat} (h : ∀ i, i < n → f i ≤ g i) (ha : a < n) (hs : f a < g a) : sumI f n < sumI g n := by
  induction n with
  | zero => omega
  | succ n ih =>
    rw [sumI, sumI]
    have h2 := h n (by omega)
    by_cases e : a = n
    · subst e
      have := sumI_le (n := a) (f := f) (g := g) fun i hi => h i (by omega)
      omega
    · have := ih (fun i hi => h i (by omega)) (by omega)
      omega

/-- Falling powers of any number. -/
def ffI (x : Int) : Nat → Int
  | 0 => 1
  | k + 1 => ffI x k * (x - k)
theorem ffI_back (x : Int) : ∀ k : Nat, ffI x (k + 1) = ffI (x - 1) (k + 1) + (k + 1) * ffI (x - 1) k
  | 0 => by simp only [ffI]; grind
  | k + 1 => by
    have h := ffI_back x k
    have e1 : ffI x (k + 1 + 1) = ffI x (k + 1) * (x - (k + 1)) := by rw [ffI]; push_cast; rfl
    have e2 : ffI (x - 1) (k + 1 + 1) = ffI (x - 1) (k + 1) * (x - 1 - (k + 1)) := by rw [ffI]; push_cast; rfl
    have e3 : ffI (x - 1) (k + 1) = ffI (x - 1) k * (x - 1 - k) := rfl
    rw [e1, e2, h, e3]
    push_cast
    generalize ffI (x - 1) k = G
    generalize (k : Int) = K
    grind
theorem ffI_zero : ∀ k : Nat, 0 < k → ffI 0 k = 0
  | 0, h => by omega
  | 1, _ => by simp [ffI]
  | k + 2, _ => by rw [ffI, ffI_zero (k + 1) (by omega), Int.zero_mul]
theorem ffI_nil {n : Nat} : ∀ k : Nat, n < k → ffI n k = 0
  | 0, h => by omega
  | k + 1, h => by
    rw [ffI]
    by_cases e : n < k
    · rw [ffI_nil k e, Int.zero_mul]
    · have : n = k := by omega
      subst this
      rw [Int.sub_self, Int.mul_zero]

end Go.Proofs.YtnhhohhhpaejmaaDoor
