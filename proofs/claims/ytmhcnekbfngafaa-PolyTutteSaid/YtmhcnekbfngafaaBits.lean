/- Go's bitwise operators on ints that are no less than 0, as operations on natural numbers. No program in sight. -/
import Derived.WalkKit
import Derived.Laws.Entries
namespace Go.Proofs.Ytmhcnekbfngafaa
open Go Go.RowKit

/-- 'a & b', 'a | b', 'a &^ b', 'a >> v', '1 << v', 'a >> v & 1'. -/
def land (a b : Nat) : Nat := a &&& b
def lor (a b : Nat) : Nat := a ||| b
def less (a b : Nat) : Nat := a ^^^ (a &&& b)
def shr (a v : Nat) : Nat := a >>> v
def pow2 (v : Nat) : Nat := 2 ^ v
def bit (a v : Nat) : Nat := if a.testBit v then 1 else 0

/-- The numbers that these are used of. -/
abbrev Few (a : Nat) : Prop := a < 4611686018427387904

theorem few_two : (4611686018427387904 : Nat) = 2 ^ 62 := rfl
theorem few_bit {a : Nat} (h : Few a) {i : Nat} (hi : a.testBit i = true) : i < 62 := by
  rcases Nat.lt_or_ge i 62 with h' | h'
  · exact h'
  · have : a < 2 ^ i := Nat.lt_of_lt_of_le h (by rw [few_two]; exact Nat.pow_le_pow_right (by decide) h')
    rw [Nat.testBit_lt_two_pow this] at hi
    cases hi
theorem few_of_bit {a n : Nat} (h : ∀ i, a.testBit i = true → i < n) : a < 2 ^ n := by
  refine Nat.lt_pow_two_of_testBit a fun i hi => ?_
  cases e : a.testBit i
  · rfl
  · have := h i e; omega

theorem land_bit (a b i : Nat) : (land a b).testBit i = (a.testBit i && b.testBit i) := Nat.testBit_and a b i
theorem lor_bit (a b i : Nat) : (lor a b).testBit i = (a.testBit i || b.testBit i) := Nat.testBit_or a b i
theorem less_bit (a b i : Nat) : (less a b).testBit i = (a.testBit i && !b.testBit i) := by
  unfold less
  rw [Nat.testBit_xor, Nat.testBit_and]
  cases a.testBit i <;> cases b.testBit i <;> rfl
theorem pow2_bit (v i : Nat) : (pow2 v).testBit i = decide (v = i) := by
  unfold pow2
  rw [Nat.testBit_two_pow]
theorem shr_bit (a v i : Nat) : (shr a v).testBit i = a.testBit (v + i) := Nat.testBit_shiftRight a

theorem land_few {a b : Nat} (h : Few a) : Few (land a b) := Nat.lt_of_le_of_lt Nat.and_le_left h
theorem less_few {a b : Nat} (h : Few a) : Few (less a b) := by
  rw [Few, few_two]
  refine few_of_bit fun i hi => few_bit h ?_
  rw [less_bit] at hi
  cases e : a.testBit i
  · rw [e] at hi; cases hi
  · rfl
theorem lor_few {a b : Nat} (h : Few a) (k : Few b) : Few (lor a b) := by
  rw [Few, few_two]
  refine few_of_bit fun i hi => ?_
  rw [lor_bit] at hi
  cases e : a.testBit i
  · rw [e] at hi; exact few_bit k (by simpa using hi)
  · exact few_bit h e
theorem pow2_few {v : Nat} (h : v < 62) : Few (pow2 v) := by
  rw [Few, few_two]; exact Nat.pow_lt_pow_right (by decide) h
theorem shr_few {a v : Nat} (h : Few a) : Few (shr a v) := Nat.lt_of_le_of_lt (Nat.shiftRight_le a v) h

/-! What the walk meets. -/
theorem wrap_nat {n : Nat} (h : n < 9223372036854775808) : IntKind.i64.wrap (n : Int) = (n : Int) := by
  simp [IntKind.wrap, IntKind.bits, IntKind.signed]; omega
theorem ofInt_nat {a : Nat} (h : a < 18446744073709551616) : (BitVec.ofInt 64 (a : Int)).toNat = a := by
  rw [BitVec.toNat_ofInt]; omega
theorem op_and {a b : Nat} (ha : Few a) (hb : Few b) : bits .and .i64 (a : Int) (b : Int) = (land a b : Int) := by
  have h := land_few (b := b) ha
  unfold bits
  show IntKind.i64.wrap (((BitVec.ofInt 64 (a : Int)) &&& (BitVec.ofInt 64 (b : Int))).toNat : Int) = _
  rw [BitVec.toNat_and, ofInt_nat (by omega), ofInt_nat (by omega)]
  exact wrap_nat (by unfold land at h; omega)
theorem op_or {a b : Nat} (ha : Few a) (hb : Few b) : bits .or .i64 (a : Int) (b : Int) = (lor a b : Int) := by
  have h := lor_few ha hb
  unfold bits
  show IntKind.i64.wrap (((BitVec.ofInt 64 (a : Int)) ||| (BitVec.ofInt 64 (b : Int))).toNat : Int) = _
  rw [BitVec.toNat_or, ofInt_nat (by omega), ofInt_nat (by omega)]
  exact wrap_nat (by unfold lor at h; omega)
theorem op_andNot {a b : Nat} (ha : Few a) (hb : Few b) : bits .andNot .i64 (a : Int) (b : Int) = (less a b : Int) := by
  have h := less_few (b := b) ha
  unfold bits
  show IntKind.i64.wrap (((BitVec.ofInt 64 (a : Int)) &&& ~~~(BitVec.ofInt 64 (b : Int))).toNat : Int) = _
  have e : ((BitVec.ofInt 64 (a : Int)) &&& ~~~(BitVec.ofInt 64 (b : Int))).toNat = less a b := by
    refine Nat.eq_of_testBit_eq fun i => ?_
    rw [less_bit, BitVec.testBit_toNat, BitVec.getLsbD_and, BitVec.getLsbD_not, ← BitVec.testBit_toNat, ← BitVec.testBit_toNat, ofInt_nat (by omega), ofInt_nat (by omega)]
    by_cases hi : i < 64
    · simp [hi]
    · have : a.testBit i = false := by
        cases e : a.testBit i
        · rfl
        · have := few_bit ha e; omega
      simp [this]
  rw [e]
  exact wrap_nat (by omega)
/-- As the walk leaves '1 << v' and 'a >> v'. -/
theorem op_shl {v : Nat} (hv : v < 62) : IntKind.i64.wrap ((2 : Int) ^ v) = (pow2 v : Int) := by
  have := pow2_few hv
  have e : (2 : Int) ^ v = ((pow2 v : Nat) : Int) := by unfold pow2; simp
  rw [e]
  exact wrap_nat (by omega)
theorem op_shr (a v : Nat) : (a : Int) / 2 ^ v = (shr a v : Int) := by
  unfold shr
  rw [Nat.shiftRight_eq_div_pow]
  simp
theorem op_bit {a v : Nat} (ha : Few a) : bits .and .i64 (shr a v : Int) 1 = (bit a v : Int) := by
  have h := op_and (shr_few (v := v) ha) (show Few 1 by decide)
  rw [show ((1 : Nat) : Int) = 1 from rfl] at h
  rw [h]
  congr 1
  unfold land shr bit
  rw [Nat.and_one_is_mod, Nat.testBit_eq_decide_div_mod_eq, Nat.shiftRight_eq_div_pow]
  rcases Nat.mod_two_eq_zero_or_one (a / 2 ^ v) with e | e <;> simp [e]
theorem bit_one {a v : Nat} (h : a.testBit v = true) : bit a v = 1 := by unfold bit; rw [if_pos h]
theorem bit_zero {a v : Nat} (h : a.testBit v = false) : bit a v = 0 := by unfold bit; rw [if_neg (by rw [h]; exact Bool.false_ne_true)]

end Go.Proofs.Ytmhcnekbfngafaa
