/- How many bits a number below 2^24 has, as sums of fields of bits tell it. No program in sight. -/
import Derived.Test.YtnmljgjegodkaaaDoorPB
namespace Go.Proofs.YtnmljgjegodkaaaDoor
open Go Go.RowKit

theorem byte_bit {a : Nat} (ha : a < 256) (b i : Nat) : (a + 256 * b).testBit i = if i < 8 then a.testBit i else b.testBit (i - 8) := by
  rw [Nat.add_comm, show (256 : Nat) = 2 ^ 8 from rfl, Nat.testBit_two_pow_mul_add b (show a < 2 ^ 8 from ha) i]
theorem land_byte {a m : Nat} (ha : a < 256) (hm : m < 256) (b k : Nat) : land (a + 256 * b) (m + 256 * k) = land a m + 256 * land b k := by
  have hl : land a m < 256 := Nat.lt_of_le_of_lt Nat.and_le_left ha
  refine Nat.eq_of_testBit_eq fun i => ?_
  rw [land_bit, byte_bit ha, byte_bit hm, byte_bit hl]
  by_cases h : i < 8
  · rw [if_pos h, if_pos h, if_pos h, land_bit]
  · rw [if_neg h, if_neg h, if_neg h, land_bit]
theorem land_three {a b c m : Nat} (ha : a < 256) (hb : b < 256) (hc : c < 256) (hm : m < 256) (k : Nat) :
    land (a + 256 * (b + 256 * c)) (m + 256 * (m + 256 * (m + 256 * k))) = land a m + 256 * (land b m + 256 * land c m) := by
  rw [land_byte ha hm, land_byte hb hm]
  have := land_byte hc hm 0 k
  simp only [Nat.mul_zero, Nat.add_zero] at this
  rw [this, show land 0 k = 0 from Nat.zero_and k]; omega

def pA (a : Nat) : Nat := land (a / 2) 0x55 + land a 0x55
def pB (a : Nat) : Nat := land (pA a / 4) 0x33 + land (pA a) 0x33
set_option maxRecDepth 100000 in
theorem pA_byte : ∀ a, a < 256 → pA a < 256 ∧ (∀ t, t < 2 → land (a / 2 + 128 * t) 0x55 = land (a / 2) 0x55) := by decide +kernel
set_option maxRecDepth 100000 in
theorem pB_byte : ∀ a, a < 256 → pB a / 16 ≤ 4 ∧ pB a % 16 ≤ 4 ∧ pB a < 256 ∧ pB a / 16 + pB a % 16 = card 8 a ∧ (∀ t, t < 4 → land (pA a / 4 + 64 * t) 0x33 = land (pA a / 4) 0x33) := by decide +kernel
set_option maxRecDepth 100000 in
theorem land15 : ∀ a, a < 256 → land a 15 = a % 16 := by decide +kernel

theorem card_byte {a : Nat} (ha : a < 256) (b : Nat) : ∀ n, card (8 + n) (a + 256 * b) = card 8 a + card n b := by
  have hb : ∀ i, i < 8 → (a + 256 * b).testBit i = a.testBit i := fun i hi => by rw [byte_bit ha, if_pos hi]
  have hb2 : ∀ i, (a + 256 * b).testBit (8 + i) = b.testBit i := fun i => by rw [byte_bit ha, if_neg (by omega), Nat.add_sub_cancel_left]
  have h8 : ∀ n, n ≤ 8 → card n (a + 256 * b) = card n a := fun n hn => by
    induction n with
    | zero => rfl
    | succ n ih => rw [card, card, ih (by omega), hb n (by omega)]
  intro n
  induction n with
  | zero => rw [Nat.add_zero, h8 8 (Nat.le_refl _), card, Nat.add_zero]
  | succ n ih => rw [← Nat.add_assoc, card, ih, card.eq_2 b n, hb2, Nat.add_assoc]
theorem card_three {a b c : Nat} (ha : a < 256) (hb : b < 256) (hc : c < 256) : card 24 (a + 256 * (b + 256 * c)) = card 8 a + card 8 b + card 8 c := by
  rw [show (24 : Nat) = 8 + 16 from rfl, card_byte ha, show (16 : Nat) = 8 + 8 from rfl, card_byte hb]; omega
theorem three {x : Nat} (h : x < 16777216) : ∃ a b c, a < 256 ∧ b < 256 ∧ c < 256 ∧ x = a + 256 * (b + 256 * c) := ⟨x % 256, x / 256 % 256, x / 65536, by omega, by omega, by omega, by omega⟩

def mA : Nat := 6148914691236517205
def mB : Nat := 3689348814741910323
def mC : Nat := 1085102592571150095
def popA (x : Nat) : Nat := land (x / 2) mA + land x mA
def popB (x : Nat) : Nat := land (x / 4) mB + land x mB
def popC (x : Nat) : Nat := land (x / 16 + x) mC

theorem popA_three {a b c : Nat} (ha : a < 256) (hb : b < 256) (hc : c < 256) : popA (a + 256 * (b + 256 * c)) = pA a + 256 * (pA b + 256 * pA c) := by
  obtain ⟨-, fa⟩ := pA_byte a ha
  obtain ⟨-, fb⟩ := pA_byte b hb
  have e : (a + 256 * (b + 256 * c)) / 2 = (a / 2 + 128 * (b % 2)) + 256 * ((b / 2 + 128 * (c % 2)) + 256 * (c / 2)) := by omega
  unfold popA
  rw [e, show mA = 0x55 + 256 * (0x55 + 256 * (0x55 + 256 * 366503875925)) from rfl]
  rw [land_three (by omega) (by omega) (by omega) (by omega), land_three ha hb hc (by omega), fa _ (by omega), fb _ (by omega)]
  unfold pA; omega
theorem popB_three {a b c : Nat} (ha : a < 256) (hb : b < 256) (hc : c < 256) : popB (pA a + 256 * (pA b + 256 * pA c)) = pB a + 256 * (pB b + 256 * pB c) := by
  obtain ⟨-, -, -, -, fa⟩ := pB_byte a ha
  obtain ⟨-, -, -, -, fb⟩ := pB_byte b hb
  have qa := (pA_byte a ha).1
  have qb := (pA_byte b hb).1
  have qc := (pA_byte c hc).1
  have e : (pA a + 256 * (pA b + 256 * pA c)) / 4 = (pA a / 4 + 64 * (pA b % 4)) + 256 * ((pA b / 4 + 64 * (pA c % 4)) + 256 * (pA c / 4)) := by omega
  unfold popB
  rw [e, show mB = 0x33 + 256 * (0x33 + 256 * (0x33 + 256 * 219902325555)) from rfl]
  rw [land_three (by omega) (by omega) (by omega) (by omega), land_three qa qb qc (by omega), fa _ (by omega), fb _ (by omega)]
  unfold pB; omega
theorem popC_three {a b c : Nat} (ha : a < 256) (hb : b < 256) (hc : c < 256) : popC (pB a + 256 * (pB b + 256 * pB c)) = card 8 a + 256 * (card 8 b + 256 * card 8 c) := by
  obtain ⟨a1, a2, a3, a4, -⟩ := pB_byte a ha
  obtain ⟨b1, b2, b3, b4, -⟩ := pB_byte b hb
  obtain ⟨c1, c2, c3, c4, -⟩ := pB_byte c hc
  generalize pB a = A at *
  generalize pB b = B at *
  generalize pB c = C at *
  generalize card 8 a = ka at *
  generalize card 8 b = kb at *
  generalize card 8 c = kc at *
  have e : (A + 256 * (B + 256 * C)) / 16 + (A + 256 * (B + 256 * C)) = (A / 16 + 16 * (B % 16) + A) + 256 * ((B / 16 + 16 * (C % 16) + B) + 256 * (C / 16 + C)) := by omega
  unfold popC
  rw [e, show mC = 15 + 256 * (15 + 256 * (15 + 256 * 64677154575)) from rfl]
  rw [land_three (by omega) (by omega) (by omega) (by omega), land15 _ (by omega), land15 _ (by omega), land15 _ (by omega)]
  have e1 : (A / 16 + 16 * (B % 16) + A) % 16 = ka := by clear e; omega
  have e2 : (B / 16 + 16 * (C % 16) + B) % 16 = kb := by clear e; omega
  have e3 : (C / 16 + C) % 16 = kc := by clear e; omega
  rw [e1, e2, e3]

/-- What bits.OnesCount64 reckons. -/
def popD (x : Nat) : Nat := x + x / 256
def popE (x : Nat) : Nat := x + x / 65536
def popF (x : Nat) : Nat := x + x / 4294967296
theorem pop_bounds {x : Nat} (h : x < 16777216) : popA x < 16777216 ∧ popB (popA x) < 16777216 ∧ popC (popB (popA x)) < 16777216 ∧ popD (popC (popB (popA x))) < 33554432 ∧ popE (popD (popC (popB (popA x)))) < 67108864 ∧ popF (popE (popD (popC (popB (popA x))))) < 134217728 ∧
    popF (popE (popD (popC (popB (popA x))))) % 128 = card 24 x := by
  obtain ⟨a, b, c, ha, hb, hc, rfl⟩ := three h
  rw [popA_three ha hb hc, popB_three ha hb hc, popC_three ha hb hc, card_three ha hb hc]
  have qa := (pA_byte a ha).1
  have qb := (pA_byte b hb).1
  have qc := (pA_byte c hc).1
  have ra := (pB_byte a ha).2.2.1
  have rb := (pB_byte b hb).2.2.1
  have rc := (pB_byte c hc).2.2.1
  have ka := card_le 8 a
  have kb := card_le 8 b
  have kc := card_le 8 c
  generalize card 8 a = A at *
  generalize card 8 b = B at *
  generalize card 8 c = C at *
  have e1 : popD (A + 256 * (B + 256 * C)) = A + B + 256 * (B + C + 256 * C) := by unfold popD; omega
  have e2 : popE (A + B + 256 * (B + C + 256 * C)) = A + B + C + 256 * (B + C + 256 * C) := by unfold popE; omega
  have e3 : popF (A + B + C + 256 * (B + C + 256 * C)) = A + B + C + 256 * (B + C + 256 * C) := by unfold popF; omega
  rw [e1, e2, e3]
  refine ⟨by omega, by omega, by omega, by omega, by omega, by omega, by omega⟩

end Go.Proofs.YtnmljgjegodkaaaDoor
