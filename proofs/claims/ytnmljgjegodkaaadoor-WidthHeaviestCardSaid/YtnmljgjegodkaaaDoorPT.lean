/- How many bits a number below 2^24 has, as sums of fields of bits tell it. No program in sight. math/bits.OnesCount at this program, of a number below 2^24: how many bits it has. -/
import Derived.Test.YtnmljgjegodkaaaDoorPB
import Derived.Test.YtnmljgjegodkaaaDoorBase
namespace Go.Proofs.YtnmljgjegodkaaaDoor
open Go Go.RowKit

theorem byte_bit {a : Nat} (ha : a < 256) (b i : Nat) : (a + 256 * b).testBit i = if i < 8 then a.testBit i else b.testBit (i - 8) := by
  rw [Nat.add_comm, show (256 : Nat) = 2 ^ 8 from rfl, Nat.testBit_two_pow_mul_add b (show a < 2 ^ 8 from ha) i]
theorem land_byte {a m : Nat} (ha : a < 256) (hm : m < 256) (b k : Nat) : land (a + 256 * b) (m + 256 * k) = land a m + 256 * land b k := by
  have hl : land a m < 256 := Nat.lt_of_le_of_lt Nat.and_le_left ha
  refine Nat.eq_of_testBit_eq fun i => ?_
  rw [land_bit, byte_bit ha, byte_bit hm, byte_bit hl]
  by_cases h : i < 8
  · rw [if_pos h, if_pos h, if_pos h, land_bit]
  · rw [if_neg h, if_neg h, if_neg h, land_bit]
theorem land_three {a b c m : Nat} (ha : a < 256) (hb : b < 256) (hc : c < 256) (hm : m < 256) (k : Nat) :
    land (a + 256 * (b + 256 * c)) (m + 256 * (m + 256 * (m + 256 * k))) = land a m + 256 * (land b m + 256 * land c m) := by
  rw [land_byte ha hm, land_byte hb hm]
  have := land_byte hc hm 0 k
  simp only [Nat.mul_zero, Nat.add_zero] at this
  rw [this, show land 0 k = 0 from Nat.zero_and k]; omega

def pA (a : Nat) : Nat := land (a / 2) 0x55 + land a 0x55
def pB (a : Nat) : Nat := land (pA a / 4) 0x33 + land (pA a) 0x33
set_option maxRecDepth 100000 in
theorem pA_byte : ∀ a, a < 256 → pA a < 256 ∧ (∀ t, t < 2 → land (a / 2 + 128 * t) 0x55 = land (a / 2) 0x55) := by decide +kernel
set_option maxRecDepth 100000 in
theorem pB_byte : ∀ a, a < 256 → pB a / 16 ≤ 4 ∧ pB a % 16 ≤ 4 ∧ pB a < 256 ∧ pB a / 16 + pB a % 16 = card 8 a ∧ (∀ t, t < 4 → land (pA a / 4 + 64 * t) 0x33 = land (pA a / 4) 0x33) := by decide +kernel
set_option maxRecDepth 100000 in
theorem land15 : ∀ a, a < 256 → land a 15 = a % 16 := by decide +kernel

theorem card_byte {a : Nat} (ha : a < 256) (b : Nat) : ∀ n, card (8 + n) (a + 256 * b) = card 8 a + card n b := by
  have hb : ∀ i, i < 8 → (a + 256 * b).testBit i = a.testBit i := fun i hi => by rw [byte_bit ha, if_pos hi]
  have hb2 : ∀ i, (a + 256 * b).testBit (8 + i) = b.testBit i := fun i => by rw [byte_bit ha, if_neg (by omega), Nat.add_sub_cancel_left]
  have h8 : ∀ n, n ≤ 8 → card n (a + 256 * b) = card n a := fun n hn => by
    induction n with
    | zero => rfl
    | succ n ih => rw [card, card, ih (by omega), hb n (by omega)]
  intro n
  induction n with
  | zero => rw [Nat.add_zero, h8 8 (Nat.le_refl _), card, Nat.add_zero]
  | succ n ih => rw [← Nat.add_assoc, card, ih, card.eq_2 b n, hb2, Nat.add_assoc]
theorem card_three {a b c : Nat} (ha : a < 256) (hb : b < 256) (hc : c < 256) : card 24 (a + 256 * (b + 256 * c)) = card 8 a + card 8 b + card 8 c := by
  rw [show (24 : Nat) = 8 + 16 from rfl, card_byte ha, show (16 : Nat) = 8 + 8 from rfl, card_byte hb]; omega
theorem three {x : Nat} (h : x < 16777216) : ∃ a b c, a < 256 ∧ b < 256 ∧ c < 256 ∧ x = a + 256 * (b + 256 * c) := ⟨x % 256, x / 256 % 256, x / 65536, by omega, by omega, by omega, by omega⟩

def mA : Nat := 6148914691236517205
def mB : Nat := 3689348814741910323
def mC : Nat := 1085102592571150095
def popA (x : Nat) : Nat := land (x / 2) mA + land x mA
def popB (x : Nat) : Nat := land (x / 4) mB + land x mB
def popC (x : Nat) : Nat := land (x / 16 + x) mC

theorem popA_three {a b c : Nat} (ha : a < 256) (hb : b < 256) (hc : c < 256) : popA (a + 256 * (b + 256 * c)) = pA a + 256 * (pA b + 256 * pA c) := by
  obtain ⟨-, fa⟩ := pA_byte a ha
  obtain ⟨-, fb⟩ := pA_byte b hb
  have e : (a + 256 * (b + 256 * c)) / 2 = (a / 2 + 128 * (b % 2)) + 256 * ((b / 2 + 128 * (c % 2)) + 256 * (c / 2)) := by omega
  unfold popA
  rw [e, show mA = 0x55 + 256 * (0x55 + 256 * (0x55 + 256 * 366503875925)) from rfl]
  rw [land_three (by omega) (by omega) (by omega) (by omega), land_three ha hb hc (by omega), fa _ (by omega), fb _ (by omega)]
  unfold pA; omega
theorem popB_three {a b c : Nat} (ha : a < 256) (hb : b < 256) (hc : c < 256) : popB (pA a + 256 * (pA b + 256 * pA c)) = pB a + 256 * (pB b + 256 * pB c) := by
  obtain ⟨-, -, -, -, fa⟩ := pB_byte a ha
  obtain ⟨-, -, -, -, fb⟩ := pB_byte b hb
  have qa := (pA_byte a ha).1
  have qb := (pA_byte b hb).1
  have qc := (pA_byte c hc).1
  have e : (pA a + 256 * (pA b + 256 * pA c)) / 4 = (pA a / 4 + 64 * (pA b % 4)) + 256 * ((pA b / 4 + 64 * (pA c % 4)) + 256 * (pA c / 4)) := by omega
  unfold popB
  rw [e, show mB = 0x33 + 256 * (0x33 + 256 * (0x33 + 256 * 219902325555)) from rfl]
  rw [land_three (by omega) (by omega) (by omega) (by omega), land_three qa qb qc (by omega), fa _ (by omega), fb _ (by omega)]
  unfold pB; omega
theorem popC_three {a b c : Nat} (ha : a < 256) (hb : b < 256) (hc : c < 256) : popC (pB a + 256 * (pB b + 256 * pB c)) = card 8 a + 256 * (card 8 b + 256 * card 8 c) := by
  obtain ⟨a1, a2, a3, a4, -⟩ := pB_byte a ha
  obtain ⟨b1, b2, b3, b4, -⟩ := pB_byte b hb
  obtain ⟨c1, c2, c3, c4, -⟩ := pB_byte c hc
  generalize pB a = A at *
  generalize pB b = B at *
  generalize pB c = C at *
  generalize card 8 a = ka at *
  generalize card 8 b = kb at *
  generalize card 8 c = kc at *
  have e : (A + 256 * (B + 256 * C)) / 16 + (A + 256 * (B + 256 * C)) = (A / 16 + 16 * (B % 16) + A) + 256 * ((B / 16 + 16 * (C % 16) + B) + 256 * (C / 16 + C)) := by omega
  unfold popC
  rw [e, show mC = 15 + 256 * (15 + 256 * (15 + 256 * 64677154575)) from rfl]
  rw [land_three (by omega) (by omega) (by omega) (by omega), land15 _ (by omega), land15 _ (by omega), land15 _ (by omega)]
  have e1 : (A / 16 + 16 * (B % 16) + A) % 16 = ka := by clear e; omega
  have e2 : (B / 16 + 16 * (C % 16) + B) % 16 = kb := by clear e; omega
  have e3 : (C / 16 + C) % 16 = kc := by clear e; omega
  rw [e1, e2, e3]

/-- What bits.OnesCount64 reckons. -/
def popD (x : Nat) : Nat := x + x / 256
def popE (x : Nat) : Nat := x + x / 65536
def popF (x : Nat) : Nat := x + x / 4294967296
theorem pop_bounds {x : Nat} (h : x < 16777216) : popA x < 16777216 ∧ popB (popA x) < 16777216 ∧ popC (popB (popA x)) < 16777216 ∧ popD (popC (popB (popA x))) < 33554432 ∧ popE (popD (popC (popB (popA x)))) < 67108864 ∧ popF (popE (popD (popC (popB (popA x))))) < 134217728 ∧
    popF (popE (popD (popC (popB (popA x))))) % 128 = card 24 x := by
  obtain ⟨a, b, c, ha, hb, hc, rfl⟩ := three h
  rw [popA_three ha hb hc, popB_three ha hb hc, popC_three ha hb hc, card_three ha hb hc]
  have qa := (pA_byte a ha).1
  have qb := (pA_byte b hb).1
  have qc := (pA_byte c hc).1
  have ra := (pB_byte a ha).2.2.1
  have rb := (pB_byte b hb).2.2.1
  have rc := (pB_byte c hc).2.2.1
  have ka := card_le 8 a
  have kb := card_le 8 b
  have kc := card_le 8 c
  generalize card 8 a = A at *
  generalize card 8 b = B at *
  generalize card 8 c = C at *
  have e1 : popD (A + 256 * (B + 256 * C)) = A + B + 256 * (B + C + 256 * C) := by unfold popD; omega
  have e2 : popE (A + B + 256 * (B + C + 256 * C)) = A + B + C + 256 * (B + C + 256 * C) := by unfold popE; omega
  have e3 : popF (A + B + C + 256 * (B + C + 256 * C)) = A + B + C + 256 * (B + C + 256 * C) := by unfold popF; omega
  rw [e1, e2, e3]
  refine ⟨by omega, by omega, by omega, by omega, by omega, by omega, by omega⟩

end Go.Proofs.YtnmljgjegodkaaaDoor
namespace Go.Proofs.YtnmljgjegodkaaaDoor
open Go Go.RowKit

theorem op_and64 {a b : Nat} (ha : a < 18446744073709551616) (hb : b < 18446744073709551616) : bits .and .u64 (a : Int) (b : Int) = (land a b : Int) := by
  have h : land a b ≤ a := Nat.and_le_left
  unfold bits
  show IntKind.u64.wrap (((BitVec.ofInt 64 (a : Int)) &&& (BitVec.ofInt 64 (b : Int))).toNat : Int) = _
  rw [BitVec.toNat_and, ofInt_nat ha, ofInt_nat hb, IntKind.wrap_u64]
  unfold land at *
  omega
theorem stage_two {x d m r : Nat} (hx : x < 18446744073709551616) (hm : m < 18446744073709551616) (e : land (x / d) m + land x m = r) (hr : r < 18446744073709551616) :
    IntKind.u64.wrap (bits BinOp.and IntKind.u64 ((x : Int) / (d : Int)) (m : Int) + bits BinOp.and IntKind.u64 (x : Int) (m : Int)) = (r : Int) := by
  have h := Nat.div_le_self x d
  rw [← Int.natCast_ediv, op_and64 (by omega) hm, op_and64 hx hm, IntKind.wrap_u64]
  omega
theorem stage_c {x r : Nat} (hx : x < 16777216) (e : popC x = r) : bits BinOp.and IntKind.u64 (IntKind.u64.wrap ((x : Int) / 16 + (x : Int))) 1085102592571150095 = (r : Int) := by
  have h : IntKind.u64.wrap ((x : Int) / 16 + (x : Int)) = ((x / 16 + x : Nat) : Int) := by rw [IntKind.wrap_u64]; omega
  rw [h, ← e]
  exact op_and64 (b := mC) (by omega) (by decide)
theorem stage_d {x r d : Nat} (hx : x < 67108864) (e : x + x / d = r) : IntKind.u64.wrap ((x : Int) + (x : Int) / (d : Int)) = (r : Int) := by
  have h := Nat.div_le_self x d
  rw [← Int.natCast_ediv, IntKind.wrap_u64]; omega
theorem land127 (x : Nat) : land x 127 = x % 128 := Nat.and_two_pow_sub_one_eq_mod x 7
theorem stage_g {x r : Nat} (hx : x < 134217728) (e : x % 128 = r) : bits BinOp.and IntKind.i64 (wrap64 (x : Int)) 127 = (r : Int) := by
  rw [show wrap64 (x : Int) = (x : Int) by unfold wrap64; omega, ← e, ← land127]
  exact op_and (b := 127) (by unfold Few; omega) (by decide)

set_option maxHeartbeats 1000000 in
theorem pop64_any (x : Nat) (hx : x < 16777216) (w : World) :
    Calls Tryd.prog 61 #[.int .u64 (x : Int)] w fun e w' => e = .returned (.int .i64 (card 24 x : Nat)) ∧ w' = w := by
  obtain ⟨b1, b2, b3, b4, b5, b6, b7⟩ := pop_bounds hx
  generalize card 24 x = R at *
  obtain ⟨y1, h1⟩ : ∃ y, popA x = y := ⟨_, rfl⟩
  rw [h1] at b1 b2 b3 b4 b5 b6 b7
  obtain ⟨y2, h2⟩ : ∃ y, popB y1 = y := ⟨_, rfl⟩
  rw [h2] at b2 b3 b4 b5 b6 b7
  obtain ⟨y3, h3⟩ : ∃ y, popC y2 = y := ⟨_, rfl⟩
  rw [h3] at b3 b4 b5 b6 b7
  obtain ⟨y4, h4⟩ : ∃ y, popD y3 = y := ⟨_, rfl⟩
  rw [h4] at b4 b5 b6 b7
  obtain ⟨y5, h5⟩ : ∃ y, popE y4 = y := ⟨_, rfl⟩
  rw [h5] at b5 b6 b7
  obtain ⟨y6, h6⟩ : ∃ y, popF y5 = y := ⟨_, rfl⟩
  rw [h6] at b6 b7
  have k1 := stage_two (x := x) (d := 2) (m := mA) (by omega) (by decide) h1 (by omega)
  have k2 := stage_two (x := y1) (d := 4) (m := mB) (by omega) (by decide) h2 (by omega)
  have k3 := stage_c (x := y2) (by omega) h3
  have k4 := stage_d (x := y3) (d := 256) (by omega) h4
  have k5 := stage_d (x := y4) (d := 65536) (by omega) h5
  have k6 := stage_d (x := y5) (d := 4294967296) (by omega) h6
  have k7 := stage_g b6 b7
  rw [show ((2 : Nat) : Int) = 2 from rfl, show ((mA : Nat) : Int) = 6148914691236517205 from rfl] at k1
  rw [show ((4 : Nat) : Int) = 4 from rfl, show ((mB : Nat) : Int) = 3689348814741910323 from rfl] at k2
  rw [show ((256 : Nat) : Int) = 256 from rfl] at k4
  rw [show ((65536 : Nat) : Int) = 65536 from rfl] at k5
  rw [show ((4294967296 : Nat) : Int) = 4294967296 from rfl] at k6
  clear b1 b2 b3 b4 b5 b6 b7 h1 h2 h3 h4 h5 h6
  go_enter Tryd.func61, Tryd.ntmps61
  go_wp2_with fail
  go_ret
  exact ⟨rfl, rfl⟩

set_option maxHeartbeats 1000000 in
theorem pop_any (x : Nat) (hx : x < 16777216) (w : World) :
    Calls Tryd.prog 49 #[.int .u64 (x : Int)] w fun e w' => e = .returned (.int .i64 (card 24 x : Nat)) ∧ w' = w := by
  have hw : IntKind.u64.wrap (x : Int) = (x : Int) := by rw [IntKind.wrap_u64]; omega
  go_enter Tryd.func49, Tryd.ntmps49
  go_wp2_with (go_at_call 61; refine (pop64_any x hx _).mono ?_; rintro e w' ⟨rfl, hw'⟩; rw [hw'])
  go_ret
  exact ⟨rfl, rfl⟩

end Go.Proofs.YtnmljgjegodkaaaDoor
