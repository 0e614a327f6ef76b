/- math/bits.OnesCount at this program, of a number below 2^24: how many bits it has. -/
import Derived.Test.YtnmljgjegodkaaaDoorBase
import Derived.Test.YtnmljgjegodkaaaDoorPop
namespace Go.Proofs.YtnmljgjegodkaaaDoor
open Go Go.RowKit

theorem op_and64 {a b : Nat} (ha : a < 18446744073709551616) (hb : b < 18446744073709551616) : bits .and .u64 (a : Int) (b : Int) = (land a b : Int) := by
  have h : land a b ≤ a := Nat.and_le_left
  unfold bits
  show IntKind.u64.wrap (((BitVec.ofInt 64 (a : Int)) &&& (BitVec.ofInt 64 (b : Int))).toNat : Int) = _
  rw [BitVec.toNat_and, ofInt_nat ha, ofInt_nat hb, IntKind.wrap_u64]
  unfold land at *
  omega
theorem stage_two {x d m r : Nat} (hx : x < 18446744073709551616) (hm : m < 18446744073709551616) (e : land (x / d) m + land x m = r) (hr : r < 18446744073709551616) :
    IntKind.u64.wrap (bits BinOp.and IntKind.u64 ((x : Int) / (d : Int)) (m : Int) + bits BinOp.and IntKind.u64 (x : Int) (m : Int)) = (r : Int) := by
  have h := Nat.div_le_self x d
  rw [← Int.natCast_ediv, op_and64 (by omega) hm, op_and64 hx hm, IntKind.wrap_u64]
  omega
theorem stage_c {x r : Nat} (hx : x < 16777216) (e : popC x = r) : bits BinOp.and IntKind.u64 (IntKind.u64.wrap ((x : Int) / 16 + (x : Int))) 1085102592571150095 = (r : Int) := by
  have h : IntKind.u64.wrap ((x : Int) / 16 + (x : Int)) = ((x / 16 + x : Nat) : Int) := by rw [IntKind.wrap_u64]; omega
  rw [h, ← e]
  exact op_and64 (b := mC) (by omega) (by decide)
theorem stage_d {x r d : Nat} (hx : x < 67108864) (e : x + x / d = r) : IntKind.u64.wrap ((x : Int) + (x : Int) / (d : Int)) = (r : Int) := by
  have h := Nat.div_le_self x d
  rw [← Int.natCast_ediv, IntKind.wrap_u64]; omega
theorem land127 (x : Nat) : land x 127 = x % 128 := Nat.and_two_pow_sub_one_eq_mod x 7
theorem stage_g {x r : Nat} (hx : x < 134217728) (e : x % 128 = r) : bits BinOp.and IntKind.i64 (wrap64 (x : Int)) 127 = (r : Int) := by
  rw [show wrap64 (x : Int) = (x : Int) by unfold wrap64; omega, ← e, ← land127]
  exact op_and (b := 127) (by unfold Few; omega) (by decide)

set_option maxHeartbeats 1000000 in
theorem pop64_any (x : Nat) (hx : x < 16777216) (w : World) :
    Calls Tryd.prog 61 #[.int .u64 (x : Int)] w fun e w' => e = .returned (.int .i64 (card 24 x : Nat)) ∧ w' = w := by
  obtain ⟨b1, b2, b3, b4, b5, b6, b7⟩ := pop_bounds hx
  generalize card 24 x = R at *
  obtain ⟨y1, h1⟩ : ∃ y, popA x = y := ⟨_, rfl⟩
  rw [h1] at b1 b2 b3 b4 b5 b6 b7
  obtain ⟨y2, h2⟩ : ∃ y, popB y1 = y := ⟨_, rfl⟩
  rw [h2] at b2 b3 b4 b5 b6 b7
  obtain ⟨y3, h3⟩ : ∃ y, popC y2 = y := ⟨_, rfl⟩
  rw [h3] at b3 b4 b5 b6 b7
  obtain ⟨y4, h4⟩ : ∃ y, popD y3 = y := ⟨_, rfl⟩
  rw [h4] at b4 b5 b6 b7
  obtain ⟨y5, h5⟩ : ∃ y, popE y4 = y := ⟨_, rfl⟩
  rw [h5] at b5 b6 b7
  obtain ⟨y6, h6⟩ : ∃ y, popF y5 = y := ⟨_, rfl⟩
  rw [h6] at b6 b7
  have k1 := stage_two (x := x) (d := 2) (m := mA) (by omega) (by decide) h1 (by omega)
  have k2 := stage_two (x := y1) (d := 4) (m := mB) (by omega) (by decide) h2 (by omega)
  have k3 := stage_c (x := y2) (by omega) h3
  have k4 := stage_d (x := y3) (d := 256) (by omega) h4
  have k5 := stage_d (x := y4) (d := 65536) (by omega) h5
  have k6 := stage_d (x := y5) (d := 4294967296) (by omega) h6
  have k7 := stage_g b6 b7
  rw [show ((2 : Nat) : Int) = 2 from rfl, show ((mA : Nat) : Int) = 6148914691236517205 from rfl] at k1
  rw [show ((4 : Nat) : Int) = 4 from rfl, show ((mB : Nat) : Int) = 3689348814741910323 from rfl] at k2
  rw [show ((256 : Nat) : Int) = 256 from rfl] at k4
  rw [show ((65536 : Nat) : Int) = 65536 from rfl] at k5
  rw [show ((4294967296 : Nat) : Int) = 4294967296 from rfl] at k6
  clear b1 b2 b3 b4 b5 b6 b7 h1 h2 h3 h4 h5 h6
  go_enter Tryd.func61, Tryd.ntmps61
  go_wp2_with fail
  go_ret
  exact ⟨rfl, rfl⟩

set_option maxHeartbeats 1000000 in
theorem pop_any (x : Nat) (hx : x < 16777216) (w : World) :
    Calls Tryd.prog 49 #[.int .u64 (x : Int)] w fun e w' => e = .returned (.int .i64 (card 24 x : Nat)) ∧ w' = w := by
  have hw : IntKind.u64.wrap (x : Int) = (x : Int) := by rw [IntKind.wrap_u64]; omega
  go_enter Tryd.func49, Tryd.ntmps49
  go_wp2_with (go_at_call 61; refine (pop64_any x hx _).mono ?_; rintro e w' ⟨rfl, hw'⟩; rw [hw'])
  go_ret
  exact ⟨rfl, rfl⟩

end Go.Proofs.YtnmljgjegodkaaaDoor
