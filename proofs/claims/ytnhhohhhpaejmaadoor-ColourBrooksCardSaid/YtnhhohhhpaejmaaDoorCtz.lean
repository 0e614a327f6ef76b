/- math/bits.TrailingZeros at this program, and what it tells: the lowest bit. -/
import Derived.Test.YtnhhohhhpaejmaaDoorBase0
import Derived.Test.YtnhhohhhpaejmaaDoorPM
import Derived.Shelf.Spec.TrailingZeros
namespace Go.Proofs.YtnhhohhhpaejmaaDoor
open Go Go.RowKit

/-- The lowest node of a set, and the set without it. -/
theorem ctz_low {s : Nat} (h0 : s ≠ 0) (hs : Few s) : s.testBit (Lib.ctz 64 s) = true ∧ ∀ i, (land s (s - 1)).testBit i = (s.testBit i && decide (i ≠ Lib.ctz 64 s)) := by
  have e : Lib.ctz 64 s = Lib.ctzFrom 64 s := by simp [Lib.ctz, h0]
  rw [e]
  have hs2 : s < 2 ^ 64 := Nat.lt_trans hs (by decide)
  obtain ⟨m, hm, -⟩ := Lib.ctzFrom_spec 64 s (by omega) hs2
  generalize Lib.ctzFrom 64 s = c at *
  have hp : 0 < 2 ^ c := Nat.two_pow_pos c
  have d1 : s / 2 ^ c = 2 * m + 1 := by rw [hm, Nat.mul_div_cancel_left _ hp]
  have d2 : (s - 1) / 2 ^ c = 2 * m := by
    have a1 : (s - 1) / 2 ^ c < 2 * m + 1 := Nat.div_lt_of_lt_mul (by omega)
    have a2 : 2 * m ≤ (s - 1) / 2 ^ c := (Nat.le_div_iff_mul_le hp).2 (by
      rw [Nat.mul_comm]
      have : 2 ^ c * (2 * m + 1) = 2 ^ c * (2 * m) + 2 ^ c := by rw [Nat.mul_add, Nat.mul_one]
      omega)
    omega
  have b1 : s.testBit c = true := by rw [Nat.testBit_eq_decide_div_mod_eq, d1]; exact decide_eq_true (by omega)
  have b2 : (s - 1).testBit c = false := by rw [Nat.testBit_eq_decide_div_mod_eq, d2]; exact decide_eq_false (by omega)
  refine ⟨b1, fun i => ?_⟩
  obtain ⟨v, -, hv⟩ := low_is s s (Nat.le_refl _) h0
  have h1 : ∀ i, (s.testBit i && !(s - 1).testBit i) = decide (v = i) := fun i => by rw [← less_bit, hv, pow2_bit]
  have hvc : v = c := by
    have := h1 c
    rw [b1, b2] at this
    exact of_decide_eq_true this.symm
  subst hvc
  have h2 := h1 i
  rw [land_bit]
  cases e1 : s.testBit i <;> cases e2 : (s - 1).testBit i <;> rw [e1, e2] at h2 <;> by_cases e3 : i = v
  all_goals first | rfl | (have h3 : ¬ v = i := (fun h => e3 h.symm); simp [h3] at h2; done) | (simp [e3] at h2 ⊢; done) | (simp [e3]; done)

theorem u64_nat {n : Nat} (h : n < 18446744073709551616) : IntKind.u64.wrap (n : Int) = (n : Int) := by rw [IntKind.wrap_u64]; omega

set_option maxHeartbeats 1000000 in
theorem tz64_at (x k idx : Nat) (w : World) (hx0 : ((x : Int) == 0) = false)
    (key : IntKind.u64.wrap (bits BinOp.and IntKind.u64 (x : Int) (IntKind.u64.wrap (-(x : Int))) * 285870213051353865) / 288230376151711744 = (idx : Int))
    (hi : idx < 64) (hk : k < 64) (hcell : w.cell? ⟨1, idx, none⟩ = some (.int .u8 k)) :
    Calls Tryd.prog 75 #[.int .u64 (x : Int)] w fun e w' => e = .returned (.int .i64 k) ∧ w' = w := by
  go_enter Tryd.func75, Tryd.ntmps75
  go_wp2_with (simp only [key])
  go_ret
  exact ⟨rfl, rfl⟩
theorem tz64_any (x : Nat) (hx : x < 18446744073709551616) (hx0 : x ≠ 0) (w : World) (hT : TabAt 1 Lib.deBruijn64tab w) :
    Calls Tryd.prog 75 #[.int .u64 (x : Int)] w fun e w' => e = .returned (.int .i64 (Lib.ctz 64 x)) ∧ w' = w := by
  obtain ⟨hlow, hk⟩ := Lib.lowest_bit 64 x hx0 hx
  obtain ⟨hi, htab⟩ := Lib.deBruijn64_at _ hk
  have hcell := hT _ hi
  rw [htab] at hcell
  exact tz64_at x _ _ w (by simp; omega) (tz64_key x _ hx hx0 hlow) hi hk hcell

set_option maxHeartbeats 1000000 in
theorem tz_any (x : Nat) (hx : x < 18446744073709551616) (hx0 : x ≠ 0) (w : World) (hT : TabAt 1 Lib.deBruijn64tab w) :
    Calls Tryd.prog 54 #[.int .u64 (x : Int)] w fun e w' => e = .returned (.int .i64 (Lib.ctz 64 x)) ∧ w' = w := by
  have hw := u64_nat hx
  go_enter Tryd.func54, Tryd.ntmps54
  go_wp2_with (go_at_call 75; refine (tz64_any x hx hx0 _ hT).mono ?_; rintro e w' ⟨rfl, hw'⟩; rw [hw'])
  go_ret
  exact ⟨rfl, rfl⟩

end Go.Proofs.YtnhhohhhpaejmaaDoor
