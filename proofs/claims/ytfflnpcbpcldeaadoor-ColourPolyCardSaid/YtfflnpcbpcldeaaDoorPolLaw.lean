/- What colour.Poly gives is the polynomial. No walk. -/
import Derived.Test.YtfflnpcbpcldeaaDoorPolP
import Derived.Test.YtfflnpcbpcldeaaDoorStan
namespace Go.Proofs.YtfflnpcbpcldeaaDoor
open Go Go.RowKit

theorem ctz_least {s i : Nat} (h0 : s ≠ 0) (hs : Few s) (hi : i < Lib.ctz 64 s) : s.testBit i = false := by
  have e : Lib.ctz 64 s = Lib.ctzFrom 64 s := by simp [Lib.ctz, h0]
  rw [e] at hi
  obtain ⟨m, hm, -⟩ := Lib.ctzFrom_spec 64 s (by omega) (Nat.lt_trans hs (by decide))
  generalize Lib.ctzFrom 64 s = c at *
  rw [hm, Nat.testBit_two_pow_mul]
  simp; omega
/-- The lowest node that a set lacks. -/
def lowN (N s : Nat) : Nat := Lib.ctz 64 (less (2 ^ N - 1) s)
theorem less_all_few {N s : Nat} (hN : N ≤ 62) : Few (less (2 ^ N - 1) s) := few_pow hN (mask_lt fun i hi => by
  rw [less_bit, all_bit] at hi
  simp at hi
  exact hi.1)
theorem less_all_ne {N s : Nat} (hs : s < 2 ^ N) (h : s ≠ 2 ^ N - 1) : less (2 ^ N - 1) s ≠ 0 := fun h0 => by
  refine h (Nat.eq_of_testBit_eq fun i => ?_)
  have := zero_bits.1 h0 i
  rw [less_bit] at this
  cases e1 : s.testBit i with
  | true => rw [all_bit]; exact (decide_eq_true (bit_ltN hs e1)).symm
  | false => rw [e1] at this; simp at this; rw [all_bit]; exact (decide_eq_false (by omega)).symm
theorem lowN_low {N : Nat} (hN : N ≤ 62) : Low N (lowN N) := by
  refine ⟨fun s hs h => ?_, fun s z hs hz h hsz hzl => ?_⟩
  · have := (ctz_low (less_all_ne hs h) (less_all_few hN)).1
    rw [less_bit, all_bit] at this
    simp at this
    exact this
  · have r0 := less_all_ne hs h
    have h1 := (ctz_low r0 (less_all_few hN)).1
    have hcN : lowN N s < N := by
      rw [less_bit, all_bit] at h1
      simp at h1
      exact h1.1
    have h2 : (less (2 ^ N - 1) z).testBit (lowN N s) = true := by rw [less_bit, all_bit, hzl]; simp [hcN]
    have z0 : less (2 ^ N - 1) z ≠ 0 := fun e => by rw [e] at h2; simp at h2
    have h3 := (ctz_low z0 (less_all_few hN)).1
    rcases Nat.lt_trichotomy (Lib.ctz 64 (less (2 ^ N - 1) z)) (Lib.ctz 64 (less (2 ^ N - 1) s)) with e | e | e
    · have h4 := ctz_least r0 (less_all_few hN) e
      rw [less_bit] at h3 h4
      have h5 := sub_iff.1 hsz (Lib.ctz 64 (less (2 ^ N - 1) z))
      cases e1 : s.testBit (Lib.ctz 64 (less (2 ^ N - 1) z)) with
      | true => rw [h5 e1] at h3; simp at h3
      | false => rw [e1] at h4; simp at h3 h4; omega
    · exact e
    · have := ctz_least z0 (less_all_few hN) e
      unfold lowN at h2
      rw [this] at h2; cases h2
theorem polC_stA {N : Nat} (hN : N ≤ 62) {free : Nat → Bool} {W : Nat → Int} {s x : Nat} (hs : s < 2 ^ N) : polC free (2 ^ N - 1) W s x = stA N (lowN N) free s x * W s := by
  unfold polC stA
  by_cases h : s = 2 ^ N - 1
  · rw [if_neg (fun k => k.1 h), if_neg (fun k => k.1 h)]; simp
  · have r0 := less_all_ne hs h
    obtain ⟨c1, c2⟩ := ctz_low r0 (less_all_few hN)
    have hsl : s.testBit (lowN N s) = false := ((lowN_low hN).out s hs h).2
    have key : land (less x s) (lowB (less (2 ^ N - 1) s)) ≠ 0 ↔ x.testBit (lowN N s) = true := by
      have hb : ∀ i, (lowB (less (2 ^ N - 1) s)).testBit i = decide (i = lowN N s) := fun i => by
        unfold lowB
        rw [less_bit]
        have h2 := c2 i
        rw [land_bit] at h2
        by_cases e : i = lowN N s
        · subst e
          have h1 : (less (2 ^ N - 1) s).testBit (lowN N s) = true := c1
          rw [h1] at h2 ⊢
          unfold lowN at h2 ⊢
          simp at h2
          simp [h2]
        · have h3 : ¬ i = Lib.ctz 64 (less (2 ^ N - 1) s) := e
          simp only [h3, decide_not, decide_false, Bool.not_false, Bool.and_true] at h2
          rw [decide_eq_false e]
          cases e1 : (less (2 ^ N - 1) s).testBit i
          · rfl
          · rw [e1] at h2; simp at h2; simp [h2]
      constructor
      · intro hne
        cases e : x.testBit (lowN N s) with
        | true => rfl
        | false =>
          refine absurd (zero_bits.2 fun i => ?_) hne
          rw [land_bit, hb, less_bit]
          by_cases e2 : i = lowN N s
          · subst e2; rw [e]; simp
          · simp [e2]
      · intro hx h0
        have := zero_bits.1 h0 (lowN N s)
        rw [land_bit, hb, less_bit, hx, hsl] at this
        simp at this
    by_cases hc : land s x = s ∧ x.testBit (lowN N s) = true ∧ free (less x s) = true
    · rw [if_pos ⟨h, hc.1, key.2 hc.2.1, hc.2.2⟩, if_pos ⟨h, hc⟩]; simp
    · rw [if_neg (fun k => hc ⟨k.2.1, key.1 k.2.2.1, k.2.2.2⟩), if_neg (fun k => hc k.2)]; simp
/-- Forwards and backwards. -/
theorem polW_wayR {N : Nat} (hN : N ≤ 62) {free : Nat → Bool} : ∀ (j k : Nat), sumI (fun x => polW free (2 ^ N) j x * wayR N (lowN N) free k x) (2 ^ N) = wayR N (lowN N) free (j + k) 0
  | 0, k => by
    have := sumI_one (f := fun x => polW free (2 ^ N) 0 x * wayR N (lowN N) free k x) (a := 0) (Nat.two_pow_pos N) fun i _ hi => by rw [polW, if_neg hi]; simp
    rw [this, polW, if_pos rfl, Nat.zero_add]; simp
  | j + 1, k => by
    rw [show j + 1 + k = j + (k + 1) by omega, ← polW_wayR hN j (k + 1)]
    rw [show sumI (fun x => polW free (2 ^ N) (j + 1) x * wayR N (lowN N) free k x) (2 ^ N) = sumI (fun x => sumI (fun s => stA N (lowN N) free s x * polW free (2 ^ N) j s * wayR N (lowN N) free k x) (2 ^ N)) (2 ^ N) from sumI_congr fun x _ => by
      rw [polW, Int.mul_comm, ← sumI_mul]
      exact sumI_congr fun s hs => by rw [polC_stA hN hs, Int.mul_comm], sumI_comm]
    refine sumI_congr fun s _ => ?_
    rw [wayR, ← sumI_mul]
    exact sumI_congr fun x _ => by grind
theorem polW_all {N : Nat} (hN : N ≤ 62) {free : Nat → Bool} (k : Nat) : polW free (2 ^ N) k (2 ^ N - 1) = wayR N (lowN N) free k 0 := by
  have := polW_wayR hN (free := free) k 0
  rw [Nat.add_zero] at this
  have hp := Nat.two_pow_pos N
  rw [← this, sumI_one (a := 2 ^ N - 1) (by omega) fun i _ hi => by rw [wayR, if_neg hi]; simp, wayR, if_pos rfl]
  simp

theorem sumI_succ (f : Nat → Int) : ∀ n : Nat, sumI f (n + 1) = f 0 + sumI (fun i => f (i + 1)) n
  | 0 => by simp [sumI]
  | n + 1 => by rw [sumI, sumI_succ f n, sumI]; omega
theorem polF_ff (x : Int) : ∀ (k n : Nat), k < n → sumI (fun i => polF k i * x ^ i) n = ffI x k
  | 0, n, hn => by
    rw [sumI_one (a := 0) hn fun i _ hi => by rw [polF, if_neg hi]; simp]
    simp [polF, ffI]
  | k + 1, n, hn => by
    obtain ⟨m, rfl⟩ : ∃ m, n = m + 1 := ⟨n - 1, by omega⟩
    have h1 := polF_ff x k (m + 1) (by omega)
    have h2 := polF_ff x k m (by omega)
    have e : sumI (fun i => polF (k + 1) i * x ^ i) (m + 1) = sumI (fun i => (if i = 0 then 0 else polF k (i - 1)) * x ^ i) (m + 1) - k * sumI (fun i => polF k i * x ^ i) (m + 1) := by
      rw [Int.sub_eq_add_neg, ← sumI_mul, ← sumI_neg, ← sumI_add]
      exact sumI_congr fun i _ => by rw [polF]; grind
    have e2 : sumI (fun i => (if i = 0 then 0 else polF k (i - 1)) * x ^ i) (m + 1) = x * sumI (fun i => polF k i * x ^ i) m := by
      rw [sumI_succ, ← sumI_mul]
      simp only [if_true, Int.zero_mul, Int.zero_add]
      refine sumI_congr fun i _ => ?_
      rw [if_neg (by omega), Nat.add_sub_cancel, Int.pow_succ]; grind
    rw [e, e2, h1, h2, ffI]; grind
theorem polO_sum {free : Nat → Bool} {M : Nat} : ∀ (K i : Nat), polO free M K i = sumI (fun k => polW free M k (M - 1) * polF k i) K
  | 0, _ => rfl
  | K + 1, i => by
    rw [polO, sumI, polO_sum K i]
    by_cases h : i ≤ K
    · rw [if_pos h]
    · rw [if_neg h, polF_zero K i (by omega)]; simp
/-- The list's value at x. -/
theorem polO_at {N : Nat} (hN : N ≤ 62) {free : Nat → Bool} (x : Int) : sumI (fun i => polO free (2 ^ N) (N + 1) i * x ^ i) (N + 1) = polF' N (lowN N) free 0 x := by
  unfold polF' polS
  rw [show sumI (fun i => polO free (2 ^ N) (N + 1) i * x ^ i) (N + 1) = sumI (fun i => sumI (fun k => polW free (2 ^ N) k (2 ^ N - 1) * polF k i * x ^ i) (N + 1)) (N + 1) from sumI_congr fun i _ => by
    rw [polO_sum, Int.mul_comm, ← sumI_mul]
    exact sumI_congr fun k _ => Int.mul_comm _ _, sumI_comm]
  refine sumI_congr fun k hk => ?_
  rw [← polW_all hN, ← polF_ff x k (N + 1) hk, ← sumI_mul]
  exact sumI_congr fun i _ => by grind
theorem card_pow2 {v : Nat} : ∀ {n : Nat}, v < n → card n (pow2 v) = 1
  | 0, h => by omega
  | n + 1, h => by
    have same : ∀ m, m ≤ v → card m (pow2 v) = 0 := fun m hm => by
      induction m with
      | zero => rfl
      | succ m ih => rw [card, ih (by omega), pow2_bit, if_neg (by simp; omega)]
    rw [card, pow2_bit]
    by_cases e : v = n
    · subst e; rw [same v (Nat.le_refl _), if_pos (by simp)]
    · rw [card_pow2 (n := n) (by omega), if_neg (by simpa using e)]
theorem wayR_full {N : Nat} {low : Nat → Nat} {free : Nat → Bool} (hl : Low N low) (hfree : ∀ v, v < N → free (pow2 v) = true) : ∀ (k : Nat) {s : Nat}, s < 2 ^ N → N = k + card N s → wayR N low free k s = 1
  | 0, s, hs, h => by
    rw [wayR, if_pos]
    refine Nat.eq_of_testBit_eq fun i => ?_
    rw [all_bit]
    by_cases hi : i < N
    · cases e : s.testBit i with
      | true => simp [hi]
      | false =>
        have hsub : land s (2 ^ N - 1) = s := sub_iff.2 fun j hj => by rw [all_bit]; simp [bit_ltN hs hj]
        have h1 := card_split hsub N
        have h2 := card_pos (t := less (2 ^ N - 1) s) (i := i) (by rw [less_bit, all_bit, e]; simp [hi]) hi
        rw [card_all N (Nat.le_refl _)] at h1
        omega
    · cases e : s.testBit i with
      | true => exact absurd (bit_ltN hs e) hi
      | false => simp [hi]
  | k + 1, s, hs, h => by
    have hall : s ≠ 2 ^ N - 1 := fun e => by rw [e, card_all N (Nat.le_refl _)] at h; omega
    obtain ⟨l1, l2⟩ := hl.out s hs hall
    obtain ⟨y, hy⟩ : ∃ y, y = lor s (pow2 (low s)) := ⟨_, rfl⟩
    have hyb : ∀ i, y.testBit i = (s.testBit i || decide (low s = i)) := fun i => by rw [hy, lor_bit, pow2_bit]
    have hylt : y < 2 ^ N := mask_lt fun i hi => by
      rw [hyb] at hi
      cases e : s.testBit i with
      | true => exact bit_ltN hs e
      | false => rw [e] at hi; simp at hi; omega
    have hsy : land s y = s := sub_iff.2 fun i hi => by rw [hyb, hi]; rfl
    have hless : less y s = pow2 (low s) := Nat.eq_of_testBit_eq fun i => by
      rw [less_bit, hyb, pow2_bit]
      by_cases e : low s = i
      · subst e; rw [l2]; simp
      · simp [e]
    have hc := card_split hsy N
    rw [hless, card_pow2 l1] at hc
    have hA : stA N low free s y = 1 := if_pos ⟨hall, hsy, by rw [hyb]; simp, by rw [hless]; exact hfree _ l1⟩
    rw [wayR, sumI_one hylt fun x hx hne => ?_, hA, wayR_full hl hfree k hylt (by omega)]
    · rfl
    · by_cases h0 : stA N low free s x = 0
      · rw [h0]; simp
      · obtain ⟨a1, a2, a3, a4⟩ := ite_ne h0
        have hyx : land y x = y := sub_iff.2 fun i hi => by
          rw [hyb] at hi
          cases e : s.testBit i with
          | true => exact sub_iff.1 a2 i e
          | false =>
            rw [e] at hi
            simp at hi
            rw [← hi]; exact a3
        have h1 := card_split hyx N
        have h2 : 0 < card N (less x y) := by
          rcases Nat.eq_zero_or_pos (card N (less x y)) with e | e
          · refine absurd (Nat.eq_of_testBit_eq fun i => ?_) hne
            have h3 := sub_iff.1 hyx i
            cases e2 : x.testBit i with
            | false =>
              cases e3 : y.testBit i with
              | false => rfl
              | true => rw [h3 e3] at e2; cases e2
            | true =>
              cases e3 : y.testBit i with
              | true => rfl
              | false =>
                have := card_pos (t := less x y) (i := i) (by rw [less_bit, e2, e3]; rfl) (bit_ltN hx e2)
                omega
          · exact e
        rw [wayR_nil hl k hx (by omega)]; simp
theorem polF_top : ∀ k : Nat, polF k k = 1
  | 0 => rfl
  | k + 1 => by rw [polF, if_neg (by omega), Nat.add_sub_cancel, polF_top k, polF_zero k (k + 1) (by omega)]; simp
/-- Its highest coefficient is 1. -/
theorem polO_top {N : Nat} (hN : N ≤ 62) {free : Nat → Bool} (hfree : ∀ v, v < N → free (pow2 v) = true) : polO free (2 ^ N) (N + 1) N = 1 := by
  rw [polO_sum, sumI_one (a := N) (by omega) fun k hk hne => by rw [polF_zero k N (by omega)]; simp, polF_top, polW_all hN, wayR_full (lowN_low hN) hfree N (Nat.two_pow_pos N) (by rw [card_zero]; rfl)]
  rfl

/-- Horner's way, from the last one down. -/
def horD (f : Nat → Int) (x : Int) (n : Nat) : Nat → Int
  | 0 => 0
  | k + 1 => horD f x n k * x + f (n - 1 - k)
theorem horD_sum (f : Nat → Int) (x : Int) (n : Nat) : ∀ k : Nat, k ≤ n → horD f x n k = sumI (fun j => f (n - k + j) * x ^ j) k
  | 0, _ => rfl
  | k + 1, hk => by
    rw [horD, horD_sum f x n k (by omega), sumI_succ]
    simp only [Int.pow_zero, Int.mul_one, Nat.add_zero]
    rw [show n - 1 - k = n - (k + 1) by omega, Int.add_comm, Int.mul_comm, ← sumI_mul]
    congr 1
    refine sumI_congr fun j _ => ?_
    rw [show n - (k + 1) + (j + 1) = n - k + j by omega, Int.pow_succ]; grind
theorem horD_all (f : Nat → Int) (x : Int) (n : Nat) : horD f x n n = sumI (fun j => f j * x ^ j) n := by
  rw [horD_sum f x n n (Nat.le_refl _)]
  exact sumI_congr fun j _ => by rw [Nat.sub_self, Nat.zero_add]
theorem wI_horn (h x f : Int) : wI (wI (wI h * x) + wI f) = wI (h * x + f) := by
  obtain ⟨a, ha⟩ := wI_eq h
  obtain ⟨b, hb⟩ := wI_eq (wI h * x)
  obtain ⟨c, hc⟩ := wI_eq f
  refine wI_congr (q := a * x + b + c) ?_
  rw [hb, hc, ha]; grind

end Go.Proofs.YtfflnpcbpcldeaaDoor
