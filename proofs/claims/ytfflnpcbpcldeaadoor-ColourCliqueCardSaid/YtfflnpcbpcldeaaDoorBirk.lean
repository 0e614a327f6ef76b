/- BIRKHOFF, in plain words: colourings by sets of nodes without an edge, one class behind the other. No program in sight. -/
import Derived.Test.YtfflnpcbpcldeaaDoorSums
namespace Go.Proofs.YtfflnpcbpcldeaaDoor
open Go Go.RowKit

/-! Sets as numbers. -/
theorem sub_iff {s x : Nat} : land s x = s ↔ ∀ i, s.testBit i = true → x.testBit i = true := by
  constructor
  · intro h i hi
    have := congrArg (fun z => z.testBit i) h
    simp only [land_bit, hi] at this
    simpa using this
  · intro h
    refine Nat.eq_of_testBit_eq fun i => ?_
    rw [land_bit]
    have := h i
    cases e : s.testBit i <;> simp_all
theorem bit_ltN {s N i : Nat} (hs : s < 2 ^ N) (h : s.testBit i = true) : i < N := by
  rcases Nat.lt_or_ge i N with h' | h'
  · exact h'
  · have : s < 2 ^ i := Nat.lt_of_lt_of_le hs (Nat.pow_le_pow_right (by decide) h')
    rw [Nat.testBit_lt_two_pow this] at h
    cases h
theorem all_bit {N i : Nat} : (2 ^ N - 1).testBit i = decide (i < N) := Nat.testBit_two_pow_sub_one N i
theorem mask_lt {s N : Nat} (h : ∀ i, s.testBit i = true → i < N) : s < 2 ^ N := few_of_bit h
theorem ex_mask (r : Nat → Bool) : ∀ n : Nat, ∃ m, m < 2 ^ n ∧ ∀ i, m.testBit i = (decide (i < n) && r i)
  | 0 => ⟨0, by decide, fun i => by simp⟩
  | n + 1 => by
    obtain ⟨m, hm, hb⟩ := ex_mask r n
    have key : ∀ i, (lor m (if r n then pow2 n else 0)).testBit i = (decide (i < n + 1) && r i) := fun i => by
      rw [lor_bit, hb]
      by_cases e : i = n
      · subst e
        cases e : r i <;> simp [e, pow2_bit]
      · have e1 : (if r n then pow2 n else 0).testBit i = false := by
          cases r n
          · simp
          · simp [pow2_bit]; omega
        have e2 : decide (i < n + 1) = decide (i < n) := by by_cases h : i < n <;> simp [h] <;> omega
        rw [e1, e2]; simp
    refine ⟨_, mask_lt fun i hi => ?_, key⟩
    rw [key] at hi
    simp at hi
    exact hi.1

/-- How many. -/
def card : Nat → Nat → Nat
  | 0, _ => 0
  | n + 1, s => card n s + if s.testBit n then 1 else 0
theorem card_le : ∀ (n s : Nat), card n s ≤ n
  | 0, _ => Nat.le_refl _
  | n + 1, s => by have := card_le n s; rw [card]; split <;> omega
theorem card_zero : ∀ (n : Nat), card n 0 = 0
  | 0 => rfl
  | n + 1 => by rw [card, card_zero n]; simp
theorem card_all : ∀ (n : Nat) {N : Nat}, n ≤ N → card n (2 ^ N - 1) = n
  | 0, _, _ => rfl
  | n + 1, N, h => by rw [card, card_all n (by omega), all_bit, if_pos (by simp; omega)]
theorem card_split {s x : Nat} (h : land s x = s) : ∀ n : Nat, card n x = card n s + card n (less x s)
  | 0 => rfl
  | n + 1 => by
    have h1 := sub_iff.1 h n
    rw [card, card, card, card_split h n, less_bit]
    cases e1 : s.testBit n <;> cases e2 : x.testBit n <;> simp_all <;> omega
theorem card_pos {t i : Nat} (h : t.testBit i = true) : ∀ {n : Nat}, i < n → 0 < card n t
  | 0, hn => by omega
  | n + 1, hn => by
    rw [card]
    by_cases e : i = n
    · subst e; rw [if_pos h]; omega
    · have := card_pos h (n := n) (by omega); omega

/-! One class behind the other. -/
structure Low (N : Nat) (low : Nat → Nat) : Prop where
  out : ∀ s, s < 2 ^ N → s ≠ 2 ^ N - 1 → low s < N ∧ s.testBit (low s) = false
  same : ∀ s z, s < 2 ^ N → z < 2 ^ N → s ≠ 2 ^ N - 1 → land s z = s → z.testBit (low s) = false → low z = low s

def stA (N : Nat) (low : Nat → Nat) (free : Nat → Bool) (s x : Nat) : Int := if s ≠ 2 ^ N - 1 ∧ land s x = s ∧ x.testBit (low s) = true ∧ free (less x s) = true then 1 else 0
def stB (free : Nat → Bool) (s x : Nat) : Int := if land s x = s ∧ s ≠ x ∧ free (less x s) = true then 1 else 0
def stC (N : Nat) (low : Nat → Nat) (free : Nat → Bool) (s x : Nat) : Int := if (s ≠ 2 ^ N - 1 ∧ land s x = s ∧ s ≠ x ∧ free (less x s) = true) ∧ x.testBit (low s) = false then 1 else 0
def wayR (N : Nat) (low : Nat → Nat) (free : Nat → Bool) : Nat → Nat → Int
  | 0, s => if s = 2 ^ N - 1 then 1 else 0
  | k + 1, s => sumI (fun x => stA N low free s x * wayR N low free k x) (2 ^ N)

variable {N : Nat} {low : Nat → Nat} {free : Nat → Bool}
theorem ite_ne {P : Prop} [Decidable P] (h : (if P then (1 : Int) else 0) ≠ 0) : P := by
  by_cases hp : P
  · exact hp
  · rw [if_neg hp] at h; exact absurd rfl h
theorem all_of_sub {s x : Nat} (hx : x < 2 ^ N) (h : land s x = s) (e : s = 2 ^ N - 1) : x = s := by
  subst e
  refine Nat.eq_of_testBit_eq fun i => ?_
  have h1 := sub_iff.1 h i
  rw [all_bit] at *
  by_cases hi : i < N
  · rw [h1 (by simpa using hi)]; simp [hi]
  · cases e2 : x.testBit i
    · simp [hi]
    · exact absurd (bit_ltN hx e2) hi
theorem stB_split (hl : Low N low) {s x : Nat} (hs : s < 2 ^ N) (hx : x < 2 ^ N) : stB free s x = stA N low free s x + stC N low free s x := by
  unfold stA stB stC
  by_cases e : s = 2 ^ N - 1
  · rw [if_neg (fun h => h.2.1 (all_of_sub hx h.1 e).symm), if_neg (fun h => h.1 e), if_neg (fun h => h.1.1 e)]; rfl
  · by_cases h1 : land s x = s ∧ free (less x s) = true
    · cases h2 : x.testBit (low s)
      · rw [if_neg (show ¬ (s ≠ 2 ^ N - 1 ∧ land s x = s ∧ false = true ∧ free (less x s) = true) from fun h => by cases h.2.2.1)]
        by_cases h3 : s ≠ x
        · rw [if_pos ⟨h1.1, h3, h1.2⟩, if_pos ⟨⟨e, h1.1, h3, h1.2⟩, rfl⟩]; rfl
        · rw [if_neg fun h => h3 h.2.1, if_neg fun h => h3 h.1.2.2.1]; rfl
      · have h3 : s ≠ x := fun h3 => by
          have := (hl.out s hs e).2
          rw [h3] at this
          rw [h3, this] at h2
          cases h2
        rw [if_pos ⟨h1.1, h3, h1.2⟩, if_pos ⟨e, h1.1, rfl, h1.2⟩, if_neg fun h => by cases h.2]; rfl
    · rw [if_neg fun h => h1 ⟨h.1, h.2.2⟩, if_neg fun h => h1 ⟨h.2.1, h.2.2.2⟩, if_neg fun h => h1 ⟨h.1.2.1, h.1.2.2.2⟩]; rfl
theorem lor_back {s y : Nat} (h : land s y = s) : lor s (less y s) = y := Nat.eq_of_testBit_eq fun i => by
  have h1 := sub_iff.1 h i
  rw [lor_bit, less_bit]
  cases e1 : s.testBit i <;> cases e2 : y.testBit i <;> simp_all
theorem stAB (hl : Low N low) {s y : Nat} (hs : s < 2 ^ N) (hy : y < 2 ^ N) :
    sumI (fun x => stA N low free s x * stB free x y) (2 ^ N) = sumI (fun z => stC N low free s z * stA N low free z y) (2 ^ N) := by
  have hb : ∀ x i, (lor s (less y x)).testBit i = (s.testBit i || (y.testBit i && !x.testBit i)) := fun x i => by rw [lor_bit, less_bit]
  have hm : land s y = s → ∀ x, lor s (less y x) < 2 ^ N := fun h x => mask_lt fun i hi => by
    rw [hb] at hi
    have := sub_iff.1 h i
    refine bit_ltN hy (i := i) ?_
    cases e1 : s.testBit i <;> cases e2 : y.testBit i <;> simp_all
  have hback : ∀ x, land s x = s → land x y = x → lor s (less y (lor s (less y x))) = x := fun x h1 h2 => Nat.eq_of_testBit_eq fun i => by
    have h1 := sub_iff.1 h1 i
    have h2 := sub_iff.1 h2 i
    rw [hb, hb]
    cases e1 : s.testBit i <;> cases e2 : y.testBit i <;> cases e3 : x.testBit i <;> simp_all
  have hl1 : ∀ x, land s x = s → less (lor s (less y x)) s = less y x := fun x h1 => Nat.eq_of_testBit_eq fun i => by
    have h1 := sub_iff.1 h1 i
    rw [less_bit, hb, less_bit]
    cases e1 : s.testBit i <;> cases e2 : y.testBit i <;> cases e3 : x.testBit i <;> simp_all
  have hl2 : ∀ x, land s x = s → land x y = x → less y (lor s (less y x)) = less x s := fun x h1 h2 => Nat.eq_of_testBit_eq fun i => by
    have h1 := sub_iff.1 h1 i
    have h2 := sub_iff.1 h2 i
    rw [less_bit, hb, less_bit]
    cases e1 : s.testBit i <;> cases e2 : y.testBit i <;> cases e3 : x.testBit i <;> simp_all
  have hs1 : ∀ x, land s (lor s (less y x)) = s := fun x => sub_iff.2 fun i hi => by rw [hb, hi]; rfl
  have hs2 : land s y = s → ∀ x, land (lor s (less y x)) y = lor s (less y x) := fun h x => sub_iff.2 fun i hi => by
    have h1 := sub_iff.1 h i
    rw [hb] at hi
    cases e1 : s.testBit i <;> cases e2 : y.testBit i <;> simp_all
  have htr : ∀ {a b c : Nat}, land a b = a → land b c = b → land a c = a := fun h1 h2 => sub_iff.2 fun i hi => sub_iff.1 h2 i (sub_iff.1 h1 i hi)
  have self : lor s (less y y) = s := Nat.eq_of_testBit_eq fun i => by rw [hb]; cases s.testBit i <;> cases y.testBit i <;> rfl
  refine sumI_turn (fun x => lor s (less y x)) (fun x => lor s (less y x)) ?_ ?_
  · intro x hx h
    have hA := ite_ne (fun e => h (by rw [show stA N low free s x = 0 from e]; simp))
    have hB := ite_ne (fun e => h (by rw [show stB free x y = 0 from e]; simp))
    obtain ⟨a1, a2, a3, a4⟩ := hA
    obtain ⟨b1, b2, b3⟩ := hB
    have hsy := htr a2 b1
    have hlz : (lor s (less y x)).testBit (low s) = false := by rw [hb, (hl.out s hs a1).2, a3]; simp
    have hsame := hl.same s _ hs (hm hsy x) a1 (hs1 x) hlz
    refine ⟨hm hsy x, hback x a2 b1, ?_⟩
    have hne : s ≠ lor s (less y x) := fun e => b2 (by
      have h9 := hback x a2 b1
      rw [← e] at h9
      rw [← h9]
      exact lor_back hsy)
    have e1 : stC N low free s (lor s (less y x)) = 1 := if_pos ⟨⟨a1, hs1 x, hne, (by rw [hl1 x a2]; exact b3)⟩, hlz⟩
    have e2 : stA N low free (lor s (less y x)) y = 1 := if_pos ⟨fun e => by
      rw [e, all_bit] at hlz
      exact of_decide_eq_false hlz (hl.out s hs a1).1, hs2 hsy x, by rw [hsame]; exact sub_iff.1 b1 _ a3, by rw [hl2 x a2 b1]; exact a4⟩
    have e3 : stA N low free s x = 1 := if_pos ⟨a1, a2, a3, a4⟩
    have e4 : stB free x y = 1 := if_pos ⟨b1, b2, b3⟩
    rw [e1, e2, e3, e4]
  · intro z hz h
    have hC := ite_ne (fun e => h (by rw [show stC N low free s z = 0 from e]; simp))
    have hA := ite_ne (fun e => h (by rw [show stA N low free z y = 0 from e]; simp))
    obtain ⟨⟨c1, c2, c3, c4⟩, c5⟩ := hC
    obtain ⟨a1, a2, a3, a4⟩ := hA
    have hsy := htr c2 a2
    have hsame := hl.same s z hs hz c1 c2 c5
    rw [hsame] at a3
    refine ⟨hm hsy z, hback z c2 a2, ?_⟩
    have e1 : stA N low free s (lor s (less y z)) = 1 := if_pos ⟨c1, hs1 z, by rw [hb, a3, c5]; simp, by rw [hl1 z c2]; exact a4⟩
    have e2 : stB free (lor s (less y z)) y = 1 := if_pos ⟨hs2 hsy z, fun e => c3 (by
      have := hback z c2 a2
      rw [e, self] at this
      exact this), by rw [hl2 z c2 a2]; exact c4⟩
    have e3 : stC N low free s z = 1 := if_pos ⟨⟨c1, c2, c3, c4⟩, c5⟩
    have e4 : stA N low free z y = 1 := if_pos ⟨a1, a2, by rw [hsame]; exact a3, a4⟩
    rw [e1, e2, e3, e4]

/-- Any one of the classes first. -/
theorem wayR_any (hl : Low N low) : ∀ (k : Nat) {s : Nat}, s < 2 ^ N → ((k : Int) + 1) * wayR N low free (k + 1) s = sumI (fun x => stB free s x * wayR N low free k x) (2 ^ N)
  | 0, s, hs => by
    have hp : 0 < 2 ^ N := Nat.two_pow_pos N
    have e : ∀ F : Nat → Int, sumI (fun x => F x * wayR N low free 0 x) (2 ^ N) = F (2 ^ N - 1) := fun F => by
      have : sumI (fun x => F x * wayR N low free 0 x) (2 ^ N) = F (2 ^ N - 1) * wayR N low free 0 (2 ^ N - 1) := sumI_one (a := 2 ^ N - 1) (by omega) fun i _ hi => by rw [wayR, if_neg hi]; simp
      rw [this, wayR, if_pos rfl]; simp
    rw [wayR, e, e, stB_split hl hs (by omega)]
    have : stC N low free s (2 ^ N - 1) = 0 := if_neg fun h => by
      have h1 := (hl.out s hs h.1.1).1
      have h2 := h.2
      rw [all_bit] at h2
      simp at h2; omega
    rw [this]; simp
  | k + 1, s, hs => by
    have ih : ∀ x, x < 2 ^ N → ((k : Int) + 1) * wayR N low free (k + 1) x = sumI (fun y => stB free x y * wayR N low free k y) (2 ^ N) := fun x hx => wayR_any hl k hx
    have e1 : sumI (fun x => stB free s x * wayR N low free (k + 1) x) (2 ^ N) = wayR N low free (k + 1 + 1) s + sumI (fun x => stC N low free s x * wayR N low free (k + 1) x) (2 ^ N) := by
      rw [wayR, ← sumI_add]
      exact sumI_congr fun x hx => by rw [stB_split hl hs hx, Int.add_mul]
    have e2 : sumI (fun x => stC N low free s x * wayR N low free (k + 1) x) (2 ^ N) = sumI (fun x => stA N low free s x * (((k : Int) + 1) * wayR N low free (k + 1) x)) (2 ^ N) := by
      have l1 : ∀ F G : Nat → Nat → Int, sumI (fun x => F s x * sumI (fun y => G x y * wayR N low free k y) (2 ^ N)) (2 ^ N) = sumI (fun y => wayR N low free k y * sumI (fun x => F s x * G x y) (2 ^ N)) (2 ^ N) := fun F G => by
        rw [show sumI (fun x => F s x * sumI (fun y => G x y * wayR N low free k y) (2 ^ N)) (2 ^ N) = sumI (fun x => sumI (fun y => F s x * (G x y * wayR N low free k y)) (2 ^ N)) (2 ^ N) from sumI_congr fun x _ => (sumI_mul _ _ _).symm, sumI_comm]
        refine sumI_congr fun y _ => ?_
        rw [← sumI_mul]
        exact sumI_congr fun x _ => by grind
      rw [show sumI (fun x => stA N low free s x * (((k : Int) + 1) * wayR N low free (k + 1) x)) (2 ^ N) = sumI (fun x => stA N low free s x * sumI (fun y => stB free x y * wayR N low free k y) (2 ^ N)) (2 ^ N) from sumI_congr fun x hx => by rw [ih x hx],
        show sumI (fun x => stC N low free s x * wayR N low free (k + 1) x) (2 ^ N) = sumI (fun x => stC N low free s x * sumI (fun y => stA N low free x y * wayR N low free k y) (2 ^ N)) (2 ^ N) from rfl, l1 (stC N low free) (stA N low free), l1 (stA N low free) (stB free)]
      exact sumI_congr fun y hy => by rw [stAB hl hs hy]
    have e3 : sumI (fun x => stA N low free s x * (((k : Int) + 1) * wayR N low free (k + 1) x)) (2 ^ N) = ((k : Int) + 1) * wayR N low free (k + 1 + 1) s := by
      rw [show wayR N low free (k + 1 + 1) s = sumI (fun x => stA N low free s x * wayR N low free (k + 1) x) (2 ^ N) from rfl, ← sumI_mul]
      exact sumI_congr fun x _ => by grind
    rw [e1, e2, e3]
    push_cast
    grind
theorem wayR_nil (hl : Low N low) : ∀ (k : Nat) {s : Nat}, s < 2 ^ N → N < k + card N s → wayR N low free k s = 0
  | 0, s, _, h => by have := card_le N s; omega
  | k + 1, s, hs, h => by
    rw [wayR]
    refine sumI_none fun x hx => ?_
    by_cases h0 : stA N low free s x = 0
    · rw [h0]; simp
    · obtain ⟨a1, a2, a3, a4⟩ := ite_ne h0
      have h1 := card_split a2 N
      have h2 := card_pos (t := less x s) (i := low s) (by rw [less_bit, a3, (hl.out s hs a1).2]; rfl) (n := N) (hl.out s hs a1).1
      rw [wayR_nil hl k hx (by omega)]; simp

/-- The polynomial, at s gone. -/
def polS (N : Nat) (low : Nat → Nat) (free : Nat → Bool) (K s : Nat) (x : Int) : Int := sumI (fun k => wayR N low free k s * ffI x k) K
theorem polS_back (hl : Low N low) : ∀ (K : Nat) {s : Nat} (x : Int), s < 2 ^ N → polS N low free (K + 1) s x = polS N low free (K + 1) s (x - 1) + sumI (fun y => stB free s y * polS N low free K y (x - 1)) (2 ^ N)
  | 0, s, x, _ => by
    unfold polS
    simp only [sumI, ffI]
    rw [sumI_none fun i _ => by simp]; omega
  | K + 1, s, x, hs => by
    have ih := polS_back hl K (s := s) x hs
    have h1 := wayR_any (free := free) hl K hs
    have e1 : ∀ K x, polS N low free (K + 1) s x = polS N low free K s x + wayR N low free K s * ffI x K := fun _ _ => rfl
    have e2 : sumI (fun y => stB free s y * polS N low free (K + 1) y (x - 1)) (2 ^ N) = sumI (fun y => stB free s y * polS N low free K y (x - 1)) (2 ^ N) + sumI (fun y => stB free s y * wayR N low free K y) (2 ^ N) * ffI (x - 1) K := by
      rw [Int.mul_comm _ (ffI (x - 1) K), ← sumI_mul, ← sumI_add]
      exact sumI_congr fun y _ => by
        rw [show polS N low free (K + 1) y (x - 1) = polS N low free K y (x - 1) + wayR N low free K y * ffI (x - 1) K from rfl]
        grind
    rw [e1 (K + 1) x, ih, e1 (K + 1) (x - 1), e2, ← h1, ffI_back]
    grind
def polF' (N : Nat) (low : Nat → Nat) (free : Nat → Bool) (s : Nat) (x : Int) : Int := polS N low free (N + 1) s x
theorem polF'_back (hl : Low N low) {s : Nat} (x : Int) (hs : s < 2 ^ N) : polF' N low free s x = polF' N low free s (x - 1) + sumI (fun y => stB free s y * polF' N low free y (x - 1)) (2 ^ N) := by
  unfold polF'
  rw [polS_back hl N x hs]
  congr 1
  refine sumI_congr fun y hy => ?_
  by_cases h0 : stB free s y = 0
  · rw [h0]; simp
  · obtain ⟨b1, b2, b3⟩ := ite_ne h0
    have h1 := card_split b1 N
    have h2 : 0 < card N (less y s) := by
      rcases Nat.eq_zero_or_pos (card N (less y s)) with e | e
      · refine absurd (Nat.eq_of_testBit_eq fun i => ?_) b2
        have h3 := sub_iff.1 b1 i
        cases e2 : y.testBit i
        · cases e3 : s.testBit i
          · rfl
          · rw [h3 e3] at e2; cases e2
        · cases e3 : s.testBit i
          · have := card_pos (t := less y s) (i := i) (by rw [less_bit, e2, e3]; rfl) (bit_ltN hy e2)
            omega
          · rfl
      · exact e
    rw [show polS N low free (N + 1) y (x - 1) = polS N low free N y (x - 1) + wayR N low free N y * ffI (x - 1) N from rfl, wayR_nil hl N hy (by omega)]
    simp
theorem polF'_zero (s : Nat) : polF' N low free s 0 = if s = 2 ^ N - 1 then 1 else 0 := by
  unfold polF' polS
  have := sumI_one (f := fun k => wayR N low free k s * ffI 0 k) (a := 0) (n := N + 1) (by omega) fun i _ hi => by
    rw [ffI_zero i (by omega)]; simp
  rw [this]
  simp [ffI, wayR]

/-- What is built up in the same way is the same. -/
theorem polF'_up (hl : Low N low) {C : Nat → Nat → Int} (h0 : ∀ s, s < 2 ^ N → C 0 s = if s = 2 ^ N - 1 then 1 else 0)
    (h1 : ∀ x s, s < 2 ^ N → C (x + 1) s = C x s + sumI (fun y => stB free s y * C x y) (2 ^ N)) : ∀ (x : Nat) {s : Nat}, s < 2 ^ N → C x s = polF' N low free s x
  | 0, s, hs => by rw [h0 s hs]; exact (polF'_zero s).symm
  | x + 1, s, hs => by
    rw [h1 x s hs, polF'_back hl _ hs, show (((x + 1 : Nat) : Int) - 1) = (x : Int) by omega, polF'_up hl h0 h1 x hs]
    congr 1
    exact sumI_congr fun y hy => by rw [polF'_up hl h0 h1 x hy]
theorem polF'_down (hl : Low N low) {b : Nat → Int} (h1 : ∀ s, s < 2 ^ N → b s + sumI (fun y => stB free s y * b y) (2 ^ N) = if s = 2 ^ N - 1 then 1 else 0) :
    ∀ (n : Nat) {s : Nat}, s < 2 ^ N → 2 ^ N ≤ s + n → b s = polF' N low free s (-1)
  | 0, s, hs, hn => by omega
  | n + 1, s, hs, hn => by
    have e1 := h1 s hs
    have e2 := polF'_back (free := free) hl 0 hs
    rw [polF'_zero, show (0 - 1 : Int) = -1 from rfl] at e2
    have e3 : sumI (fun y => stB free s y * b y) (2 ^ N) = sumI (fun y => stB free s y * polF' N low free y (-1)) (2 ^ N) := sumI_congr fun y hy => by
      by_cases h0 : stB free s y = 0
      · rw [h0]; simp
      · obtain ⟨b1, b2, b3⟩ := ite_ne h0
        have h3 : s ≤ y := by rw [← b1]; exact Nat.and_le_right
        rw [polF'_down hl h1 n hy (by omega)]
    rw [e3] at e1
    omega

end Go.Proofs.YtfflnpcbpcldeaaDoor
