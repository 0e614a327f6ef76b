/- Colourings counted by sets without edges: the plain law of colour.Poly. No walk. -/
import Derived.Test.YtfflnpcbpcldeaaDoorFree
import Derived.Test.YtfflnpcbpcldeaaDoorSums
namespace Go.Proofs.YtfflnpcbpcldeaaDoor
open Go Go.RowKit

/-- As an int holds it. -/
abbrev wI (x : Int) : Int := IntKind.i64.wrap x
theorem wI_64 (x : Int) : wI x = wrap64 x := by
  unfold wI wrap64
  simp [IntKind.wrap, IntKind.bits, IntKind.signed]
  try omega
theorem wI_eq (x : Int) : ∃ q : Int, wI x = x + q * 18446744073709551616 := by
  unfold wI
  refine ⟨-((x + 9223372036854775808) / 18446744073709551616), ?_⟩
  simp [IntKind.wrap, IntKind.bits, IntKind.signed]
  omega
theorem wI_congr {x y q : Int} (h : x = y + q * 18446744073709551616) : wI x = wI y := by
  unfold wI
  simp [IntKind.wrap, IntKind.bits, IntKind.signed]
  omega
theorem wI_add (x y : Int) : wI (wI x + wI y) = wI (x + y) := by
  obtain ⟨a, ha⟩ := wI_eq x
  obtain ⟨b, hb⟩ := wI_eq y
  exact wI_congr (q := a + b) (by rw [ha, hb, Int.add_mul]; omega)
theorem wI_addr (x y : Int) : wI (x + wI y) = wI (x + y) := by
  obtain ⟨b, hb⟩ := wI_eq y
  exact wI_congr (q := b) (by rw [hb]; omega)
theorem wI_mul (x y : Int) : wI (wI x * wI y) = wI (x * y) := by
  obtain ⟨a, ha⟩ := wI_eq x
  obtain ⟨b, hb⟩ := wI_eq y
  refine wI_congr (q := x * b + a * y + a * b * 18446744073709551616) ?_
  rw [ha, hb]
  simp only [Int.add_mul, Int.mul_add]
  have e1 : a * 18446744073709551616 * y = a * y * 18446744073709551616 := by rw [Int.mul_assoc, Int.mul_comm 18446744073709551616 y, ← Int.mul_assoc]
  have e2 : x * (b * 18446744073709551616) = x * b * 18446744073709551616 := by rw [Int.mul_assoc]
  have e3 : a * 18446744073709551616 * (b * 18446744073709551616) = a * b * 18446744073709551616 * 18446744073709551616 := by
    rw [← Int.mul_assoc, Int.mul_assoc a _ b, Int.mul_comm 18446744073709551616 b, ← Int.mul_assoc]
  rw [e1, e2, e3]
  omega
theorem wI_wI (x : Int) : wI (wI x) = wI x := by
  have := wI_addr 0 x
  simpa using this

/-- The lowest bit of a set. -/
def lowB (r : Nat) : Nat := less r (r - 1)
theorem op_lowB {s : Nat} (h : Few s) (h0 : s ≠ 0) : bits .and .i64 (s : Int) (-(s : Int)) = (lowB s : Int) := by
  unfold lowB
  rw [← op_andNot h (by show s - 1 < _; unfold Few at h; omega)]
  unfold bits
  show IntKind.i64.wrap (((BitVec.ofInt 64 (s : Int)) &&& (BitVec.ofInt 64 (-(s : Int)))).toNat : Int) = IntKind.i64.wrap (((BitVec.ofInt 64 (s : Int)) &&& ~~~(BitVec.ofInt 64 ((s - 1 : Nat) : Int))).toNat : Int)
  have e : BitVec.ofInt 64 (-(s : Int)) = ~~~(BitVec.ofInt 64 ((s - 1 : Nat) : Int)) := by
    have hh : s < 4611686018427387904 := h
    apply BitVec.eq_of_toNat_eq
    rw [BitVec.toNat_not, BitVec.toNat_ofInt, BitVec.toNat_ofInt]
    omega
  rw [e]

/-- What goes from s to x: x is s and a set without an edge, which has the lowest node that s lacks. -/
def polC (free : Nat → Bool) (all : Nat) (W : Nat → Int) (s x : Nat) : Int :=
  if s ≠ all ∧ land s x = s ∧ land (less x s) (lowB (less all s)) ≠ 0 ∧ free (less x s) = true then W s else 0
theorem wI_sum (b c : Int) : wI (wI b + c) = wI (b + c) := by rw [Int.add_comm, wI_addr, Int.add_comm]

/-- In the midst of s: sets above t have been added. -/
def polT (free : Nat → Bool) (all : Nat) (W base : Nat → Int) (s t x : Nat) : Int := base x + if t < less x s then polC free all W s x else 0
theorem lor_less {s t all : Nat} (ht : Within t (less all s)) : less (lor s t) s = t ∧ land s (lor s t) = s := by
  refine ⟨Nat.eq_of_testBit_eq fun i => ?_, Nat.eq_of_testBit_eq fun i => ?_⟩
  · rw [less_bit, lor_bit]
    cases e : t.testBit i with
    | false => cases s.testBit i <;> rfl
    | true =>
      have := ht i e
      rw [less_bit] at this
      simp at this
      rw [this.2]; rfl
  · rw [land_bit, lor_bit]
    cases s.testBit i <;> rfl
theorem less_lor {s x t : Nat} (hs : land s x = s) (h : less x s = t) : x = lor s t := by
  refine Nat.eq_of_testBit_eq fun i => ?_
  have h1 := congrArg (fun z => z.testBit i) hs
  have h2 := congrArg (fun z => z.testBit i) h
  simp only [land_bit, less_bit] at h1 h2
  rw [lor_bit, ← h2]
  cases e1 : s.testBit i <;> cases e2 : x.testBit i <;> simp [e1, e2] at h1 ⊢
theorem less_within {x s all : Nat} (hx : Within x all) : Within (less x s) (less all s) := fun i hi => by
  rw [less_bit] at hi ⊢
  simp at hi ⊢
  exact ⟨hx i hi.1, hi.2⟩
theorem polT_start {free : Nat → Bool} {all : Nat} {W base : Nat → Int} {s x : Nat} (hx : Within x all) : polT free all W base s (less all s) x = base x := by
  unfold polT
  have := Within.le (less_within (s := s) hx)
  rw [if_neg (by omega)]; omega
theorem polT_end {free : Nat → Bool} {all : Nat} {W base : Nat → Int} {s x : Nat} : polT free all W base s 0 x = base x + polC free all W s x := by
  unfold polT
  by_cases h : 0 < less x s
  · rw [if_pos h]
  · have h0 : less x s = 0 := by omega
    rw [if_neg h]
    unfold polC
    rw [if_neg]
    rintro ⟨-, -, h3, -⟩
    rw [h0] at h3
    apply h3
    unfold land
    exact Nat.zero_and _
/-- One set more. -/
theorem polT_next {free : Nat → Bool} {all : Nat} {W base : Nat → Int} {s t x : Nat} (hx : Within x all) (h0 : t ≠ 0) (ht : Within t (less all s)) (hsa : s ≠ all) :
    polT free all W base s (land (t - 1) (less all s)) x = polT free all W base s t x + if x = lor s t ∧ land t (lowB (less all s)) ≠ 0 ∧ free t = true then W s else 0 := by
  have hlt : land (t - 1) (less all s) ≤ t - 1 := Nat.and_le_left
  have hw := less_within (s := s) hx
  unfold polT
  by_cases hs : land s x = s
  · rcases Nat.lt_trichotomy (less x s) t with e | e | e
    · have h1 := next_sub t t (less all s) (less x s) (Nat.le_refl _) ht hw e
      have hne : ¬ x = lor s t := fun e2 => by rw [e2, (lor_less ht).1] at e; omega
      rw [if_neg (show ¬ land (t - 1) (less all s) < less x s by omega), if_neg (show ¬ t < less x s by omega), if_neg (show ¬ (x = lor s t ∧ land t (lowB (less all s)) ≠ 0 ∧ free t = true) from fun h => hne h.1)]; omega
    · have hxe := less_lor hs e
      rw [if_pos (show land (t - 1) (less all s) < less x s by omega), if_neg (show ¬ t < less x s by omega)]
      unfold polC
      rw [e]
      by_cases hc : land t (lowB (less all s)) ≠ 0 ∧ free t = true
      · rw [if_pos ⟨hsa, hs, hc⟩, if_pos ⟨hxe, hc⟩]; omega
      · rw [if_neg (fun h => hc h.2.2), if_neg (fun h => hc h.2)]
        omega
    · have hne : ¬ x = lor s t := fun e2 => by rw [e2, (lor_less ht).1] at e; omega
      rw [if_pos (show land (t - 1) (less all s) < less x s by omega), if_pos (show t < less x s by omega), if_neg (show ¬ (x = lor s t ∧ land t (lowB (less all s)) ≠ 0 ∧ free t = true) from fun h => hne h.1)]; omega
  · have hz : polC free all W s x = 0 := by unfold polC; rw [if_neg (fun h => hs h.2.1)]
    have hne : ¬ x = lor s t := fun e2 => hs (by rw [e2]; exact (lor_less ht).2)
    rw [hz, if_neg (show ¬ (x = lor s t ∧ land t (lowB (less all s)) ≠ 0 ∧ free t = true) from fun h => hne h.1)]
    split <;> split <;> omega
/-- A set with no way to it, or the whole, gives nothing. -/
theorem polC_none {free : Nat → Bool} {all : Nat} {W base : Nat → Int} {s x : Nat} (h : wI (W s) = 0 ∨ s = all) : wI (base x + polC free all W s x) = wI (base x) := by
  unfold polC
  split
  · rename_i hc
    rcases h with h | h
    · rw [← wI_addr, h]; simp
    · exact absurd h hc.1
  · simp

/-- The tables of colour.Poly: ways by sets, falling powers, the sums. -/
def polW (free : Nat → Bool) (M : Nat) : Nat → Nat → Int
  | 0, x => if x = 0 then 1 else 0
  | k + 1, x => sumI (fun s => polC free (M - 1) (polW free M k) s x) M
def polF : Nat → Nat → Int
  | 0, i => if i = 0 then 1 else 0
  | k + 1, i => (if i = 0 then 0 else polF k (i - 1)) - k * polF k i
def polO (free : Nat → Bool) (M : Nat) : Nat → Nat → Int
  | 0, _ => 0
  | k + 1, i => polO free M k i + if i ≤ k then polW free M k (M - 1) * polF k i else 0
theorem polF_zero : ∀ k i, k < i → polF k i = 0
  | 0, i, h => by simp only [polF, if_neg (show ¬ i = 0 by omega)]
  | k + 1, i, h => by
    rw [polF, polF_zero k i (by omega), polF_zero k (i - 1) (by omega), if_neg (show ¬ i = 0 by omega)]
    simp
/-- '-= k * c', as ints do it. -/
theorem wI_subm (x k c : Int) : wI (wI x - wI (k * wI c)) = wI (x - k * c) := by
  obtain ⟨a, ha⟩ := wI_eq x
  obtain ⟨b, hb⟩ := wI_eq (k * wI c)
  obtain ⟨e, he⟩ := wI_eq c
  refine wI_congr (q := a - b - k * e) ?_
  rw [ha, hb, he]
  simp only [Int.mul_add, Int.sub_mul]
  have e1 : k * (e * 18446744073709551616) = k * e * 18446744073709551616 := by rw [Int.mul_assoc]
  rw [e1]
  omega
/-- The next falling power under way: i cells of the last one have been used. -/
def polG (k i q : Nat) : Int := (if q < i then -((k : Int) * polF k q) else 0) + if 0 < q ∧ q ≤ i then polF k (q - 1) else 0
theorem polG_zero (k q : Nat) : polG k 0 q = 0 := by
  unfold polG
  rw [if_neg (by omega), if_neg (by omega)]; rfl
theorem polG_end {k q : Nat} (hq : q < k + 2) : polG k (k + 1) q = polF (k + 1) q := by
  unfold polG
  rw [polF]
  by_cases h0 : q = 0
  · subst h0
    rw [if_pos (show 0 < k + 1 by omega), if_neg (show ¬ (0 < 0 ∧ 0 ≤ k + 1) by omega), if_pos rfl]; omega
  · rw [if_pos (show 0 < q ∧ q ≤ k + 1 by omega), if_neg h0]
    by_cases h1 : q < k + 1
    · rw [if_pos h1]; omega
    · have : polF k q = 0 := polF_zero k q (by omega)
      rw [if_neg h1, this]; simp
theorem polG_next (k i q : Nat) : polG k (i + 1) q = polG k i q + (if q = i then -((k : Int) * polF k i) else 0) + if q = i + 1 then polF k i else 0 := by
  unfold polG
  by_cases e1 : q = i
  · subst e1
    rw [if_pos (show q < q + 1 by omega), if_neg (show ¬ q < q by omega), if_pos rfl, if_neg (show ¬ q = q + 1 by omega)]
    by_cases h0 : 0 < q
    · rw [if_pos (show 0 < q ∧ q ≤ q + 1 by omega), if_pos (show 0 < q ∧ q ≤ q by omega)]; omega
    · rw [if_neg (show ¬ (0 < q ∧ q ≤ q + 1) by omega), if_neg (show ¬ (0 < q ∧ q ≤ q) by omega)]; omega
  · by_cases e2 : q = i + 1
    · subst e2
      rw [if_neg (show ¬ i + 1 < i + 1 by omega), if_pos (show 0 < i + 1 ∧ i + 1 ≤ i + 1 by omega), if_neg (show ¬ i + 1 < i by omega), if_neg (show ¬ (0 < i + 1 ∧ i + 1 ≤ i) by omega), if_neg (show ¬ i + 1 = i by omega), if_pos rfl]
      simp
    · rw [if_neg e1, if_neg e2]
      by_cases h1 : q < i
      · rw [if_pos (show q < i + 1 by omega), if_pos h1]
        by_cases h0 : 0 < q
        · rw [if_pos (show 0 < q ∧ q ≤ i + 1 by omega), if_pos (show 0 < q ∧ q ≤ i by omega)]; omega
        · rw [if_neg (show ¬ (0 < q ∧ q ≤ i + 1) by omega), if_neg (show ¬ (0 < q ∧ q ≤ i) by omega)]; omega
      · rw [if_neg (show ¬ q < i + 1 by omega), if_neg h1, if_neg (show ¬ (0 < q ∧ q ≤ i + 1) by omega), if_neg (show ¬ (0 < q ∧ q ≤ i) by omega)]; omega

end Go.Proofs.YtfflnpcbpcldeaaDoor
