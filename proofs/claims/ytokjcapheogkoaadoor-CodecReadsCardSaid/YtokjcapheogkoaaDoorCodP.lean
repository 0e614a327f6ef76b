/- The code of bytes of a graph, and its text: plain. No program in sight. -/
import Derived.Test.YtokjcapheogkoaaDoorMem
import Derived.Lib.ItoaNum
namespace Go.Proofs.YtokjcapheogkoaaDoor
open Go Go.RowKit

/-! The bits of a table's columns. -/
def colB (G : Nat → Nat → Bool) (j : Nat) : Nat → List Bool
  | 0 => []
  | i + 1 => colB G j i ++ [G i j]
def preB (G : Nat → Nat → Bool) : Nat → List Bool
  | 0 => []
  | j + 1 => preB G j ++ colB G j j
theorem colB_length (G : Nat → Nat → Bool) (j : Nat) : ∀ i, (colB G j i).length = i
  | 0 => rfl
  | i + 1 => by rw [colB, List.length_append, colB_length G j i]; rfl
theorem preB_length (G : Nat → Nat → Bool) : ∀ j, 2 * (preB G j).length + j = j * j
  | 0 => rfl
  | j + 1 => by
    have := preB_length G j
    have e : (j + 1) * (j + 1) = j * j + j + j + 1 := by rw [Nat.add_mul, Nat.mul_add]; omega
    rw [preB, List.length_append, colB_length, e]
    omega
theorem bits_few {G : Nat → Nat → Bool} {j i : Nat} (hj : j ≤ 100) (hi : i ≤ j) : (preB G j ++ colB G j i).length ≤ 5050 := by
  have h1 := preB_length G j
  have h2 : j * j ≤ 100 * 100 := Nat.mul_le_mul hj hj
  rw [List.length_append, colB_length]
  omega

/-- Six bits' number. -/
def b01 (l : List Bool) (k : Nat) : Nat := (l.getD k false).toNat
def v6 (l : List Bool) (q : Nat) : Nat := 32 * b01 l (6 * q) + 16 * b01 l (6 * q + 1) + 8 * b01 l (6 * q + 2) + 4 * b01 l (6 * q + 3) + 2 * b01 l (6 * q + 4) + b01 l (6 * q + 5)
theorem b01_le (l : List Bool) (k : Nat) : b01 l k ≤ 1 := by unfold b01; cases l.getD k false <;> decide
theorem v6_le (l : List Bool) (q : Nat) : v6 l q ≤ 63 := by
  have h0 := b01_le l (6 * q); have h1 := b01_le l (6 * q + 1); have h2 := b01_le l (6 * q + 2); have h3 := b01_le l (6 * q + 3); have h4 := b01_le l (6 * q + 4); have h5 := b01_le l (6 * q + 5)
  unfold v6; omega
/-- The bytes of bits. -/
def bodyN (l : List Bool) : List Nat := (List.range ((l.length + 5) / 6)).map fun q => 63 + v6 l q
theorem b01_snoc {l : List Bool} {x : Bool} {k : Nat} : b01 (l ++ [x]) k = if k = l.length then x.toNat else b01 l k := by
  unfold b01
  by_cases h : k < l.length
  · rw [if_neg (by omega)]; simp [List.getD, List.getElem?_append_left h]
  · by_cases e : k = l.length
    · subst e; rw [if_pos rfl]; simp [List.getD]
    · rw [if_neg e, List.getD, List.getD, List.getElem?_eq_none (by simp; omega), List.getElem?_eq_none (by omega)]
theorem v6_snoc_far {l : List Bool} {x : Bool} {q : Nat} (h : 6 * q + 5 < l.length) : v6 (l ++ [x]) q = v6 l q := by
  unfold v6
  rw [b01_snoc, b01_snoc, b01_snoc, b01_snoc, b01_snoc, b01_snoc, if_neg (by omega), if_neg (by omega), if_neg (by omega), if_neg (by omega), if_neg (by omega), if_neg (by omega)]
theorem b01_beyond {l : List Bool} {k : Nat} (h : l.length ≤ k) : b01 l k = 0 := by
  unfold b01; rw [List.getD, List.getElem?_eq_none h]; rfl
theorem v6_snoc_at {l : List Bool} {x : Bool} {r q : Nat} (hl : l.length = 6 * q + r) (hr : r < 6) : v6 (l ++ [x]) q = v6 l q + x.toNat * 2 ^ (5 - r) := by
  have h0 : b01 l (6 * q + r) = 0 := b01_beyond (by omega)
  unfold v6
  rw [b01_snoc, b01_snoc, b01_snoc, b01_snoc, b01_snoc, b01_snoc]
  match r, hr with
  | 0, _ => rw [Nat.add_zero] at h0; rw [if_pos (by omega), if_neg (by omega), if_neg (by omega), if_neg (by omega), if_neg (by omega), if_neg (by omega), h0]; simp; omega
  | 1, _ => rw [if_neg (by omega), if_pos (by omega), if_neg (by omega), if_neg (by omega), if_neg (by omega), if_neg (by omega), h0]; simp; omega
  | 2, _ => rw [if_neg (by omega), if_neg (by omega), if_pos (by omega), if_neg (by omega), if_neg (by omega), if_neg (by omega), h0]; simp; omega
  | 3, _ => rw [if_neg (by omega), if_neg (by omega), if_neg (by omega), if_pos (by omega), if_neg (by omega), if_neg (by omega), h0]; simp; omega
  | 4, _ => rw [if_neg (by omega), if_neg (by omega), if_neg (by omega), if_neg (by omega), if_pos (by omega), if_neg (by omega), h0]; simp; omega
  | 5, _ => rw [if_neg (by omega), if_neg (by omega), if_neg (by omega), if_neg (by omega), if_neg (by omega), if_pos (by omega), h0]; simp
theorem bodyN_length (l : List Bool) : (bodyN l).length = (l.length + 5) / 6 := by simp [bodyN]
/-- A bit more: a new byte, or the last one with it. -/
theorem bodyN_new {l : List Bool} {x : Bool} {q : Nat} (hl : l.length = 6 * q) : bodyN (l ++ [x]) = bodyN l ++ [63 + x.toNat * 32] := by
  unfold bodyN
  rw [List.length_append, List.length_singleton, show (l.length + 1 + 5) / 6 = q + 1 by omega, show (l.length + 5) / 6 = q by omega, List.range_succ, List.map_append]
  congr 1
  · refine List.map_congr_left fun i hi => ?_
    rw [List.mem_range] at hi
    rw [v6_snoc_far (by omega)]
  · have h0 : v6 l q = 0 := by
      unfold v6
      rw [b01_beyond (by omega), b01_beyond (by omega), b01_beyond (by omega), b01_beyond (by omega), b01_beyond (by omega), b01_beyond (by omega)]
    simp only [List.map_cons, List.map_nil, v6_snoc_at (x := x) (r := 0) (q := q) (by omega) (by omega), h0, Nat.zero_add]
theorem bodyN_more {l : List Bool} {x : Bool} {q r : Nat} (hl : l.length = 6 * q + r) (h0 : 0 < r) (hr : r < 6) :
    (∀ k, k < q → (bodyN (l ++ [x])).getD k 0 = (bodyN l).getD k 0) ∧ (bodyN (l ++ [x])).getD q 0 = (bodyN l).getD q 0 + x.toNat * 2 ^ (5 - r) ∧ (bodyN (l ++ [x])).length = (bodyN l).length ∧ (bodyN l).length = q + 1 := by
  have e1 : ((l ++ [x]).length + 5) / 6 = q + 1 := by rw [List.length_append, List.length_singleton]; omega
  have e2 : (l.length + 5) / 6 = q + 1 := by omega
  have at1 : ∀ k, k < q + 1 → (bodyN (l ++ [x])).getD k 0 = 63 + v6 (l ++ [x]) k := fun k hk => by simp only [bodyN, e1]; simp [List.getD, hk]
  have at2 : ∀ k, k < q + 1 → (bodyN l).getD k 0 = 63 + v6 l k := fun k hk => by simp only [bodyN, e2]; simp [List.getD, hk]
  refine ⟨fun k hk => ?_, ?_, ?_, ?_⟩
  · rw [at1 k (by omega), at2 k (by omega), v6_snoc_far (by omega)]
  · rw [at1 q (by omega), at2 q (by omega), v6_snoc_at hl hr]; omega
  · rw [bodyN_length, bodyN_length, e1, e2]
  · rw [bodyN_length, e2]
/-- Bits that are 0 make no odds. -/
theorem bodyN_pad {l : List Bool} (h : l.length % 6 ≠ 0) : bodyN (l ++ [false]) = bodyN l := by
  obtain ⟨q, r, hl, h0, hr⟩ : ∃ q r, l.length = 6 * q + r ∧ 0 < r ∧ r < 6 := ⟨l.length / 6, l.length % 6, by omega, by omega, by omega⟩
  obtain ⟨h1, h2, h3, h4⟩ := bodyN_more (x := false) hl h0 hr
  refine List.ext_getElem h3 fun k hk hk' => ?_
  have e : ∀ (m : List Nat) (hm : k < m.length), m[k] = m.getD k 0 := fun m hm => by simp [List.getD, hm]
  rw [e _ hk, e _ hk']
  by_cases c : k < q
  · exact h1 k c
  · obtain rfl : k = q := by omega
    rw [h2]; simp

/-- With the bit, and without it. -/
theorem bodyN_true {l : List Bool} {q r : Nat} (hl : l.length = 6 * q + r) (hr : r < 6) :
    (∀ k, k < q → (bodyN (l ++ [true])).getD k 0 = (bodyN (l ++ [false])).getD k 0) ∧ (bodyN (l ++ [true])).getD q 0 = (bodyN (l ++ [false])).getD q 0 + 2 ^ (5 - r) ∧
      (bodyN (l ++ [true])).length = q + 1 ∧ (bodyN (l ++ [false])).length = q + 1 ∧ (bodyN (l ++ [false])).getD q 0 + 2 ^ (5 - r) ≤ 126 := by
  have e1 : ∀ x : Bool, ((l ++ [x]).length + 5) / 6 = q + 1 := fun x => by rw [List.length_append, List.length_singleton]; omega
  have at1 : ∀ (x : Bool) k, k < q + 1 → (bodyN (l ++ [x])).getD k 0 = 63 + v6 (l ++ [x]) k := fun x k hk => by simp only [bodyN, e1]; simp [List.getD, hk]
  have h2 : (bodyN (l ++ [true])).getD q 0 = (bodyN (l ++ [false])).getD q 0 + 2 ^ (5 - r) := by rw [at1 true q (by omega), at1 false q (by omega), v6_snoc_at hl hr, v6_snoc_at hl hr]; simp; omega
  refine ⟨fun k hk => ?_, h2, ?_, ?_, ?_⟩
  · rw [at1 true k (by omega), at1 false k (by omega), v6_snoc_far (by omega), v6_snoc_far (by omega)]
  · rw [bodyN_length, e1]
  · rw [bodyN_length, e1]
  · rw [← h2, at1 true q (by omega)]
    have := v6_le (l ++ [true]) q
    omega

/-- The first bytes. -/
def headN (n : Nat) : List Nat := if n < 63 then [n + 63] else [126, 63, n / 64 + 63, n % 64 + 63]
def packN (n : Nat) (G : Nat → Nat → Bool) : List Nat := headN n ++ bodyN (preB G n)
def u8L (l : List Nat) : List UInt8 := l.map UInt8.ofNat
/-- As Go keeps bytes. -/
def u8V (l : List Nat) : List Value := l.map fun (k : Nat) => Value.int .u8 (k : Int)
theorem u8V_length (l : List Nat) : (u8V l).length = l.length := by simp [u8V]
theorem u8V_snoc (l : List Nat) (k : Nat) : u8V (l ++ [k]) = u8V l ++ [.int .u8 (k : Int)] := by simp [u8V]

end Go.Proofs.YtokjcapheogkoaaDoor
