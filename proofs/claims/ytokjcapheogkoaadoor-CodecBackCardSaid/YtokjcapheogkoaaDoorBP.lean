/- What a code of bytes tells: plain. No program in sight. What is written is read as it was, and each code is written so: plain. No program in sight. What is printed is read as it was: plain. No program in sight. -/
import Derived.Test.YtokjcapheogkoaaDoorReadP
import Derived.Test.YtokjcapheogkoaaDoorPA
import Derived.Test.YtokjcapheogkoaaDoorTxtP
namespace Go.Proofs.YtokjcapheogkoaaDoor
open Go Go.RowKit

def triN (n : Nat) : Nat := n * (n - 1) / 2
theorem mul_pred (n : Nat) : (n + 1) * (n + 1 - 1) = n * (n - 1) + 2 * n := by
  cases n with
  | zero => rfl
  | succ n => have h := Nat.mul_succ (n + 1) n; rw [Nat.add_sub_cancel, Nat.add_sub_cancel, Nat.succ_mul]; rw [Nat.succ_eq_add_one] at h; omega
theorem triN_succ (n : Nat) : triN (n + 1) = triN n + n := by
  unfold triN
  rw [mul_pred]
  omega
theorem triN_le {n : Nat} (h : n ≤ 100) : triN n ≤ 4950 := by
  unfold triN
  have : n * (n - 1) ≤ 100 * 99 := Nat.mul_le_mul h (by omega)
  omega
theorem triN_mono {n m : Nat} (h : n ≤ m) : triN n ≤ triN m := by
  unfold triN
  have : n * (n - 1) ≤ m * (m - 1) := Nat.mul_le_mul h (by omega)
  omega
theorem tri_lt {i j n : Nat} (hij : i < j) (hj : j < n) : triN j + i < triN n := by
  have h1 := triN_succ j
  have h2 := triN_mono (show j + 1 ≤ n by omega)
  omega

def okB (x : Nat) : Prop := 63 ≤ x ∧ x ≤ 126
instance (x : Nat) : Decidable (okB x) := by unfold okB; infer_instance
/-- The first byte that is none of a code. -/
def BadAt (b : List UInt8) (i : Nat) : Prop := i < b.length ∧ ¬ okB (bt b i) ∧ ∀ j, j < i → okB (bt b j)
theorem BadAt.uniq {b : List UInt8} {i j : Nat} (h : BadAt b i) (k : BadAt b j) : i = j := by
  rcases Nat.lt_trichotomy i j with e | e | e
  · exact absurd (k.2.2 i e) h.2.1
  · exact e
  · exact absurd (h.2.2 j e) k.2.1
def hdU (b : List UInt8) : Nat := if hasB b 0 126 then 4 else 1
def nU (b : List UInt8) : Nat := if hasB b 0 126 then (bt b 1 - 63) * 4096 + (bt b 2 - 63) * 64 + (bt b 3 - 63) else bt b 0 - 63
def szU (b : List UInt8) : Nat := hdU b + (triN (nU b) + 5) / 6
def bitU (b : List UInt8) (h k : Nat) : Bool := decide ((bt b (h + k / 6) - 63) / 2 ^ (5 - k % 6) % 2 = 1)
def gU (b : List UInt8) (i j : Nat) : Bool := bitU b (hdU b) (triN j + i)
def edgesU (b : List UInt8) : List (Int × Int) := prsTo (nU b) (gU b) (nU b)
/-- A bit beyond the last pair. -/
def PadU (b : List UInt8) : Prop := ∃ k, triN (nU b) ≤ k ∧ k < 6 * ((triN (nU b) + 5) / 6) ∧ bitU b (hdU b) k = true

open Classical in
noncomputable def uG (b : List UInt8) : Nat × List (Int × Int) × Int × Int :=
  if 20000 < b.length then (0, [], 2, 0)
  else if h : ∃ i, BadAt b i then (0, [], 1, (Classical.choose h : Nat))
  else if b.length < hdU b then (0, [], 1, (b.length : Nat))
  else if hdU b = 4 ∧ nU b < 63 then (0, [], 7, 0)
  else if 100 < nU b then (0, [], 2, 0)
  else if b.length ≠ szU b then (0, [], 1, (min b.length (szU b) : Nat))
  else if PadU b then (0, [], 7, (b.length - 1 : Nat))
  else if 1000 < (edgesU b).length then (0, [], 2, 0)
  else (nU b, edgesU b, 0, 0)
/-- How far the checks have come. -/
structure U1 (b : List UInt8) : Prop where
  len : b.length ≤ 20000
  ok : ∀ i, i < b.length → okB (bt b i)
theorem U1.no {b : List UInt8} (h : U1 b) : ¬ ∃ i, BadAt b i := fun ⟨i, h1, h2, _⟩ => h2 (h.ok i h1)
structure U2 (b : List UInt8) : Prop extends U1 b where
  hd : ¬ b.length < hdU b
structure U3 (b : List UInt8) : Prop extends U2 b where
  form : ¬ (hdU b = 4 ∧ nU b < 63)
structure U4 (b : List UInt8) : Prop extends U3 b where
  few : ¬ 100 < nU b
structure U5 (b : List UInt8) : Prop extends U4 b where
  size : b.length = szU b
structure U6 (b : List UInt8) : Prop extends U5 b where
  pad : ¬ PadU b
section
variable {b : List UInt8}
theorem uG_many (h : 20000 < b.length) : uG b = (0, [], 2, 0) := by unfold uG; rw [if_pos h]
theorem uG_byte (h : b.length ≤ 20000) {i : Nat} (hi : BadAt b i) : uG b = (0, [], 1, (i : Int)) := by
  have hx : ∃ i, BadAt b i := ⟨i, hi⟩
  unfold uG
  rw [if_neg (by omega), dif_pos hx, (Classical.choose_spec hx).uniq hi]
theorem U1.short (h : U1 b) (hd : b.length < hdU b) : uG b = (0, [], 1, (b.length : Int)) := by
  unfold uG; rw [if_neg (by have := h.len; omega), dif_neg h.no, if_pos hd]
theorem U2.bad (h : U2 b) (hd : hdU b = 4 ∧ nU b < 63) : uG b = (0, [], 7, 0) := by
  unfold uG; rw [if_neg (by have := h.len; omega), dif_neg h.no, if_neg h.hd, if_pos hd]
theorem U3.bad (h : U3 b) (hd : 100 < nU b) : uG b = (0, [], 2, 0) := by
  unfold uG; rw [if_neg (by have := h.len; omega), dif_neg h.no, if_neg h.hd, if_neg h.form, if_pos hd]
theorem U4.bad (h : U4 b) (hd : b.length ≠ szU b) : uG b = (0, [], 1, ((min b.length (szU b) : Nat) : Int)) := by
  unfold uG; rw [if_neg (by have := h.len; omega), dif_neg h.no, if_neg h.hd, if_neg h.form, if_neg h.few, if_pos hd]
theorem U5.bad (h : U5 b) (hd : PadU b) : uG b = (0, [], 7, ((b.length - 1 : Nat) : Int)) := by
  unfold uG; rw [if_neg (by have := h.len; omega), dif_neg h.no, if_neg h.hd, if_neg h.form, if_neg h.few, if_neg (by simpa using h.size), if_pos hd]
theorem U6.bad (h : U6 b) (hd : 1000 < (edgesU b).length) : uG b = (0, [], 2, 0) := by
  unfold uG; rw [if_neg (by have := h.len; omega), dif_neg h.no, if_neg h.hd, if_neg h.form, if_neg h.few, if_neg (by simpa using h.size), if_neg h.pad, if_pos hd]
theorem U6.good (h : U6 b) (hd : ¬ 1000 < (edgesU b).length) : uG b = (nU b, edgesU b, 0, 0) := by
  unfold uG; rw [if_neg (by have := h.len; omega), dif_neg h.no, if_neg h.hd, if_neg h.form, if_neg h.few, if_neg (by simpa using h.size), if_neg h.pad, if_neg hd]
end

/-! Edges column by column. -/
def colE (g : Nat → Nat → Bool) (j : Nat) : Nat → List (Int × Int)
  | 0 => []
  | i + 1 => colE g j i ++ if g i j then [((i : Int), (j : Int))] else []
def preE (g : Nat → Nat → Bool) : Nat → List (Int × Int)
  | 0 => []
  | j + 1 => preE g j ++ colE g j j
theorem mem_colE {g : Nat → Nat → Bool} {j : Nat} {e : Int × Int} : ∀ i, e ∈ colE g j i ↔ ∃ i' : Nat, i' < i ∧ g i' j = true ∧ e = ((i' : Int), (j : Int))
  | 0 => by simp [colE]
  | i + 1 => by
    rw [colE, List.mem_append, mem_colE i]
    constructor
    · rintro (⟨i', h1, h2, h3⟩ | h)
      · exact ⟨i', by omega, h2, h3⟩
      · cases hg : g i j with
        | true => rw [hg, if_pos rfl, List.mem_singleton] at h; exact ⟨i, by omega, hg, h⟩
        | false => rw [hg] at h; simp at h
    · rintro ⟨i', h1, h2, h3⟩
      by_cases e : i' = i
      · subst e; exact Or.inr (by rw [h2, if_pos rfl, List.mem_singleton]; exact h3)
      · exact Or.inl ⟨i', by omega, h2, h3⟩
theorem mem_preE {g : Nat → Nat → Bool} {e : Int × Int} : ∀ n, e ∈ preE g n ↔ ∃ i j : Nat, i < j ∧ j < n ∧ g i j = true ∧ e = ((i : Int), (j : Int))
  | 0 => by simp [preE]
  | n + 1 => by
    rw [preE, List.mem_append, mem_preE n, mem_colE]
    constructor
    · rintro (⟨i, j, h1, h2, h3⟩ | ⟨i, h1, h2, h3⟩)
      · exact ⟨i, j, h1, by omega, h3⟩
      · exact ⟨i, n, h1, by omega, h2, h3⟩
    · rintro ⟨i, j, h1, h2, h3⟩
      by_cases e : j = n
      · subst e; exact Or.inr ⟨i, h1, h3⟩
      · exact Or.inl ⟨i, j, h1, by omega, h3⟩
theorem colE_nodup (g : Nat → Nat → Bool) (j : Nat) : ∀ i, (colE g j i).Nodup
  | 0 => by simp [colE]
  | i + 1 => by
    rw [colE]
    refine List.nodup_append.2 ⟨colE_nodup g j i, by cases g i j <;> simp, fun a ha c hc e => ?_⟩
    obtain ⟨i', h1, -, h3⟩ := (mem_colE i).1 ha
    cases hg : g i j with
    | true =>
      rw [hg, if_pos rfl, List.mem_singleton] at hc
      rw [h3, hc] at e
      simp only [Prod.mk.injEq] at e
      omega
    | false => rw [hg] at hc; simp at hc
theorem preE_nodup (g : Nat → Nat → Bool) : ∀ n, (preE g n).Nodup
  | 0 => by simp [preE]
  | n + 1 => by
    rw [preE]
    refine List.nodup_append.2 ⟨preE_nodup g n, colE_nodup g n n, fun a ha c hc e => ?_⟩
    obtain ⟨i, j, -, h2, -, h3⟩ := (mem_preE n).1 ha
    obtain ⟨i', -, -, h4⟩ := (mem_colE n).1 hc
    rw [h3, h4] at e
    simp only [Prod.mk.injEq] at e
    omega
theorem colE_length (g : Nat → Nat → Bool) (j : Nat) : ∀ i, (colE g j i).length ≤ i
  | 0 => by simp [colE]
  | i + 1 => by
    have := colE_length g j i
    rw [colE, List.length_append]
    cases g i j <;> simp <;> omega
theorem preE_length (g : Nat → Nat → Bool) : ∀ n, (preE g n).length ≤ triN n
  | 0 => by simp [preE]
  | n + 1 => by
    have h1 := preE_length g n
    have h2 := colE_length g n n
    have h3 := triN_succ n
    rw [preE, List.length_append]
    omega
theorem preE_perm (g : Nat → Nat → Bool) (n : Nat) : (prsTo n g n).Perm (preE g n) :=
  (List.perm_ext_iff_of_nodup (rise_nodup (prsTo_rise _ _ _)) (preE_nodup g n)).2 fun e => by
    rw [mem_prsTo, mem_preE]
    constructor
    · rintro ⟨i, j, -, h2, h3, h4, h5⟩; exact ⟨i, j, h2, h3, h4, h5⟩
    · rintro ⟨i, j, h1, h2, h3, h4⟩; exact ⟨i, j, by omega, h1, h2, h3, h4⟩

end Go.Proofs.YtokjcapheogkoaaDoor
namespace Go.Proofs.YtokjcapheogkoaaDoor
open Go Go.RowKit

/-! Bits of columns. -/
theorem preB_len (G : Nat → Nat → Bool) (n : Nat) : (preB G n).length = triN n := by
  have h := preB_length G n
  unfold triN
  cases n with
  | zero => have : (preB G 0).length = 0 := rfl; simpa using this
  | succ n =>
    rw [Nat.add_sub_cancel]
    have e : (n + 1) * (n + 1) = (n + 1) * n + (n + 1) := Nat.mul_succ _ _
    omega
theorem colB_get (G : Nat → Nat → Bool) (j : Nat) : ∀ m i, i < m → (colB G j m).getD i false = G i j
  | 0, i, h => by omega
  | m + 1, i, h => by
    rw [colB]
    by_cases e : i < m
    · have := colB_get G j m i e
      rw [List.getD, List.getElem?_append_left (by rw [colB_length]; exact e)]
      exact this
    · have : i = m := by omega
      subst this
      rw [List.getD, List.getElem?_append_right (by rw [colB_length]; exact Nat.le_refl _), colB_length]
      simp
theorem preB_get (G : Nat → Nat → Bool) : ∀ n i j, i < j → j < n → (preB G n).getD (triN j + i) false = G i j
  | 0, i, j, _, h => by omega
  | n + 1, i, j, hij, h => by
    rw [preB]
    by_cases e : j < n
    · have h1 := preB_get G n i j hij e
      have h2 := tri_lt hij e
      rw [List.getD, List.getElem?_append_left (by rw [preB_len]; exact h2)]
      exact h1
    · have : j = n := by omega
      subst this
      rw [List.getD, List.getElem?_append_right (by rw [preB_len]; omega), preB_len, show triN j + i - triN j = i by omega]
      exact colB_get G j j i hij
theorem colB_congr {G G' : Nat → Nat → Bool} {j : Nat} : ∀ m, (∀ i, i < m → G i j = G' i j) → colB G j m = colB G' j m
  | 0, _ => rfl
  | m + 1, h => by rw [colB, colB, colB_congr m (fun i hi => h i (by omega)), h m (by omega)]
theorem preB_congr {G G' : Nat → Nat → Bool} : ∀ n, (∀ i j, i < j → j < n → G i j = G' i j) → preB G n = preB G' n
  | 0, _ => rfl
  | n + 1, h => by rw [preB, preB, preB_congr n (fun i j h1 h2 => h i j h1 (by omega)), colB_congr n (fun i hi => h i n hi (by omega))]
/-- Six bits and their number. -/
theorem v6_bit (l : List Bool) (q r : Nat) (hr : r < 6) : decide (v6 l q / 2 ^ (5 - r) % 2 = 1) = l.getD (6 * q + r) false := by
  have h0 := b01_le l (6 * q); have h1 := b01_le l (6 * q + 1); have h2 := b01_le l (6 * q + 2); have h3 := b01_le l (6 * q + 3); have h4 := b01_le l (6 * q + 4); have h5 := b01_le l (6 * q + 5)
  have key : v6 l q / 2 ^ (5 - r) % 2 = b01 l (6 * q + r) := by
    unfold v6
    match r, hr with
    | 0, _ => simp only [Nat.add_zero, Nat.sub_zero]; omega
    | 1, _ => simp only [show (5 : Nat) - 1 = 4 from rfl]; omega
    | 2, _ => simp only [show (5 : Nat) - 2 = 3 from rfl]; omega
    | 3, _ => simp only [show (5 : Nat) - 3 = 2 from rfl]; omega
    | 4, _ => simp only [show (5 : Nat) - 4 = 1 from rfl]; omega
    | 5, _ => simp only [show (5 : Nat) - 5 = 0 from rfl]; omega
  rw [key]
  unfold b01
  cases l.getD (6 * q + r) false <;> rfl
theorem v6_of {l : List Bool} {q c : Nat} (hc : c < 64) (h : ∀ r, r < 6 → l.getD (6 * q + r) false = decide (c / 2 ^ (5 - r) % 2 = 1)) : v6 l q = c := by
  have hb : ∀ r, r < 6 → b01 l (6 * q + r) = c / 2 ^ (5 - r) % 2 := fun r hr => by
    unfold b01
    rw [h r hr]
    have : c / 2 ^ (5 - r) % 2 < 2 := Nat.mod_lt _ (by omega)
    by_cases e : c / 2 ^ (5 - r) % 2 = 1
    · rw [e]; rfl
    · rw [decide_eq_false e]; show 0 = _; omega
  have h0 := hb 0 (by omega); have h1 := hb 1 (by omega); have h2 := hb 2 (by omega); have h3 := hb 3 (by omega); have h4 := hb 4 (by omega); have h5 := hb 5 (by omega)
  simp only [Nat.add_zero, Nat.sub_zero, show (5 : Nat) - 1 = 4 from rfl, show (5 : Nat) - 2 = 3 from rfl, show (5 : Nat) - 3 = 2 from rfl, show (5 : Nat) - 4 = 1 from rfl, show (5 : Nat) - 5 = 0 from rfl] at h0 h1 h2 h3 h4 h5
  unfold v6
  rw [h0, h1, h2, h3, h4, h5]
  omega

/-! A code's bytes. -/
theorem bt_u8 {l : List Nat} {i : Nat} (hi : i < l.length) (h : l.getD i 0 < 256) : bt (u8L l) i = l.getD i 0 := by
  unfold bt u8L
  rw [List.getD, List.getElem?_map, List.getElem?_eq_getElem hi]
  simp only [List.getD, List.getElem?_eq_getElem hi, Option.getD_some, Option.map_some] at h ⊢
  rw [UInt8.toNat_ofNat']
  omega
theorem headN_len (n : Nat) : (headN n).length = if n < 63 then 1 else 4 := by unfold headN; split <;> rfl
theorem packN_len (n : Nat) (G : Nat → Nat → Bool) : (packN n G).length = (headN n).length + (triN n + 5) / 6 := by
  unfold packN
  rw [List.length_append, bodyN_length, preB_len]
theorem packN_head {n : Nat} {G : Nat → Nat → Bool} {i : Nat} (h : i < (headN n).length) : (packN n G).getD i 0 = (headN n).getD i 0 := by
  unfold packN
  rw [List.getD, List.getElem?_append_left h]; rfl
theorem packN_body {n : Nat} {G : Nat → Nat → Bool} {q : Nat} (h : q < (triN n + 5) / 6) : (packN n G).getD ((headN n).length + q) 0 = 63 + v6 (preB G n) q := by
  unfold packN
  rw [List.getD, List.getElem?_append_right (by omega), show (headN n).length + q - (headN n).length = q by omega]
  unfold bodyN
  rw [List.getElem?_map, preB_len, List.getElem?_eq_getElem (by simpa using h)]
  simp
section
variable {n : Nat} {G : Nat → Nat → Bool} (hn : n ≤ 100)
include hn
theorem headN_ok {i : Nat} (h : i < (headN n).length) : 63 ≤ (headN n).getD i 0 ∧ (headN n).getD i 0 ≤ 126 := by
  unfold headN at h ⊢
  by_cases e : n < 63
  · rw [if_pos e] at h ⊢
    simp only [List.length_singleton] at h
    obtain rfl : i = 0 := by omega
    simp only [List.getD_cons_zero]; omega
  · rw [if_neg e] at h ⊢
    simp only [List.length_cons, List.length_nil] at h
    match i, h with
    | 0, _ => simp
    | 1, _ => simp
    | 2, _ => simp; omega
    | 3, _ => simp; omega
theorem packN_ok {i : Nat} (h : i < (packN n G).length) : 63 ≤ (packN n G).getD i 0 ∧ (packN n G).getD i 0 ≤ 126 := by
  by_cases e : i < (headN n).length
  · rw [packN_head e]; exact headN_ok hn e
  · rw [packN_len] at h
    obtain ⟨q, hq⟩ : ∃ q, i = (headN n).length + q := ⟨i - (headN n).length, by omega⟩
    subst hq
    rw [packN_body (by omega)]
    have := v6_le (preB G n) q
    omega
theorem pack_bt {i : Nat} (h : i < (packN n G).length) : bt (u8L (packN n G)) i = (packN n G).getD i 0 := bt_u8 h (by have := packN_ok hn h; omega)
omit hn in
theorem pack_len : (u8L (packN n G)).length = (headN n).length + (triN n + 5) / 6 := by
  unfold u8L
  rw [List.length_map, packN_len]
theorem pack_has : hasB (u8L (packN n G)) 0 126 ↔ ¬ n < 63 := by
  have hl := headN_len n
  have h0 : 0 < (headN n).length := by rw [hl]; split <;> omega
  have h1 : 0 < (packN n G).length := by rw [packN_len]; omega
  unfold hasB
  rw [pack_bt hn h1, packN_head h0, pack_len]
  unfold headN
  by_cases e : n < 63
  · rw [if_pos e]; simp; omega
  · rw [if_neg e]; simp; omega
theorem pack_hd : hdU (u8L (packN n G)) = (headN n).length := by
  unfold hdU
  rw [headN_len]
  by_cases e : n < 63
  · rw [if_neg (fun h => (pack_has hn).1 h e), if_pos e]
  · rw [if_pos ((pack_has hn).2 e), if_neg e]
theorem pack_n : nU (u8L (packN n G)) = n := by
  have hl := headN_len n
  have h1 : ∀ i, i < (headN n).length → bt (u8L (packN n G)) i = (headN n).getD i 0 := fun i hi => by
    rw [pack_bt hn (by rw [packN_len]; omega), packN_head hi]
  unfold nU
  by_cases e : n < 63
  · rw [if_pos e] at hl
    rw [if_neg (fun h => (pack_has hn).1 h e), h1 0 (by omega)]
    unfold headN
    rw [if_pos e]
    simp
  · rw [if_neg e] at hl
    rw [if_pos ((pack_has hn).2 e), h1 1 (by omega), h1 2 (by omega), h1 3 (by omega)]
    unfold headN
    rw [if_neg e]
    simp
    omega
theorem pack_bit {k : Nat} (hk : k < 6 * ((triN n + 5) / 6)) : bitU (u8L (packN n G)) (headN n).length k = (preB G n).getD k false := by
  unfold bitU
  have hq : k / 6 < (triN n + 5) / 6 := by omega
  rw [pack_bt hn (by rw [packN_len]; omega), packN_body hq, show 63 + v6 (preB G n) (k / 6) - 63 = v6 (preB G n) (k / 6) by omega, v6_bit _ _ _ (Nat.mod_lt _ (by omega)), show 6 * (k / 6) + k % 6 = k by omega]
theorem pack_edges : edgesU (u8L (packN n G)) = prsTo n G n := by
  unfold edgesU
  rw [pack_n hn]
  refine prsTo_congr (fun i j hij hj => ?_) _
  unfold gU
  have h := tri_lt hij hj
  rw [pack_hd hn, pack_bit hn (by omega), preB_get G n i j hij hj]
theorem pack_U6 : U6 (u8L (packN n G)) where
  len := by
    have h1 := triN_le hn
    rw [pack_len, headN_len]
    split <;> omega
  ok := fun i hi => by
    have hi' : i < (packN n G).length := by unfold u8L at hi; rwa [List.length_map] at hi
    rw [pack_bt hn hi']
    exact packN_ok hn hi'
  hd := by rw [pack_len, pack_hd hn]; omega
  form := fun h => by
    rw [pack_hd hn, pack_n hn, headN_len] at h
    by_cases e : n < 63
    · rw [if_pos e] at h; omega
    · omega
  few := by rw [pack_n hn]; omega
  size := by unfold szU; rw [pack_len, pack_hd hn, pack_n hn]
  pad := fun ⟨k, h1, h2, h3⟩ => by
    rw [pack_n hn] at h1 h2
    rw [pack_hd hn, pack_bit hn h2, List.getD, List.getElem?_eq_none (by rw [preB_len]; exact h1)] at h3
    cases h3
/-- What is packed is read as it was. -/
theorem pack_back (hl : (prsTo n G n).length ≤ 1000) : uG (u8L (packN n G)) = (n, prsTo n G n, 0, 0) := by
  have h := (pack_U6 (G := G) hn).good (by rw [pack_edges hn]; omega)
  rw [h, pack_n hn, pack_edges hn]
end
/-- Each code that is read is written so. -/
theorem back_pack {b : List UInt8} (h : U6 b) {G : Nat → Nat → Bool} (hG : ∀ i j, i < j → j < nU b → G i j = gU b i j) : u8L (packN (nU b) G) = b := by
  have hn : nU b ≤ 100 := by have := h.few; omega
  have hlen := h.size
  have hhd := h.hd
  have hform := h.form
  have hhead : (headN (nU b)).length = hdU b ∧ ∀ i, i < hdU b → (headN (nU b)).getD i 0 = bt b i := by
    have h0 := h.hd
    by_cases e : hasB b 0 126
    · have hd4 : hdU b = 4 := if_pos e
      have hnn : nU b = (bt b 1 - 63) * 4096 + (bt b 2 - 63) * 64 + (bt b 3 - 63) := if_pos e
      rw [hd4] at h0 hform ⊢
      have o1 := h.ok 1 (by omega); have o2 := h.ok 2 (by omega); have o3 := h.ok 3 (by omega)
      unfold okB at o1 o2 o3
      have h63 : ¬ nU b < 63 := fun h => hform ⟨rfl, h⟩
      refine ⟨by rw [headN_len, if_neg h63], fun i hi => ?_⟩
      unfold headN
      rw [if_neg h63]
      have e0 := e.2
      match i, hi with
      | 0, _ => simp; omega
      | 1, _ => simp; omega
      | 2, _ => simp; omega
      | 3, _ => simp; omega
    · have hd1 : hdU b = 1 := if_neg e
      have hnn : nU b = bt b 0 - 63 := if_neg e
      rw [hd1] at h0 ⊢
      have o0 := h.ok 0 (by omega)
      unfold okB at o0
      have hne : bt b 0 ≠ 126 := fun h' => e ⟨by omega, h'⟩
      have h63 : nU b < 63 := by omega
      refine ⟨by rw [headN_len, if_pos h63], fun i hi => ?_⟩
      unfold headN
      rw [if_pos h63]
      obtain rfl : i = 0 := by omega
      simp; omega
  have hll : (packN (nU b) G).length = b.length := by rw [packN_len, hhead.1, hlen]; rfl
  have hbits : ∀ k, k < 6 * ((triN (nU b) + 5) / 6) → (preB G (nU b)).getD k false = bitU b (hdU b) k := fun k hk => by
    by_cases hk2 : k < triN (nU b)
    · have e1 : preB G (nU b) = preB (gU b) (nU b) := preB_congr _ hG
      have key : ∀ n, k < triN n → ∃ i j, i < j ∧ j < n ∧ k = triN j + i := by
        intro n
        induction n with
        | zero => intro h; exact absurd h (Nat.not_lt_zero _)
        | succ n ih =>
          intro h
          by_cases e : k < triN n
          · obtain ⟨i, j, h1, h2, h3⟩ := ih e
            exact ⟨i, j, h1, by omega, h3⟩
          · have := triN_succ n
            exact ⟨k - triN n, n, by omega, by omega, by omega⟩
      obtain ⟨i, j, h1, h2, h3⟩ := key _ hk2
      rw [e1, h3, preB_get _ _ _ _ h1 h2]
      rfl
    · rw [List.getD, List.getElem?_eq_none (by rw [preB_len]; omega)]
      cases hb : bitU b (hdU b) k with
      | false => rfl
      | true => exact absurd ⟨k, by omega, hk, hb⟩ h.pad
  refine List.ext_getElem (by unfold u8L; rw [List.length_map, hll]) fun i h1 h2 => ?_
  have hi : i < (packN (nU b) G).length := by rw [hll]; exact h2
  have hbt : bt b i = b[i].toNat := by unfold bt; simp [List.getD, h2]
  have hval : (packN (nU b) G).getD i 0 = bt b i := by
    by_cases e : i < hdU b
    · rw [packN_head (by rw [hhead.1]; exact e), hhead.2 i e]
    · obtain ⟨q, hq⟩ : ∃ q, i = hdU b + q := ⟨i - hdU b, by omega⟩
      have hq2 : q < (triN (nU b) + 5) / 6 := by
        rw [packN_len, hhead.1] at hi; omega
      have ok := h.ok i h2
      unfold okB at ok
      have := packN_body (n := nU b) (G := G) hq2
      rw [hhead.1, ← hq] at this
      rw [this, v6_of (c := bt b i - 63) (by omega) fun r hr => by
        rw [hbits _ (by omega)]
        unfold bitU
        rw [show (6 * q + r) / 6 = q by omega, show (6 * q + r) % 6 = r by omega, ← hq]]
      omega
  have hg : (packN (nU b) G)[i] = (packN (nU b) G).getD i 0 := by simp [List.getD, hi]
  have : (u8L (packN (nU b) G))[i] = UInt8.ofNat ((packN (nU b) G)[i]) := by simp [u8L]
  rw [this, hg, hval, hbt]
  simp

end Go.Proofs.YtokjcapheogkoaaDoor
namespace Go.Proofs.YtokjcapheogkoaaDoor
open Go Go.RowKit

def dgt (k : Nat) : UInt8 := UInt8.ofNat (48 + k)
theorem dgt_nat {k : Nat} (h : k < 10) : (dgt k).toNat = 48 + k := by unfold dgt; rw [UInt8.toNat_ofNat']; omega
theorem dig_one {m : Nat} (h : m < 10) : Lib.decDigits m = [dgt m] := by rw [Lib.decDigits, dif_pos h]; rfl
theorem dig_two {m : Nat} (h : 10 ≤ m) (h2 : m < 100) : Lib.decDigits m = [dgt (m / 10), dgt (m % 10)] := by
  rw [Lib.decDigits, dif_neg (by omega), dig_one (show m / 10 < 10 by omega)]; rfl
theorem dig_three {m : Nat} (h : 100 ≤ m) (h2 : m < 1000) : Lib.decDigits m = [dgt (m / 10 / 10), dgt (m / 10 % 10), dgt (m % 10)] := by
  rw [Lib.decDigits, dif_neg (by omega), dig_two (show 10 ≤ m / 10 by omega) (by omega)]; rfl
theorem bt_app (pre x : List UInt8) (j : Nat) : bt (pre ++ x) (pre.length + j) = bt x j := by
  unfold bt
  rw [List.getD, List.getElem?_append_right (by omega), show pre.length + j - pre.length = j by omega]; rfl
theorem bt_zero (c : UInt8) (l : List UInt8) : bt (c :: l) 0 = c.toNat := rfl
theorem bt_next (c : UInt8) (l : List UInt8) (j : Nat) : bt (c :: l) (j + 1) = bt l j := rfl
/-- A number that was printed is read. -/
theorem num_at {b pre rest : List UInt8} {c : UInt8} {m : Nat} (hm : m < 1000) (hc : ¬ digB c.toNat) (hb : b = pre ++ (Lib.decDigits m ++ c :: rest)) :
    ¬ noNum b pre.length ∧ numV b pre.length = m ∧ numE b pre.length = pre.length + (Lib.decDigits m).length ∧ hasB b (pre.length + (Lib.decDigits m).length) c.toNat := by
  have hbt : ∀ j, bt b (pre.length + j) = bt (Lib.decDigits m ++ c :: rest) j := fun j => by rw [hb, bt_app]
  have hlen : b.length = pre.length + ((Lib.decDigits m).length + (1 + rest.length)) := by rw [hb]; simp; omega
  have fin : ∀ k, (Lib.decDigits m).length = k → IsRun b pre.length k → valN b pre.length k = m → ¬ BadRun b pre.length k → bt b (pre.length + k) = c.toNat →
      ¬ noNum b pre.length ∧ numV b pre.length = m ∧ numE b pre.length = pre.length + (Lib.decDigits m).length ∧ hasB b (pre.length + (Lib.decDigits m).length) c.toNat := fun k h1 h2 h3 h4 h5 => by
    unfold noNum numV numE hasB
    rw [h2.rl, h1]
    exact ⟨h4, h3, rfl, by omega, h5⟩
  by_cases h1 : m < 10
  · have e := dig_one h1
    have l : (Lib.decDigits m).length = 1 := by rw [e]; rfl
    rw [e] at hbt
    simp only [List.cons_append, List.nil_append] at hbt
    have b0 := (hbt 0).trans (bt_zero _ _)
    have b1 := (hbt 1).trans ((bt_next _ _ 0).trans (bt_zero _ _))
    rw [dgt_nat h1] at b0
    refine fin 1 l ⟨fun j hj => ?_, fun _ => by rw [b1]; exact hc⟩ ?_ ?_ b1
    · obtain rfl : j = 0 := by omega
      exact ⟨by omega, by rw [b0]; unfold digB; omega⟩
    · simp only [valN]; rw [b0]; omega
    · unfold BadRun; omega
  · by_cases h2 : m < 100
    · have e := dig_two (by omega) h2
      have l : (Lib.decDigits m).length = 2 := by rw [e]; rfl
      rw [e] at hbt
      simp only [List.cons_append, List.nil_append] at hbt
      have b0 := (hbt 0).trans (bt_zero _ _)
      have b1 := (hbt 1).trans ((bt_next _ _ 0).trans (bt_zero _ _))
      have b2 := (hbt 2).trans ((bt_next _ _ 1).trans ((bt_next _ _ 0).trans (bt_zero _ _)))
      rw [dgt_nat (by omega)] at b0 b1
      refine fin 2 l ⟨fun j hj => ?_, fun _ => by rw [b2]; exact hc⟩ ?_ ?_ b2
      · match j, hj with
        | 0, _ => exact ⟨by omega, by rw [b0]; unfold digB; omega⟩
        | 1, _ => exact ⟨by omega, by rw [b1]; unfold digB; omega⟩
      · simp only [valN]; rw [b0, b1]; omega
      · have b0' : bt b pre.length = 48 + m / 10 := b0
        unfold BadRun; rw [b0']; omega
    · have e := dig_three (by omega) hm
      have l : (Lib.decDigits m).length = 3 := by rw [e]; rfl
      rw [e] at hbt
      simp only [List.cons_append, List.nil_append] at hbt
      have b0 := (hbt 0).trans (bt_zero _ _)
      have b1 := (hbt 1).trans ((bt_next _ _ 0).trans (bt_zero _ _))
      have b2 := (hbt 2).trans ((bt_next _ _ 1).trans ((bt_next _ _ 0).trans (bt_zero _ _)))
      have b3 := (hbt 3).trans ((bt_next _ _ 2).trans ((bt_next _ _ 1).trans ((bt_next _ _ 0).trans (bt_zero _ _))))
      rw [dgt_nat (by omega)] at b0 b1 b2
      refine fin 3 l ⟨fun j hj => ?_, fun _ => by rw [b3]; exact hc⟩ ?_ ?_ b3
      · match j, hj with
        | 0, _ => exact ⟨by omega, by rw [b0]; unfold digB; omega⟩
        | 1, _ => exact ⟨by omega, by rw [b1]; unfold digB; omega⟩
        | 2, _ => exact ⟨by omega, by rw [b2]; unfold digB; omega⟩
      · simp only [valN]; rw [b0, b1, b2]; omega
      · have b0' : bt b pre.length = 48 + m / 10 / 10 := b0
        unfold BadRun; rw [b0']; omega

theorem tail_form (L : List (Int × Int)) : ∃ c rest, L.flatMap txtE ++ [10] = c :: rest ∧ ¬ digB (UInt8.toNat c) := by
  cases L with
  | nil => exact ⟨10, [], rfl, by decide⟩
  | cons e L => exact ⟨32, _, by rw [List.flatMap_cons]; unfold txtE; rfl, by decide⟩
theorem lines_at {b : List UInt8} : ∀ (L : List (Int × Int)) (pre : List UInt8) (acc : List (Int × Int)), b = pre ++ (L.flatMap txtE ++ [10]) →
    (∀ e ∈ L, 0 ≤ e.1 ∧ 0 ≤ e.2 ∧ e.1.toNat < 1000 ∧ e.2.toNat < 1000) → AtLine b pre.length acc → readG b = .inr (acc ++ L)
  | [], pre, acc, hb, _, hat => by
    have hl : b.length = pre.length + 1 := by rw [hb]; simp
    have h10 : hasB b pre.length 10 := ⟨by omega, by
      have := bt_app pre [10] 0
      rw [Nat.add_zero] at this
      rw [hb]; exact this⟩
    rw [List.append_nil]
    exact hat.last (by omega) h10 (by omega)
  | (x, y) :: L, pre, acc, hb, hL, hat => by
    obtain ⟨hx0, hy0, hx, hy⟩ := hL (x, y) (by simp)
    simp only at hx0 hy0 hx hy
    obtain ⟨c, rest, hc, hnd⟩ := tail_form L
    have hb1 : b = pre ++ ([32] ++ (Lib.decDigits x.toNat ++ (45 :: (Lib.decDigits y.toNat ++ (L.flatMap txtE ++ [10]))))) := by
      rw [hb, List.flatMap_cons]; unfold txtE; simp
    have h32 : hasB b pre.length 32 := ⟨by rw [hb1]; simp, by
      have := bt_app pre ([32] ++ (Lib.decDigits x.toNat ++ (45 :: (Lib.decDigits y.toNat ++ (L.flatMap txtE ++ [10]))))) 0
      rw [Nat.add_zero] at this
      rw [hb1]; exact this⟩
    have hpl : pre.length ≤ b.length := by have := h32.1; omega
    obtain ⟨n1, n2, n3, n4⟩ := num_at (b := b) (pre := pre ++ [32]) (c := 45) (rest := Lib.decDigits y.toNat ++ (L.flatMap txtE ++ [10])) hx (by decide) (by rw [hb1]; simp)
    have hl1 : (pre ++ [32]).length = pre.length + 1 := by simp
    rw [hl1] at n1 n2 n3 n4
    have hb2 : b = (pre ++ [32] ++ Lib.decDigits x.toNat ++ [45]) ++ (Lib.decDigits y.toNat ++ c :: rest) := by rw [hb1, ← hc]; simp
    obtain ⟨m1, m2, m3, -⟩ := num_at hy hnd hb2
    have hl2 : (pre ++ [32] ++ Lib.decDigits x.toNat ++ [45]).length = numE b (pre.length + 1) + 1 := by rw [n3]; simp; omega
    rw [hl2] at m1 m2 m3
    have hnx := hat.next hpl h32 n1 (by rw [n3]; exact n4) m1
    rw [n2, m2, Int.toNat_of_nonneg hx0, Int.toNat_of_nonneg hy0] at hnx
    have hl3 : (pre ++ [32] ++ Lib.decDigits x.toNat ++ [45] ++ Lib.decDigits y.toNat).length = numE b (numE b (pre.length + 1) + 1) := by
      rw [m3, List.length_append, hl2]
    rw [← hl3] at hnx
    have := lines_at L (pre ++ [32] ++ Lib.decDigits x.toNat ++ [45] ++ Lib.decDigits y.toNat) (acc ++ [(x, y)]) (by rw [hb2, hc]; simp) (fun e he => hL e (by simp [he])) hnx
    rw [this]
    simp
/-- What is printed is read as it was. -/
theorem text_back {N : Nat} {L : List (Int × Int)} (hN : N < 1000) (hL : ∀ e ∈ L, 0 ≤ e.1 ∧ 0 ≤ e.2 ∧ e.1.toNat < 1000 ∧ e.2.toNat < 1000) : readG (txtN N L) = .inr L ∧ numV (txtN N L) 0 = N := by
  have hb : txtN N L = [] ++ (Lib.decDigits N ++ 58 :: (L.flatMap txtE ++ [10])) := rfl
  obtain ⟨n1, n2, n3, n4⟩ := num_at hN (by decide) hb
  simp only [List.length_nil, Nat.zero_add] at n1 n2 n3 n4
  refine ⟨?_, n2⟩
  have hst := AtLine.start n1 (by rw [n3]; exact n4)
  have hl : (Lib.decDigits N ++ [58]).length = numE (txtN N L) 0 + 1 := by rw [n3]; simp
  rw [← hl] at hst
  have := lines_at L (Lib.decDigits N ++ [58]) [] (by unfold txtN; simp) hL hst
  simpa using this

end Go.Proofs.YtokjcapheogkoaaDoor
