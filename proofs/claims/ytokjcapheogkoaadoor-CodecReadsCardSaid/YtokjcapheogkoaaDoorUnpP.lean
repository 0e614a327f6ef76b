/- What a code of bytes tells: plain. No program in sight. -/
import Derived.Test.YtokjcapheogkoaaDoorReadP
import Derived.Test.YtokjcapheogkoaaDoorLex
namespace Go.Proofs.YtokjcapheogkoaaDoor
open Go Go.RowKit

def triN (n : Nat) : Nat := n * (n - 1) / 2
theorem mul_pred (n : Nat) : (n + 1) * (n + 1 - 1) = n * (n - 1) + 2 * n := by
  cases n with
  | zero => rfl
  | succ n => have h := Nat.mul_succ (n + 1) n; rw [Nat.add_sub_cancel, Nat.add_sub_cancel, Nat.succ_mul]; rw [Nat.succ_eq_add_one] at h; omega
theorem triN_succ (n : Nat) : triN (n + 1) = triN n + n := by
  unfold triN
  rw [mul_pred]
  omega
theorem triN_le {n : Nat} (h : n ≤ 100) : triN n ≤ 4950 := by
  unfold triN
  have : n * (n - 1) ≤ 100 * 99 := Nat.mul_le_mul h (by omega)
  omega
theorem triN_mono {n m : Nat} (h : n ≤ m) : triN n ≤ triN m := by
  unfold triN
  have : n * (n - 1) ≤ m * (m - 1) := Nat.mul_le_mul h (by omega)
  omega
theorem tri_lt {i j n : Nat} (hij : i < j) (hj : j < n) : triN j + i < triN n := by
  have h1 := triN_succ j
  have h2 := triN_mono (show j + 1 ≤ n by omega)
  omega

def okB (x : Nat) : Prop := 63 ≤ x ∧ x ≤ 126
instance (x : Nat) : Decidable (okB x) := by unfold okB; infer_instance
/-- The first byte that is none of a code. -/
def BadAt (b : List UInt8) (i : Nat) : Prop := i < b.length ∧ ¬ okB (bt b i) ∧ ∀ j, j < i → okB (bt b j)
theorem BadAt.uniq {b : List UInt8} {i j : Nat} (h : BadAt b i) (k : BadAt b j) : i = j := by
  rcases Nat.lt_trichotomy i j with e | e | e
  · exact absurd (k.2.2 i e) h.2.1
  · exact e
  · exact absurd (h.2.2 j e) k.2.1
def hdU (b : List UInt8) : Nat := if hasB b 0 126 then 4 else 1
def nU (b : List UInt8) : Nat := if hasB b 0 126 then (bt b 1 - 63) * 4096 + (bt b 2 - 63) * 64 + (bt b 3 - 63) else bt b 0 - 63
def szU (b : List UInt8) : Nat := hdU b + (triN (nU b) + 5) / 6
def bitU (b : List UInt8) (h k : Nat) : Bool := decide ((bt b (h + k / 6) - 63) / 2 ^ (5 - k % 6) % 2 = 1)
def gU (b : List UInt8) (i j : Nat) : Bool := bitU b (hdU b) (triN j + i)
def edgesU (b : List UInt8) : List (Int × Int) := prsTo (nU b) (gU b) (nU b)
/-- A bit beyond the last pair. -/
def PadU (b : List UInt8) : Prop := ∃ k, triN (nU b) ≤ k ∧ k < 6 * ((triN (nU b) + 5) / 6) ∧ bitU b (hdU b) k = true

open Classical in
noncomputable def uG (b : List UInt8) : Nat × List (Int × Int) × Int × Int :=
  if 20000 < b.length then (0, [], 2, 0)
  else if h : ∃ i, BadAt b i then (0, [], 1, (Classical.choose h : Nat))
  else if b.length < hdU b then (0, [], 1, (b.length : Nat))
  else if hdU b = 4 ∧ nU b < 63 then (0, [], 7, 0)
  else if 100 < nU b then (0, [], 2, 0)
  else if b.length ≠ szU b then (0, [], 1, (min b.length (szU b) : Nat))
  else if PadU b then (0, [], 7, (b.length - 1 : Nat))
  else if 1000 < (edgesU b).length then (0, [], 2, 0)
  else (nU b, edgesU b, 0, 0)
/-- How far the checks have come. -/
structure U1 (b : List UInt8) : Prop where
  len : b.length ≤ 20000
  ok : ∀ i, i < b.length → okB (bt b i)
theorem U1.no {b : List UInt8} (h : U1 b) : ¬ ∃ i, BadAt b i := fun ⟨i, h1, h2, _⟩ => h2 (h.ok i h1)
structure U2 (b : List UInt8) : Prop extends U1 b where
  hd : ¬ b.length < hdU b
structure U3 (b : List UInt8) : Prop extends U2 b where
  form : ¬ (hdU b = 4 ∧ nU b < 63)
structure U4 (b : List UInt8) : Prop extends U3 b where
  few : ¬ 100 < nU b
structure U5 (b : List UInt8) : Prop extends U4 b where
  size : b.length = szU b
structure U6 (b : List UInt8) : Prop extends U5 b where
  pad : ¬ PadU b
section
variable {b : List UInt8}
theorem uG_many (h : 20000 < b.length) : uG b = (0, [], 2, 0) := by unfold uG; rw [if_pos h]
theorem uG_byte (h : b.length ≤ 20000) {i : Nat} (hi : BadAt b i) : uG b = (0, [], 1, (i : Int)) := by
  have hx : ∃ i, BadAt b i := ⟨i, hi⟩
  unfold uG
  rw [if_neg (by omega), dif_pos hx, (Classical.choose_spec hx).uniq hi]
theorem U1.short (h : U1 b) (hd : b.length < hdU b) : uG b = (0, [], 1, (b.length : Int)) := by
  unfold uG; rw [if_neg (by have := h.len; omega), dif_neg h.no, if_pos hd]
theorem U2.bad (h : U2 b) (hd : hdU b = 4 ∧ nU b < 63) : uG b = (0, [], 7, 0) := by
  unfold uG; rw [if_neg (by have := h.len; omega), dif_neg h.no, if_neg h.hd, if_pos hd]
theorem U3.bad (h : U3 b) (hd : 100 < nU b) : uG b = (0, [], 2, 0) := by
  unfold uG; rw [if_neg (by have := h.len; omega), dif_neg h.no, if_neg h.hd, if_neg h.form, if_pos hd]
theorem U4.bad (h : U4 b) (hd : b.length ≠ szU b) : uG b = (0, [], 1, ((min b.length (szU b) : Nat) : Int)) := by
  unfold uG; rw [if_neg (by have := h.len; omega), dif_neg h.no, if_neg h.hd, if_neg h.form, if_neg h.few, if_pos hd]
theorem U5.bad (h : U5 b) (hd : PadU b) : uG b = (0, [], 7, ((b.length - 1 : Nat) : Int)) := by
  unfold uG; rw [if_neg (by have := h.len; omega), dif_neg h.no, if_neg h.hd, if_neg h.form, if_neg h.few, if_neg (by simpa using h.size), if_pos hd]
theorem U6.bad (h : U6 b) (hd : 1000 < (edgesU b).length) : uG b = (0, [], 2, 0) := by
  unfold uG; rw [if_neg (by have := h.len; omega), dif_neg h.no, if_neg h.hd, if_neg h.form, if_neg h.few, if_neg (by simpa using h.size), if_neg h.pad, if_pos hd]
theorem U6.good (h : U6 b) (hd : ¬ 1000 < (edgesU b).length) : uG b = (nU b, edgesU b, 0, 0) := by
  unfold uG; rw [if_neg (by have := h.len; omega), dif_neg h.no, if_neg h.hd, if_neg h.form, if_neg h.few, if_neg (by simpa using h.size), if_neg h.pad, if_neg hd]
end

/-! Edges column by column. -/
def colE (g : Nat → Nat → Bool) (j : Nat) : Nat → List (Int × Int)
  | 0 => []
  | i + 1 => colE g j i ++ if g i j then [((i : Int), (j : Int))] else []
def preE (g : Nat → Nat → Bool) : Nat → List (Int × Int)
  | 0 => []
  | j + 1 => preE g j ++ colE g j j
theorem mem_colE {g : Nat → Nat → Bool} {j : Nat} {e : Int × Int} : ∀ i, e ∈ colE g j i ↔ ∃ i' : Nat, i' < i ∧ g i' j = true ∧ e = ((i' : Int), (j : Int))
  | 0 => by simp [colE]
  | i + 1 => by
    rw [colE, List.mem_append, mem_colE i]
    constructor
    · rintro (⟨i', h1, h2, h3⟩ | h)
      · exact ⟨i', by omega, h2, h3⟩
      · cases hg : g i j with
        | true => rw [hg, if_pos rfl, List.mem_singleton] at h; exact ⟨i, by omega, hg, h⟩
        | false => rw [hg] at h; simp at h
    · rintro ⟨i', h1, h2, h3⟩
      by_cases e : i' = i
      · subst e; exact Or.inr (by rw [h2, if_pos rfl, List.mem_singleton]; exact h3)
      · exact Or.inl ⟨i', by omega, h2, h3⟩
theorem mem_preE {g : Nat → Nat → Bool} {e : Int × Int} : ∀ n, e ∈ preE g n ↔ ∃ i j : Nat, i < j ∧ j < n ∧ g i j = true ∧ e = ((i : Int), (j : Int))
  | 0 => by simp [preE]
  | n + 1 => by
    rw [preE, List.mem_append, mem_preE n, mem_colE]
    constructor
    · rintro (⟨i, j, h1, h2, h3⟩ | ⟨i, h1, h2, h3⟩)
      · exact ⟨i, j, h1, by omega, h3⟩
      · exact ⟨i, n, h1, by omega, h2, h3⟩
    · rintro ⟨i, j, h1, h2, h3⟩
      by_cases e : j = n
      · subst e; exact Or.inr ⟨i, h1, h3⟩
      · exact Or.inl ⟨i, j, h1, by omega, h3⟩
theorem colE_nodup (g : Nat → Nat → Bool) (j : Nat) : ∀ i, (colE g j i).Nodup
  | 0 => by simp [colE]
  | i + 1 => by
    rw [colE]
    refine List.nodup_append.2 ⟨colE_nodup g j i, by cases g i j <;> simp, fun a ha c hc e => ?_⟩
    obtain ⟨i', h1, -, h3⟩ := (mem_colE i).1 ha
    cases hg : g i j with
    | true =>
      rw [hg, if_pos rfl, List.mem_singleton] at hc
      rw [h3, hc] at e
      simp only [Prod.mk.injEq] at e
      omega
    | false => rw [hg] at hc; simp at hc
theorem preE_nodup (g : Nat → Nat → Bool) : ∀ n, (preE g n).Nodup
  | 0 => by simp [preE]
  | n + 1 => by
    rw [preE]
    refine List.nodup_append.2 ⟨preE_nodup g n, colE_nodup g n n, fun a ha c hc e => ?_⟩
    obtain ⟨i, j, -, h2, -, h3⟩ := (mem_preE n).1 ha
    obtain ⟨i', -, -, h4⟩ := (mem_colE n).1 hc
    rw [h3, h4] at e
    simp only [Prod.mk.injEq] at e
    omega
theorem colE_length (g : Nat → Nat → Bool) (j : Nat) : ∀ i, (colE g j i).length ≤ i
  | 0 => by simp [colE]
  | i + 1 => by
    have := colE_length g j i
    rw [colE, List.length_append]
    cases g i j <;> simp <;> omega
theorem preE_length (g : Nat → Nat → Bool) : ∀ n, (preE g n).length ≤ triN n
  | 0 => by simp [preE]
  | n + 1 => by
    have h1 := preE_length g n
    have h2 := colE_length g n n
    have h3 := triN_succ n
    rw [preE, List.length_append]
    omega
theorem preE_perm (g : Nat → Nat → Bool) (n : Nat) : (prsTo n g n).Perm (preE g n) :=
  (List.perm_ext_iff_of_nodup (rise_nodup (prsTo_rise _ _ _)) (preE_nodup g n)).2 fun e => by
    rw [mem_prsTo, mem_preE]
    constructor
    · rintro ⟨i, j, -, h2, h3, h4, h5⟩; exact ⟨i, j, h2, h3, h4, h5⟩
    · rintro ⟨i, j, h1, h2, h3, h4⟩; exact ⟨i, j, by omega, h1, h2, h3, h4⟩

end Go.Proofs.YtokjcapheogkoaaDoor
