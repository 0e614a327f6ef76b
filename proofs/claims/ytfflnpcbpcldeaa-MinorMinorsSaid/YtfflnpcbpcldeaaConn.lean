/- Which sets of nodes hang together. No program in sight. -/
import Derived.Test.YtfflnpcbpcldeaaSub
namespace Go.Proofs.Ytfflnpcbpcldeaa
open Go Go.RowKit

/-- Within s one comes from a to b. -/
inductive Conn (m : Nat → Nat) (s : Nat) (a : Nat) : Nat → Prop
  | refl : Conn m s a a
  | step {b c : Nat} : Conn m s a b → s.testBit c = true → (m b).testBit c = true → Conn m s a c
theorem Conn.trans {m : Nat → Nat} {s a b c : Nat} (h : Conn m s a b) (k : Conn m s b c) : Conn m s a c := by
  induction k with
  | refl => exact h
  | step _ h1 h2 ih => exact .step ih h1 h2
theorem Conn.one {m : Nat → Nat} {s a b : Nat} (h1 : s.testBit b = true) (h2 : (m a).testBit b = true) : Conn m s a b := .step .refl h1 h2
theorem Conn.inside {m : Nat → Nat} {s a b : Nat} (h : Conn m s a b) (ha : s.testBit a = true) : s.testBit b = true := by
  cases h with
  | refl => exact ha
  | step _ h1 _ => exact h1
theorem Conn.symm {m : Nat → Nat} {s a b : Nat} (hm : ∀ x y, s.testBit x = true → s.testBit y = true → (m x).testBit y = true → (m y).testBit x = true) (ha : s.testBit a = true) (h : Conn m s a b) : Conn m s b a := by
  induction h with
  | refl => exact .refl
  | @step b c h1 h2 h3 ih => exact (Conn.one (h1.inside ha) (hm _ _ (h1.inside ha) h2 h3)).trans ih

/-- A set that hangs together. -/
def Whole (m : Nat → Nat) (s : Nat) : Prop := s ≠ 0 ∧ ∀ a b, s.testBit a = true → s.testBit b = true → Conn m s a b
open Classical in
noncomputable def wholeB (m : Nat → Nat) (s : Nat) : Bool := decide (Whole m s)
theorem wholeB_iff {m : Nat → Nat} {s : Nat} : wholeB m s = true ↔ Whole m s := by unfold wholeB; simp

/-- What is near a set. -/
def bes (m : Nat → Nat) (s : Nat) : Nat → Nat
  | 0 => 0
  | v + 1 => if s.testBit v then lor (bes m s v) (m v) else bes m s v
theorem bes_bit {m : Nat → Nat} {s j : Nat} : ∀ {n}, (bes m s n).testBit j = true ↔ ∃ v, v < n ∧ s.testBit v = true ∧ (m v).testBit j = true
  | 0 => by simp [bes]
  | n + 1 => by
    rw [bes]
    constructor
    · intro h
      split at h
      · rename_i hs
        rw [lor_bit, Bool.or_eq_true] at h
        rcases h with h | h
        · obtain ⟨v, h1, h2, h3⟩ := bes_bit.1 h
          exact ⟨v, by omega, h2, h3⟩
        · exact ⟨n, by omega, hs, h⟩
      · obtain ⟨v, h1, h2, h3⟩ := bes_bit.1 h
        exact ⟨v, by omega, h2, h3⟩
    · rintro ⟨v, h1, h2, h3⟩
      by_cases e : v = n
      · subst e
        rw [if_pos h2, lor_bit, h3]; simp
      · have := (bes_bit (m := m) (s := s) (j := j) (n := n)).2 ⟨v, by omega, h2, h3⟩
        split
        · rw [lor_bit, this]; rfl
        · exact this
theorem bes_few {m : Nat → Nat} {s : Nat} : ∀ {n}, (∀ v, v < n → Few (m v)) → Few (bes m s n)
  | 0, _ => by show (0 : Nat) < _; decide
  | n + 1, h => by
    rw [bes]
    split
    · exact lor_few (bes_few fun v hv => h v (by omega)) (h n (by omega))
    · exact bes_few fun v hv => h v (by omega)

/-- One round: what is in, and what is near it within s. -/
def gro (m : Nat → Nat) (s i : Nat) : Nat → Nat
  | 0 => i
  | v + 1 => if i.testBit v then lor (gro m s i v) (land (m v) s) else gro m s i v
theorem gro_bit {m : Nat → Nat} {s i j : Nat} : ∀ {n}, (gro m s i n).testBit j = true ↔ i.testBit j = true ∨ ∃ v, v < n ∧ i.testBit v = true ∧ (m v).testBit j = true ∧ s.testBit j = true
  | 0 => by simp [gro]
  | n + 1 => by
    rw [gro]
    constructor
    · intro h
      split at h
      · rename_i hs
        rw [lor_bit, Bool.or_eq_true, land_bit, Bool.and_eq_true] at h
        rcases h with h | h
        · rcases gro_bit.1 h with h | ⟨v, h1, h2⟩
          · exact Or.inl h
          · exact Or.inr ⟨v, by omega, h2⟩
        · exact Or.inr ⟨n, by omega, hs, h⟩
      · rcases gro_bit.1 h with h | ⟨v, h1, h2⟩
        · exact Or.inl h
        · exact Or.inr ⟨v, by omega, h2⟩
    · intro h
      have old : (i.testBit j = true ∨ ∃ v, v < n ∧ i.testBit v = true ∧ (m v).testBit j = true ∧ s.testBit j = true) → (if i.testBit n then lor (gro m s i n) (land (m n) s) else gro m s i n).testBit j = true := fun h => by
        have := (gro_bit (m := m) (s := s) (i := i) (j := j) (n := n)).2 h
        split
        · rw [lor_bit, this]; rfl
        · exact this
      rcases h with h | ⟨v, h1, h2, h3⟩
      · exact old (Or.inl h)
      · by_cases e : v = n
        · subst e
          rw [if_pos h2, lor_bit, land_bit, h3.1, h3.2]; simp
        · exact old (Or.inr ⟨v, by omega, h2, h3⟩)

/-- The search within s, from v on: i is in. -/
structure Grown (m : Nat → Nat) (s v i : Nat) : Prop where
  sub : Within i s
  has : i.testBit v = true
  con : ∀ u, i.testBit u = true → Conn m s v u
theorem Grown.start {m : Nat → Nat} {s v : Nat} (h : s.testBit v = true) : Grown m s v (pow2 v) := by
  have e : ∀ u, (pow2 v).testBit u = true → u = v := fun u hu => by rw [pow2_bit] at hu; simpa using (of_decide_eq_true hu).symm
  exact ⟨fun u hu => by rw [e u hu]; exact h, by rw [pow2_bit]; simp, fun u hu => by rw [e u hu]; exact .refl⟩
theorem Grown.round {m : Nat → Nat} {s v i : Nat} (n : Nat) (h : Grown m s v i) : Grown m s v (gro m s i n) ∧ i ≤ gro m s i n ∧ gro m s i n ≤ s := by
  have h1 : Grown m s v (gro m s i n) := by
    refine ⟨fun u hu => ?_, gro_bit.2 (Or.inl h.has), fun u hu => ?_⟩
    · rcases gro_bit.1 hu with hu | ⟨_, _, _, _, hu⟩
      · exact h.sub u hu
      · exact hu
    · rcases gro_bit.1 hu with hu | ⟨x, _, hx, hy, hz⟩
      · exact h.con u hu
      · exact .step (h.con x hx) hz hy
  have h2 : Within i (gro m s i n) := fun u hu => gro_bit.2 (Or.inl hu)
  exact ⟨h1, h2.le, h1.sub.le⟩
/-- At the end: all of s is in just if s hangs together. -/
theorem Grown.fin {m : Nat → Nat} {s v i n : Nat} (hs : ∀ u, s.testBit u = true → u < n) (hm : ∀ x y, s.testBit x = true → s.testBit y = true → (m x).testBit y = true → (m y).testBit x = true) (h : Grown m s v i) (hc : gro m s i n = i) : (i = s) ↔ Whole m s := by
  have hv : s.testBit v = true := h.sub v h.has
  have cl : ∀ u, Conn m s v u → i.testBit u = true := fun u hu => by
    induction hu with
    | refl => exact h.has
    | @step b c h1 h2 h3 ih =>
      rw [← hc]
      exact gro_bit.2 (Or.inr ⟨b, hs b (h1.inside hv), ih, h3, h2⟩)
  constructor
  · rintro rfl
    refine ⟨fun e => by rw [e] at hv; simp at hv, fun a b ha hb => ?_⟩
    exact (Conn.symm hm hv (h.con a ha)).trans (h.con b hb)
  · rintro ⟨_, hw⟩
    refine Nat.eq_of_testBit_eq fun u => ?_
    cases e : s.testBit u
    · cases e2 : i.testBit u
      · rfl
      · rw [h.sub u e2] at e; cases e
    · exact cl u (hw v u hv e)

end Go.Proofs.Ytfflnpcbpcldeaa
