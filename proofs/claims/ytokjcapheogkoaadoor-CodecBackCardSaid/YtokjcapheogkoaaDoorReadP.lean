/- Numbers in a text: plain. No program in sight. -/
import Derived.Test.YtokjcapheogkoaaDoorTxtP
namespace Go.Proofs.YtokjcapheogkoaaDoor
open Go

/-- A text's byte. -/
def bt (b : List UInt8) (i : Nat) : Nat := (b.getD i 0).toNat
def digB (x : Nat) : Prop := 48 ≤ x ∧ x ≤ 57
instance (x : Nat) : Decidable (digB x) := by unfold digB; infer_instance
theorem bt_lt (b : List UInt8) (i : Nat) : bt b i < 256 := UInt8.toNat_lt _
/-- So many digits stand from p on. -/
structure IsRun (b : List UInt8) (p k : Nat) : Prop where
  dig : ∀ j, j < k → p + j < b.length ∧ digB (bt b (p + j))
  stop : p + k < b.length → ¬ digB (bt b (p + k))
theorem IsRun.uniq {b : List UInt8} {p k k' : Nat} (h : IsRun b p k) (h' : IsRun b p k') : k = k' := by
  rcases Nat.lt_trichotomy k k' with e | e | e
  · exact absurd (h'.dig k e).2 (h.stop (h'.dig k e).1)
  · exact e
  · exact absurd (h.dig k' e).2 (h'.stop (h.dig k' e).1)
theorem run_from (b : List UInt8) (p : Nat) : ∀ (m k : Nat), m = b.length - (p + k) → (∀ j, j < k → p + j < b.length ∧ digB (bt b (p + j))) → ∃ k', k ≤ k' ∧ IsRun b p k' := by
  intro m
  induction m with
  | zero => intro k hm hk; exact ⟨k, Nat.le_refl _, hk, fun h => by omega⟩
  | succ m ih =>
    intro k hm hk
    by_cases h : digB (bt b (p + k))
    · obtain ⟨k', h1, h2⟩ := ih (k + 1) (by omega) fun j hj => by
        by_cases e : j = k
        · subst e; exact ⟨by omega, h⟩
        · exact hk j (by omega)
      exact ⟨k', by omega, h2⟩
    · exact ⟨k, Nat.le_refl _, hk, fun _ => h⟩
theorem run_ex (b : List UInt8) (p : Nat) : ∃ k, IsRun b p k := by
  obtain ⟨k, -, h⟩ := run_from b p (b.length - p) 0 (by omega) fun j hj => absurd hj (Nat.not_lt_zero _)
  exact ⟨k, h⟩
/-- The number that k digits tell. -/
def valN (b : List UInt8) (p : Nat) : Nat → Nat
  | 0 => 0
  | k + 1 => 10 * valN b p k + (bt b (p + k) - 48)
theorem valN_few {b : List UInt8} {p : Nat} : ∀ k, (∀ j, j < k → digB (bt b (p + j))) → valN b p k < 10 ^ k
  | 0, _ => by simp [valN]
  | k + 1, h => by
    have h1 := valN_few k fun j hj => h j (by omega)
    have h2 := h k (by omega)
    unfold digB at h2
    rw [valN, Nat.pow_succ]
    omega
/-- No number stands there. -/
def BadRun (b : List UInt8) (p k : Nat) : Prop := k = 0 ∨ 3 < k ∨ (1 < k ∧ bt b p = 48)
instance (b : List UInt8) (p k : Nat) : Decidable (BadRun b p k) := by unfold BadRun; infer_instance

/-- How many digits stand there. -/
noncomputable def rl (b : List UInt8) (p : Nat) : Nat := Classical.choose (run_ex b p)
theorem rl_run (b : List UInt8) (p : Nat) : IsRun b p (rl b p) := Classical.choose_spec (run_ex b p)
theorem IsRun.rl {b : List UInt8} {p k : Nat} (h : IsRun b p k) : rl b p = k := (rl_run b p).uniq h
def noNum (b : List UInt8) (p : Nat) : Prop := BadRun b p (rl b p)
noncomputable def numV (b : List UInt8) (p : Nat) : Nat := valN b p (rl b p)
noncomputable def numE (b : List UInt8) (p : Nat) : Nat := p + rl b p
theorem numV_few {b : List UInt8} {p : Nat} (h : ¬ noNum b p) : numV b p < 1000 := by
  unfold noNum BadRun at h
  have h1 := valN_few (rl b p) fun j hj => ((rl_run b p).dig j hj).2
  have h2 : rl b p ≤ 3 := by omega
  have h3 : (10 : Nat) ^ rl b p ≤ 10 ^ 3 := Nat.pow_le_pow_right (by omega) h2
  unfold numV
  omega
theorem numE_gt {b : List UInt8} {p : Nat} (h : ¬ noNum b p) : p < numE b p := by
  unfold noNum BadRun at h
  unfold numE
  omega
theorem numE_le {b : List UInt8} {p : Nat} (h : p ≤ b.length) : numE b p ≤ b.length := by
  unfold numE
  rcases Nat.eq_zero_or_pos (rl b p) with e | e
  · omega
  · have := ((rl_run b p).dig (rl b p - 1) (by omega)).1
    omega
/-- Such a byte stands there. -/
def hasB (b : List UInt8) (p c : Nat) : Prop := p < b.length ∧ bt b p = c
instance (b : List UInt8) (p c : Nat) : Decidable (hasB b p c) := by unfold hasB; infer_instance

open Classical in
/-- The lines from p on: where it is wrong, or the edges. -/
noncomputable def linesG (b : List UInt8) : Nat → Nat → List (Int × Int) → Nat ⊕ List (Int × Int)
  | 0, p, _ => .inl p
  | f + 1, p, L =>
    if hasB b p 10 then (if p + 1 < b.length then .inl (p + 1) else .inr L)
    else if ¬ hasB b p 32 then .inl p
    else if noNum b (p + 1) then .inl (p + 1)
    else if ¬ hasB b (numE b (p + 1)) 45 then .inl (numE b (p + 1))
    else if noNum b (numE b (p + 1) + 1) then .inl (numE b (p + 1) + 1)
    else linesG b f (numE b (numE b (p + 1) + 1)) (L ++ [((numV b (p + 1) : Int), (numV b (numE b (p + 1) + 1) : Int))])
open Classical in
/-- What stands in a text. -/
noncomputable def readG (b : List UInt8) : Nat ⊕ List (Int × Int) :=
  if noNum b 0 then .inl 0 else if ¬ hasB b (numE b 0) 58 then .inl (numE b 0) else linesG b (b.length + 1) (numE b 0 + 1) []
/-- The loops' invariant. -/
def AtLine (b : List UInt8) (p : Nat) (L : List (Int × Int)) : Prop := ∃ f, b.length < f + p ∧ readG b = linesG b f p L
theorem AtLine.start {b : List UInt8} (h : ¬ noNum b 0) (h2 : hasB b (numE b 0) 58) : AtLine b (numE b 0 + 1) [] :=
  ⟨b.length + 1, by omega, by unfold readG; rw [if_neg h, if_neg (by simpa using h2)]⟩
theorem readG_bad0 {b : List UInt8} (h : noNum b 0) : readG b = .inl 0 := by unfold readG; rw [if_pos h]
theorem readG_bad1 {b : List UInt8} (h : ¬ noNum b 0) (h2 : ¬ hasB b (numE b 0) 58) : readG b = .inl (numE b 0) := by unfold readG; rw [if_neg h, if_pos h2]
theorem not10 {b : List UInt8} {p : Nat} (h2 : hasB b p 32) : ¬ hasB b p 10 := fun h1 => by
  have := h1.2
  have := h2.2
  omega
section
variable {b : List UInt8} {p : Nat} {L : List (Int × Int)} (h : AtLine b p L) (hp : p ≤ b.length)
include h hp
theorem AtLine.fuel : ∃ f, b.length < f + 1 + p ∧ readG b = linesG b (f + 1) p L := by
  obtain ⟨f, h1, h2⟩ := h
  cases f with
  | zero => omega
  | succ f => exact ⟨f, h1, h2⟩
theorem AtLine.last (h1 : hasB b p 10) (h2 : ¬ p + 1 < b.length) : readG b = .inr L := by
  obtain ⟨f, -, e⟩ := h.fuel hp
  rw [e, linesG, if_pos h1, if_neg h2]
theorem AtLine.more (h1 : hasB b p 10) (h2 : p + 1 < b.length) : readG b = .inl (p + 1) := by
  obtain ⟨f, -, e⟩ := h.fuel hp
  rw [e, linesG, if_pos h1, if_pos h2]
theorem AtLine.bad (h1 : ¬ hasB b p 10) (h2 : ¬ hasB b p 32) : readG b = .inl p := by
  obtain ⟨f, -, e⟩ := h.fuel hp
  rw [e, linesG, if_neg h1, if_pos h2]
theorem AtLine.bad1 (h2 : hasB b p 32) (h3 : noNum b (p + 1)) : readG b = .inl (p + 1) := by
  obtain ⟨f, -, e⟩ := h.fuel hp
  rw [e, linesG, if_neg (not10 h2), if_neg (by simpa using h2), if_pos h3]
theorem AtLine.bad2 (h2 : hasB b p 32) (h3 : ¬ noNum b (p + 1)) (h4 : ¬ hasB b (numE b (p + 1)) 45) : readG b = .inl (numE b (p + 1)) := by
  obtain ⟨f, -, e⟩ := h.fuel hp
  rw [e, linesG, if_neg (not10 h2), if_neg (by simpa using h2), if_neg h3, if_pos h4]
theorem AtLine.bad3 (h2 : hasB b p 32) (h3 : ¬ noNum b (p + 1)) (h4 : hasB b (numE b (p + 1)) 45) (h5 : noNum b (numE b (p + 1) + 1)) : readG b = .inl (numE b (p + 1) + 1) := by
  obtain ⟨f, -, e⟩ := h.fuel hp
  rw [e, linesG, if_neg (not10 h2), if_neg (by simpa using h2), if_neg h3, if_neg (by simpa using h4), if_pos h5]
theorem AtLine.next (h2 : hasB b p 32) (h3 : ¬ noNum b (p + 1)) (h4 : hasB b (numE b (p + 1)) 45) (h5 : ¬ noNum b (numE b (p + 1) + 1)) :
    AtLine b (numE b (numE b (p + 1) + 1)) (L ++ [((numV b (p + 1) : Int), (numV b (numE b (p + 1) + 1) : Int))]) := by
  obtain ⟨f, h1, e⟩ := h.fuel hp
  have := numE_gt h3
  have := numE_gt h5
  exact ⟨f, by omega, by rw [e, linesG, if_neg (not10 h2), if_neg (by simpa using h2), if_neg h3, if_neg (by simpa using h4), if_neg h5]⟩
end

end Go.Proofs.YtokjcapheogkoaaDoor
