/- Names of nodes: what is wrong with them; the graph that they induce. No program in sight. -/
import Derived.Test.YtbnbhjeknocboaaLine1
namespace Go.Proofs.Ytbnbhjeknocboaa
open Go.RowKit

/-- Name k has been met before. -/
def dupI (m : List Int) (k : Nat) : Prop := ∃ j, j < k ∧ m.getD j 0 = m.getD k 0
def inI (N : Nat) (m : List Int) (k : Nat) : Prop := 0 ≤ m.getD k 0 ∧ m.getD k 0 < (N : Int)
def IFine (N : Nat) (m : List Int) (k : Nat) : Prop := inI N m k ∧ ¬ dupI m k
/-- Name k is the first wrong one; how. -/
def IBad (N : Nat) (m : List Int) (k : Nat) (c : Int) : Prop := k < m.length ∧ (∀ j, j < k → IFine N m j) ∧ ((¬ inI N m k ∧ c = 3) ∨ (inI N m k ∧ dupI m k ∧ c = 5))
/-- What is wrong. -/
def IndSpec (N : Nat) (m : List Int) (c a : Int) : Prop := (∃ k, IBad N m k c ∧ a = (k : Int)) ∨ ((∀ k, k < m.length → IFine N m k) ∧ c = 0 ∧ a = 0)

theorem IBad.not {N : Nat} {m : List Int} {k : Nat} {c : Int} (h : IBad N m k c) : ¬ IFine N m k := fun hf => by
  rcases h.2.2 with ⟨h1, _⟩ | ⟨_, h1, _⟩
  · exact h1 hf.1
  · exact hf.2 h1
theorem IBad.uniq {N : Nat} {m : List Int} {k k' : Nat} {c c' : Int} (h : IBad N m k c) (h' : IBad N m k' c') : k = k' ∧ c = c' := by
  have e : k = k' := by
    rcases Nat.lt_trichotomy k k' with e | e | e
    · exact absurd (h'.2.1 k e) h.not
    · exact e
    · exact absurd (h.2.1 k' e) h'.not
  subst e
  refine ⟨rfl, ?_⟩
  rcases h.2.2 with ⟨h1, rfl⟩ | ⟨h1, h2, rfl⟩ <;> rcases h'.2.2 with ⟨h1', rfl⟩ | ⟨h1', h2', rfl⟩
  · rfl
  · exact absurd h1' h1
  · exact absurd h1 h1'
  · rfl
theorem IndSpec.bad {N : Nat} {m : List Int} {c a c' : Int} {k : Nat} (h : IndSpec N m c a) (hb : IBad N m k c') : c = c' ∧ a = (k : Int) := by
  rcases h with ⟨k', h1, rfl⟩ | ⟨h1, _, _⟩
  · obtain ⟨rfl, rfl⟩ := h1.uniq hb
    exact ⟨rfl, rfl⟩
  · exact absurd (h1 k hb.1) hb.not
theorem IndSpec.fine {N : Nat} {m : List Int} {c a : Int} (h : IndSpec N m c a) (hb : ∀ k, k < m.length → IFine N m k) : c = 0 ∧ a = 0 := by
  rcases h with ⟨k', h1, rfl⟩ | ⟨_, h1, h2⟩
  · exact absurd (hb k' h1.1) h1.not
  · exact ⟨h1, h2⟩
theorem IBad.ne0 {N : Nat} {m : List Int} {k : Nat} {c : Int} (h : IBad N m k c) : c ≠ 0 := by
  rcases h.2.2 with ⟨_, rfl⟩ | ⟨_, _, rfl⟩ <;> omega
theorem IndSpec.good {N : Nat} {m : List Int} {a : Int} (h : IndSpec N m 0 a) : (∀ k, k < m.length → IFine N m k) ∧ a = 0 := by
  rcases h with ⟨k', h1, rfl⟩ | ⟨h0, h1, h2⟩
  · exact absurd rfl h1.ne0
  · exact ⟨h0, h2⟩
theorem IndSpec.ex (N : Nat) (m : List Int) : ∃ c a, IndSpec N m c a := by
  by_cases h : ∀ k, k < m.length → IFine N m k
  · exact ⟨0, 0, Or.inr ⟨h, rfl, rfl⟩⟩
  · have h' : ∃ k, k < m.length ∧ ¬ IFine N m k := Classical.byContradiction fun hc => h fun k hk => Classical.byContradiction fun hn => hc ⟨k, hk, hn⟩
    obtain ⟨k0, hk0, hn0⟩ := h'
    obtain ⟨k, h1, h2, h3⟩ := least_nat (p := fun k => ¬ IFine N m k) k0 hn0
    have hf : ∀ j, j < k → IFine N m j := fun j hj => Classical.byContradiction (h3 j hj)
    by_cases hi : inI N m k
    · have hd : dupI m k := Classical.byContradiction fun hd => h2 ⟨hi, hd⟩
      exact ⟨5, k, Or.inl ⟨k, ⟨by omega, hf, Or.inr ⟨hi, hd, rfl⟩⟩, rfl⟩⟩
    · exact ⟨3, k, Or.inl ⟨k, ⟨by omega, hf, Or.inl ⟨hi, rfl⟩⟩, rfl⟩⟩

/-- The nodes that the first k names tell. -/
def seenI (m : List Int) (k v : Nat) : Bool := (List.range k).any fun j => decide (m.getD j 0 = (v : Int))
theorem seenI_zero (m : List Int) (v : Nat) : seenI m 0 v = false := rfl
theorem seenI_iff {m : List Int} {k v : Nat} : seenI m k v = true ↔ ∃ j, j < k ∧ m.getD j 0 = (v : Int) := by
  unfold seenI
  simp only [List.any_eq_true, List.mem_range, decide_eq_true_eq]
theorem seenI_succ (m : List Int) (k v : Nat) : seenI m (k + 1) v = (seenI m k v || decide (m.getD k 0 = (v : Int))) := by
  unfold seenI
  rw [List.range_succ, List.any_append]
  simp
theorem seenI_put {m : List Int} {k X : Nat} (h : m.getD k 0 = (X : Int)) (v : Nat) : (if v = X then true else seenI m k v) = seenI m (k + 1) v := by
  rw [seenI_succ, h]
  by_cases e : v = X
  · simp [e]
  · have : ¬ (X : Int) = (v : Int) := by omega
    simp [e, this]
theorem seen_dup {m : List Int} {k X : Nat} (h : m.getD k 0 = (X : Int)) : seenI m k X = true ↔ dupI m k := by
  rw [seenI_iff]; unfold dupI; rw [h]

/-- There are no more names than nodes. -/
theorem ifine_few {N : Nat} {m : List Int} (h : ∀ k, k < m.length → IFine N m k) : m.length ≤ N := by
  have hnd : (m.map Int.toNat).Nodup := by
    rw [List.Nodup, List.pairwise_map, List.pairwise_iff_getElem]
    intro i j hi hj hij e
    have h1 := h i hi
    have h2 := h j hj
    refine h2.2 ⟨i, hij, ?_⟩
    have a1 := h1.1
    have a2 := h2.1
    unfold inI at a1 a2
    have ei : m.getD i 0 = m[i] := by simp [List.getD, hi]
    have ej : m.getD j 0 = m[j] := by simp [List.getD, hj]
    rw [ei] at a1 ⊢
    rw [ej] at a2 ⊢
    omega
  have hsub : (m.map Int.toNat) ⊆ List.range N := fun x hx => by
    obtain ⟨y, hy, rfl⟩ := List.mem_map.1 hx
    obtain ⟨i, hi, rfl⟩ := List.getElem_of_mem hy
    have a1 := (h i hi).1
    unfold inI at a1
    have ei : m.getD i 0 = m[i] := by simp [List.getD, hi]
    rw [ei] at a1
    exact List.mem_range.2 (by omega)
  have := hnd.length_le_of_subset hsub
  simpa using this

/-- What graph.Induced answers at a good graph. -/
def IndRes (N : Nat) (l : List (Int × Int)) (m : List Int) (N' : Int) (L' : List (Int × Int)) (c' a' : Int) : Prop :=
  ∃ c a, IndSpec N m c a ∧ ((c ≠ 0 ∧ N' = 0 ∧ L' = [] ∧ c' = c ∧ a' = a) ∨ (c = 0 ∧ PairsRes m.length (pickG (adj l) m) N' L' c' ∧ a' = 0))
theorem IndRes.bad {N : Nat} {l : List (Int × Int)} {m : List Int} {N' : Int} {L' : List (Int × Int)} {c' a' c : Int} {k : Nat} (h : IndRes N l m N' L' c' a') (hb : IBad N m k c) : N' = 0 ∧ L' = [] ∧ c' = c ∧ a' = (k : Int) := by
  obtain ⟨c0, a0, hs, h | h⟩ := h
  · obtain ⟨rfl, rfl⟩ := hs.bad hb
    exact h.2
  · obtain ⟨rfl, _⟩ := hs.bad hb
    exact absurd h.1 hb.ne0
theorem IndRes.ok {N : Nat} {l : List (Int × Int)} {m : List Int} {N' : Int} {L' : List (Int × Int)} {c' a' : Int} (h : IndRes N l m N' L' c' a') (hb : ∀ k, k < m.length → IFine N m k) : PairsRes m.length (pickG (adj l) m) N' L' c' ∧ a' = 0 := by
  obtain ⟨c0, a0, hs, h | h⟩ := h
  · exact absurd (hs.fine hb).1 h.1
  · exact h.2

end Go.Proofs.Ytbnbhjeknocboaa
