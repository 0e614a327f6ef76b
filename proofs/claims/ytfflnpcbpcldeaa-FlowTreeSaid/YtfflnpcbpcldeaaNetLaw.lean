/- The pipes of a net are as they must be: the plain law. -/
import Derived.Test.YtfflnpcbpcldeaaBuild
import Derived.Test.YtfflnpcbpcldeaaPush
namespace Go.Proofs.Ytfflnpcbpcldeaa

theorem addX_zero (X : Nat → List Nat) (u v c : Nat) : addX X u v c 0 = X 0 ++ [v, u] := by simp [addX, upX]
theorem addX_one (X : Nat → List Nat) (u v c : Nat) : addX X u v c 1 = X 1 ++ [c, 0] := by simp [addX, upX]
theorem addX_at (X : Nat → List Nat) (u v c q i : Nat) : i ∈ addX X u v c (q + 2) ↔ i ∈ X (q + 2) ∨ (q = u ∧ i = (X 0).length) ∨ (q = v ∧ i = (X 0).length + 1) := by
  unfold addX upX
  by_cases e1 : q = u <;> by_cases e2 : q = v <;> simp [e1, e2]
  all_goals (try subst e1) <;> (try subst e2) <;> simp_all

theorem getD_app_old (l m : List Nat) (j : Nat) (h : j < l.length) : (l ++ m).getD j 0 = l.getD j 0 := by
  rw [List.getD, List.getD, List.getElem?_append_left h]
theorem getD_app_0 (l : List Nat) (x y : Nat) : (l ++ [x, y]).getD l.length 0 = x := by simp [List.getD]
theorem getD_app_1 (l : List Nat) (x y : Nat) : (l ++ [x, y]).getD (l.length + 1) 0 = y := by
  rw [List.getD, List.getElem?_append_right (by omega)]; simp

/-- The pipes of the first k arcs. -/
structure NetAt (l : List (Int × Int × Int)) (k : Nat) (X : Nat → List Nat) : Prop where
  len0 : (X 0).length = 2 * k
  len1 : (X 1).length = 2 * k
  arc : ∀ j, j < k → toX X (2 * j) = (l.getD j (0, 0, 0)).2.1.toNat ∧ toX X (2 * j + 1) = (l.getD j (0, 0, 0)).1.toNat ∧ leftX X (2 * j) = (l.getD j (0, 0, 0)).2.2.toNat ∧ leftX X (2 * j + 1) = 0
  at_iff : ∀ v i, i ∈ X (v + 2) ↔ i < 2 * k ∧ tailX X i = v

theorem netAt (l : List (Int × Int × Int)) : ∀ k, k ≤ l.length → NetAt l k (netX (l.take k)) := by
  intro k
  induction k with
  | zero =>
    intro _
    exact ⟨rfl, rfl, fun j hj => absurd hj (Nat.not_lt_zero _), fun v i => ⟨fun h => by simp [netX] at h, fun h => by omega⟩⟩
  | succ k ih =>
    intro hk
    have h := ih (by omega)
    obtain ⟨x, y, z, he⟩ : ∃ x y z, l.getD k (0, 0, 0) = (x, y, z) := ⟨_, _, _, rfl⟩
    rw [netX_succ (by omega) he]
    generalize netX (l.take k) = X at h ⊢
    have t0 : ∀ j, j < 2 * k → toX (addX X x.toNat y.toNat z.toNat) j = toX X j := fun j hj => by
      show (addX X _ _ _ 0).getD j 0 = _
      rw [addX_zero, getD_app_old _ _ _ (by rw [h.len0]; exact hj)]
    have l0 : ∀ j, j < 2 * k → leftX (addX X x.toNat y.toNat z.toNat) j = leftX X j := fun j hj => by
      show (addX X _ _ _ 1).getD j 0 = _
      rw [addX_one, getD_app_old _ _ _ (by rw [h.len1]; exact hj)]
    have t1 : toX (addX X x.toNat y.toNat z.toNat) (2 * k) = y.toNat := by
      show (addX X _ _ _ 0).getD _ 0 = _
      rw [addX_zero, ← h.len0, getD_app_0]
    have t2 : toX (addX X x.toNat y.toNat z.toNat) (2 * k + 1) = x.toNat := by
      show (addX X _ _ _ 0).getD _ 0 = _
      rw [addX_zero, ← h.len0, getD_app_1]
    have l1 : leftX (addX X x.toNat y.toNat z.toNat) (2 * k) = z.toNat := by
      show (addX X _ _ _ 1).getD _ 0 = _
      rw [addX_one, ← h.len1, getD_app_0]
    have l2 : leftX (addX X x.toNat y.toNat z.toNat) (2 * k + 1) = 0 := by
      show (addX X _ _ _ 1).getD _ 0 = _
      rw [addX_one, ← h.len1, getD_app_1]
    refine ⟨by rw [addX_zero, List.length_append, h.len0]; simp; omega, by rw [addX_one, List.length_append, h.len1]; simp; omega, fun j hj => ?_, fun v i => ?_⟩
    · by_cases e : j = k
      · subst e; rw [he]; exact ⟨t1, t2, l1, l2⟩
      · obtain ⟨a1, a2, a3, a4⟩ := h.arc j (by omega)
        exact ⟨(t0 _ (by omega)).trans a1, (t0 _ (by omega)).trans a2, (l0 _ (by omega)).trans a3, (l0 _ (by omega)).trans a4⟩
    · rw [addX_at, h.at_iff, h.len0]
      have hd := xor_one_div i
      have hm := xor_one_mod i
      rcases (show i < 2 * k ∨ i = 2 * k ∨ i = 2 * k + 1 ∨ 2 * k + 2 ≤ i by omega) with e | e | e | e
      · rw [show tailX (addX X x.toNat y.toNat z.toNat) i = tailX X i from t0 _ (by omega)]
        constructor
        · rintro (⟨a, b⟩ | ⟨-, b⟩ | ⟨-, b⟩)
          · exact ⟨by omega, b⟩
          · omega
          · omega
        · rintro ⟨-, b⟩; exact Or.inl ⟨e, b⟩
      · rw [show tailX (addX X x.toNat y.toNat z.toNat) i = x.toNat by show toX _ (i ^^^ 1) = _; rw [xor_one_even e]; exact t2]
        constructor
        · rintro (⟨a, b⟩ | ⟨a, b⟩ | ⟨a, b⟩)
          · omega
          · exact ⟨by omega, a.symm⟩
          · omega
        · rintro ⟨-, b⟩; exact Or.inr (Or.inl ⟨b.symm, e⟩)
      · rw [show tailX (addX X x.toNat y.toNat z.toNat) i = y.toNat by show toX _ (i ^^^ 1) = _; rw [xor_one_odd e]; exact t1]
        constructor
        · rintro (⟨a, b⟩ | ⟨a, b⟩ | ⟨a, b⟩)
          · omega
          · omega
          · exact ⟨by omega, a.symm⟩
        · rintro ⟨-, b⟩; exact Or.inr (Or.inr ⟨b.symm, e⟩)
      · constructor
        · rintro (⟨a, b⟩ | ⟨a, b⟩ | ⟨a, b⟩) <;> omega
        · rintro ⟨a, b⟩; omega

theorem netOk {l : List (Int × Int × Int)} {N : Nat} (hN : N ≤ 1000) (hl : l.length ≤ 5000) (hok : ∀ j, j < l.length → ArcOk N (l.getD j (0, 0, 0))) : NetOk N (2 * l.length) (netX l) := by
  have h := netAt l l.length (Nat.le_refl _)
  rw [List.take_length] at h
  refine ⟨h.len0, h.len1, fun i hi => ?_, fun v _ i hi => (h.at_iff v i).1 hi, fun i hi => (h.at_iff _ i).2 ⟨hi, rfl⟩, fun i hi => ?_, ⟨hN, by omega⟩, fun v _ => ?_⟩
  · obtain ⟨a1, a2, -⟩ := h.arc (i / 2) (by omega)
    obtain ⟨o1, o2, o3, o4, -⟩ := hok (i / 2) (by omega)
    rcases (show i = 2 * (i / 2) ∨ i = 2 * (i / 2) + 1 by omega) with e | e
    · rw [e, a1]; omega
    · rw [e, a2]; omega
  · have hd := xor_one_div i
    omega
  · have := netX_length l (v + 2)
    omega

end Go.Proofs.Ytfflnpcbpcldeaa
