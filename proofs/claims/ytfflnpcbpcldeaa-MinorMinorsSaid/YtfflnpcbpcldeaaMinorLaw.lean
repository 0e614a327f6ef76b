/- The plain law of the search for sets: it finds some just if there are some. No program in sight. -/
import Derived.Test.YtfflnpcbpcldeaaTryS
namespace Go.Proofs.Ytfflnpcbpcldeaa
open Go Go.RowKit

/-- From index k on the sets T stand as they must, within left. -/
structure Ext (W : Nat → Bool) (B mh : Nat → Nat) (T : List Nat) (k left : Nat) : Prop where
  ok : ∀ j, k ≤ j → j < T.length → T.getD j 0 ≠ 0 ∧ W (T.getD j 0) = true ∧ Within (T.getD j 0) left
  apart : ∀ i j, k ≤ i → i < j → j < T.length → ∀ b, (T.getD i 0).testBit b = true → (T.getD j 0).testBit b = false
  meet : ∀ i j, i < j → k ≤ j → j < T.length → (mh j).testBit i = true → land (B (T.getD j 0)) (T.getD i 0) ≠ 0

theorem okS_iff {W : Nat → Bool} {B mh : Nat → Nat} {S : List Nat} {s k : Nat} : ∀ {n}, okS W B mh S s k n = true ↔ W s = true ∧ ∀ i, i < n → (mh k).testBit i = true → land (B s) (S.getD i 0) ≠ 0
  | 0 => by simp [okS]
  | n + 1 => by
    rw [okS, Bool.and_eq_true, okS_iff (n := n)]
    constructor
    · rintro ⟨⟨h1, h2⟩, h3⟩
      refine ⟨h1, fun i hi hb => ?_⟩
      by_cases e : i = n
      · subst e; rw [hb] at h3; simpa using h3
      · exact h2 i (by omega) hb
    · rintro ⟨h1, h2⟩
      refine ⟨⟨h1, fun i hi hb => h2 i (by omega) hb⟩, ?_⟩
      cases e : (mh k).testBit n
      · rfl
      · simpa using h2 n (by omega) e

theorem take_getD {T S : List Nat} {k i : Nat} (h : T.take k = S) (hi : i < k) : S.getD i 0 = T.getD i 0 := by
  subst h
  simp [List.getD, hi]

theorem tryS_not {W : Nat → Bool} {B mh : Nat → Nat} : ∀ {f left : Nat} {S : List Nat}, tryS W B mh f left S = none → ∀ T : List Nat, T.length = S.length + f → T.take S.length = S → ¬ Ext W B mh T S.length left
  | 0, left, S, h, _, _, _, _ => by cases h
  | f + 1, left, S, h, T, hl, ht, he => by
    rw [tryS] at h
    have hkl : S.length < T.length := by omega
    obtain ⟨h0, hW, hw⟩ := he.ok S.length (Nat.le_refl _) hkl
    have hg := firstFrom_not left left (Nat.le_refl _) (Within.refl _) h (T.getD S.length 0) h0 hw.le hw
    have hok : okS W B mh S (T.getD S.length 0) S.length S.length = true := okS_iff.2 ⟨hW, fun i hi hb => by
      rw [take_getD ht hi]; exact he.meet i S.length hi (Nat.le_refl _) hkl hb⟩
    rw [if_pos hok] at hg
    have hlen : (S ++ [T.getD S.length 0]).length = S.length + 1 := by simp
    refine tryS_not hg T (by rw [hlen]; omega) ?_ ?_
    · rw [hlen, List.take_succ_eq_append_getElem hkl, ht]
      simp [List.getD, hkl]
    · rw [hlen]
      refine ⟨fun j hj hj2 => ?_, fun i j hi => he.apart i j (by omega), fun i j hij hj => he.meet i j hij (by omega)⟩
      obtain ⟨h1, h2, h3⟩ := he.ok j (by omega) hj2
      refine ⟨h1, h2, fun b hb => ?_⟩
      rw [less_bit, h3 b hb, Bool.true_and, Bool.not_eq_true']
      cases e : (T.getD S.length 0).testBit b
      · rfl
      · rw [he.apart S.length j (Nat.le_refl _) (by omega) hj2 b e] at hb; cases hb

theorem tryS_has {W : Nat → Bool} {B mh : Nat → Nat} : ∀ {f left : Nat} {S T : List Nat}, tryS W B mh f left S = some T → T.length = S.length + f ∧ T.take S.length = S ∧ Ext W B mh T S.length left
  | 0, left, S, T, h => by
    obtain rfl := Option.some.inj h
    exact ⟨rfl, List.take_length, fun j h1 h2 => by omega, fun i j h1 h2 h3 => by omega, fun i j h1 h2 h3 => by omega⟩
  | f + 1, left, S, T, h => by
    rw [tryS] at h
    obtain ⟨s, h0, hw, hg⟩ := firstFrom_has left left (Nat.le_refl _) (Within.refl _) h
    split at hg
    · rename_i hok
      obtain ⟨g1, g2, g3⟩ := tryS_has hg
      have hlen : (S ++ [s]).length = S.length + 1 := by simp
      rw [hlen] at g1 g2 g3
      have hk : S.length < T.length := by omega
      have hTs : T.getD S.length 0 = s := by
        have := take_getD g2 (show S.length < S.length + 1 by omega)
        rw [← this]; simp [List.getD]
      have hTS : ∀ i, i < S.length → T.getD i 0 = S.getD i 0 := fun i hi => by
        have := take_getD g2 (show i < S.length + 1 by omega)
        rw [← this, List.getD_eq_getElem?_getD, List.getElem?_append_left hi, List.getD_eq_getElem?_getD]
      have ht : T.take S.length = S := by
        have := congrArg (List.take S.length) g2
        rw [List.take_take, Nat.min_eq_left (by omega)] at this
        rw [this]; simp
      obtain ⟨hW, hm⟩ := okS_iff.1 hok
      refine ⟨by omega, ht, fun j hj hj2 => ?_, fun i j hi hij hj2 b hb => ?_, fun i j hij hj hj2 hb => ?_⟩
      · by_cases e : j = S.length
        · subst e; rw [hTs]; exact ⟨h0, hW, hw⟩
        · obtain ⟨k1, k2, k3⟩ := g3.ok j (by omega) hj2
          exact ⟨k1, k2, fun b hb => by have := k3 b hb; rw [less_bit, Bool.and_eq_true] at this; exact this.1⟩
      · by_cases e : i = S.length
        · subst e
          rw [hTs] at hb
          obtain ⟨_, _, k3⟩ := g3.ok j (by omega) hj2
          cases e2 : (T.getD j 0).testBit b
          · rfl
          · have := k3 b e2
            rw [less_bit, hb] at this
            simp at this
        · exact g3.apart i j (by omega) hij hj2 b hb
      · by_cases e : j = S.length
        · subst e
          rw [hTs, hTS i hij]
          exact hm i hij hb
        · exact g3.meet i j hij (by omega) hj2 hb
    · cases hg

end Go.Proofs.Ytfflnpcbpcldeaa
