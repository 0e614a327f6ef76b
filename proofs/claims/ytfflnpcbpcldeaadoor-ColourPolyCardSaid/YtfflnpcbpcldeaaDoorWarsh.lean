/- Warshall's law, in plain words. No program in sight. -/
import Derived.Test.YtfflnpcbpcldeaaDoorStan
namespace Go.Proofs.YtfflnpcbpcldeaaDoor
open Go Go.RowKit

/-- A way from i to j over nodes below k. -/
def wayK (l : List (Int × Int)) : Nat → Nat → Nat → Prop
  | 0, i, j => i = j ∨ ((i : Int), (j : Int)) ∈ l
  | k + 1, i, j => wayK l k i j ∨ (wayK l k i k ∧ wayK l k k j)
theorem wayK.up {l : List (Int × Int)} {i j : Nat} (h : i = j ∨ ((i : Int), (j : Int)) ∈ l) : ∀ k : Nat, wayK l k i j
  | 0 => h
  | k + 1 => Or.inl (wayK.up h k)
theorem wayK.over {l : List (Int × Int)} : ∀ (k : Nat) {i v j : Nat}, v < k → wayK l k i v → wayK l k v j → wayK l k i j
  | 0, i, v, j, h, _, _ => by omega
  | k + 1, i, v, j, h, h1, h2 => by
    by_cases e : v = k
    · subst e
      have a1 : wayK l v i v := h1.elim id fun h => h.1
      have a2 : wayK l v v j := h2.elim id fun h => h.2
      exact Or.inr ⟨a1, a2⟩
    · have hv : v < k := by omega
      rcases h1 with a | ⟨a, b⟩ <;> rcases h2 with c | ⟨c, d⟩
      · exact Or.inl (wayK.over k hv a c)
      · exact Or.inr ⟨wayK.over k hv a c, d⟩
      · exact Or.inr ⟨a, wayK.over k hv b c⟩
      · exact Or.inr ⟨a, d⟩
theorem wayK.of_way {l : List (Int × Int)} {n : Nat} (hl : ∀ e ∈ l, 0 ≤ e.1 ∧ e.1 < n ∧ 0 ≤ e.2 ∧ e.2 < n) {u v : Int} (h : WayA l u v) (hu : 0 ≤ u ∧ u < n) : wayK l n u.toNat v.toNat ∧ 0 ≤ v ∧ v < n := by
  induction h with
  | here => exact ⟨wayK.up (Or.inl rfl) n, hu⟩
  | @step v w _ h2 ih =>
    obtain ⟨h1, h3, h4⟩ := ih
    have he := hl _ h2
    simp only at he
    refine ⟨wayK.over n (v := v.toNat) (by omega) h1 (wayK.up (Or.inr ?_) n), he.2.2⟩
    rw [show ((v.toNat : Nat) : Int) = v by omega, show ((w.toNat : Nat) : Int) = w by omega]
    exact h2

/-- In the midst of Warshall's three loops. -/
structure LInv (l : List (Int × Int)) (n k i j : Nat) (G : Nat → Nat → Bool) : Prop where
  sound : ∀ a, a < n → ∀ b, b < n → G a b = true → WayA l (a : Int) (b : Int)
  full : ∀ a, a < n → ∀ b, b < n → wayK l (if a < i ∨ (a = i ∧ b < j) then k + 1 else k) a b → G a b = true
theorem LInv.start {l : List (Int × Int)} {n : Nat} {G : Nat → Nat → Bool} (h : ∀ a, a < n → ∀ b, b < n → (G a b = true ↔ a = b ∨ ((a : Int), (b : Int)) ∈ l)) : LInv l n 0 0 0 G :=
  ⟨fun a ha b hb hg => by
    rcases (h a ha b hb).1 hg with rfl | h
    · exact .here _
    · exact .step (.here _) h, fun a ha b hb hw => by
    rw [if_neg (by omega)] at hw
    exact (h a ha b hb).2 hw⟩
theorem LInv.step {l : List (Int × Int)} {n k i j : Nat} {G : Nat → Nat → Bool} (h : LInv l n k i j G) (hk : k < n) (hi : i < n) (hj : j < n) :
    LInv l n k i (j + 1) fun a b => if a = i ∧ b = j then G i j || (G i k && G k j) else G a b := by
  have low : ∀ a, a < n → ∀ b, b < n → wayK l k a b → G a b = true := fun a ha b hb hw => h.full a ha b hb (by split; exact Or.inl hw; exact hw)
  refine ⟨fun a ha b hb hg => ?_, fun a ha b hb hw => ?_⟩
  · by_cases e : a = i ∧ b = j
    · obtain ⟨rfl, rfl⟩ := e
      rw [if_pos ⟨rfl, rfl⟩] at hg
      simp only [Bool.or_eq_true, Bool.and_eq_true] at hg
      rcases hg with hg | ⟨h1, h2⟩
      · exact h.sound _ ha _ hb hg
      · exact (h.sound _ ha _ hk h1).trans (h.sound _ hk _ hb h2)
    · rw [if_neg e] at hg
      exact h.sound a ha b hb hg
  · by_cases e : a = i ∧ b = j
    · obtain ⟨rfl, rfl⟩ := e
      rw [if_pos ⟨rfl, rfl⟩]
      rw [if_pos (by omega)] at hw
      simp only [Bool.or_eq_true, Bool.and_eq_true]
      rcases hw with hw | ⟨h1, h2⟩
      · exact Or.inl (low a ha b hb hw)
      · exact Or.inr ⟨low a ha k hk h1, low k hk b hb h2⟩
    · rw [if_neg e]
      refine h.full a ha b hb ?_
      by_cases c : a < i ∨ (a = i ∧ b < j)
      · rw [if_pos c]; rw [if_pos (by omega)] at hw; exact hw
      · rw [if_neg c]; rw [if_neg (by omega)] at hw; exact hw
theorem LInv.row {l : List (Int × Int)} {n k i : Nat} {G : Nat → Nat → Bool} (h : LInv l n k i n G) : LInv l n k (i + 1) 0 G :=
  ⟨h.sound, fun a ha b hb hw => h.full a ha b hb (by
    by_cases c : a < i ∨ (a = i ∧ b < n)
    · rw [if_pos c]; rw [if_pos (by omega)] at hw; exact hw
    · rw [if_neg c]; rw [if_neg (by omega)] at hw; exact hw)⟩
theorem LInv.round {l : List (Int × Int)} {n k : Nat} {G : Nat → Nat → Bool} (h : LInv l n k n 0 G) : LInv l n (k + 1) 0 0 G :=
  ⟨h.sound, fun a ha b hb hw => h.full a ha b hb (by
    rw [if_neg (by omega)] at hw
    rw [if_pos (by omega)]; exact hw)⟩
theorem LInv.done {l : List (Int × Int)} {n : Nat} {G : Nat → Nat → Bool} (hl : ∀ e ∈ l, 0 ≤ e.1 ∧ e.1 < n ∧ 0 ≤ e.2 ∧ e.2 < n) (h : LInv l n n 0 0 G) {a b : Nat} (ha : a < n) (hb : b < n) : G a b = true ↔ WayA l (a : Int) (b : Int) :=
  ⟨h.sound a ha b hb, fun hw => h.full a ha b hb (by
    rw [if_neg (by omega)]
    have := (wayK.of_way hl hw ⟨by omega, by omega⟩).1
    simpa using this)⟩

end Go.Proofs.YtfflnpcbpcldeaaDoor
