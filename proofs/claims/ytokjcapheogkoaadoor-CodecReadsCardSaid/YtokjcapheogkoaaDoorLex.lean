/- Lists of pairs that rise. No program in sight. -/
import Derived.Test.YtokjcapheogkoaaDoorPrs
namespace Go.Proofs.YtokjcapheogkoaaDoor
open Go.RowKit

/-- Two lists that rise strictly and hold the same are one. -/
theorem rise_uniq {α : Type} {lt : α → α → Prop} (irr : ∀ a, ¬ lt a a) (tr : ∀ a b c, lt a b → lt b c → lt a c) : ∀ {l m : List α}, l.Pairwise lt → m.Pairwise lt → (∀ a, a ∈ l ↔ a ∈ m) → l = m
  | [], [], _, _, _ => rfl
  | [], b :: m, _, _, h => absurd ((h b).2 (List.mem_cons_self ..)) (by simp)
  | a :: l, [], _, _, h => absurd ((h a).1 (List.mem_cons_self ..)) (by simp)
  | a :: l, b :: m, hl, hm, h => by
    rw [List.pairwise_cons] at hl hm
    have e : a = b := by
      rcases List.mem_cons.1 ((h a).1 (List.mem_cons_self ..)) with e | ha
      · exact e
      · rcases List.mem_cons.1 ((h b).2 (List.mem_cons_self ..)) with e | hb
        · exact e.symm
        · exact absurd (tr _ _ _ (hm.1 a ha) (hl.1 b hb)) (irr _)
    subst e
    rw [rise_uniq irr tr hl.2 hm.2 fun x => ⟨fun hx => ?_, fun hx => ?_⟩]
    · rcases List.mem_cons.1 ((h x).1 (List.mem_cons_of_mem _ hx)) with e | hx'
      · subst e; exact absurd (hl.1 _ hx) (irr _)
      · exact hx'
    · rcases List.mem_cons.1 ((h x).2 (List.mem_cons_of_mem _ hx)) with e | hx'
      · subst e; exact absurd (hm.1 _ hx) (irr _)
      · exact hx'

/-- Pairs in order. -/
def LexLt (e f : Int × Int) : Prop := e.1 < f.1 ∨ (e.1 = f.1 ∧ e.2 < f.2)
instance (e f : Int × Int) : Decidable (LexLt e f) := by unfold LexLt; infer_instance
theorem LexLt.irr (e : Int × Int) : ¬ LexLt e e := by unfold LexLt; omega
theorem LexLt.tr (a b c : Int × Int) (h : LexLt a b) (k : LexLt b c) : LexLt a c := by unfold LexLt at *; omega
theorem LexLt.tri (a b : Int × Int) : LexLt a b ∨ a = b ∨ LexLt b a := by
  unfold LexLt
  rcases Int.lt_trichotomy a.1 b.1 with h | h | h
  · exact Or.inl (Or.inl h)
  · rcases Int.lt_trichotomy a.2 b.2 with k | k | k
    · exact Or.inl (Or.inr ⟨h, k⟩)
    · exact Or.inr (Or.inl (Prod.ext h k))
    · exact Or.inr (Or.inr (Or.inr ⟨h.symm, k⟩))
  · exact Or.inr (Or.inr (Or.inl h))

theorem mem_rowTo {p : Nat → Nat → Bool} {i b : Nat} {e : Int × Int} : e ∈ rowTo p i b ↔ ∃ j : Nat, i < j ∧ j < b ∧ p i j = true ∧ e = ((i : Int), (j : Int)) := by
  unfold rowTo
  simp only [List.mem_map, List.mem_filter, List.mem_range, Bool.and_eq_true, decide_eq_true_eq]
  exact ⟨fun ⟨j, ⟨h1, h2, h3⟩, h4⟩ => ⟨j, h2, h1, h3, h4.symm⟩, fun ⟨j, h1, h2, h3, h4⟩ => ⟨j, ⟨h2, h1, h3⟩, h4.symm⟩⟩
theorem mem_prsTo {p : Nat → Nat → Bool} {n a : Nat} {e : Int × Int} : e ∈ prsTo n p a ↔ ∃ i j : Nat, i < a ∧ i < j ∧ j < n ∧ p i j = true ∧ e = ((i : Int), (j : Int)) := by
  unfold prsTo
  simp only [List.mem_flatMap, List.mem_range, mem_rowTo]
  exact ⟨fun ⟨i, h, j, h1, h2, h3, h4⟩ => ⟨i, j, h, h1, h2, h3, h4⟩, fun ⟨i, j, h, h1, h2, h3, h4⟩ => ⟨i, h, j, h1, h2, h3, h4⟩⟩
theorem rowTo_rise (p : Nat → Nat → Bool) (i b : Nat) : (rowTo p i b).Pairwise LexLt := by
  unfold rowTo
  rw [List.pairwise_map]
  refine List.Pairwise.filter _ ?_
  refine List.Pairwise.imp ?_ List.pairwise_lt_range
  intro x y h
  unfold LexLt
  right
  exact ⟨rfl, by simpa using h⟩
theorem prsTo_rise (n : Nat) (p : Nat → Nat → Bool) (a : Nat) : (prsTo n p a).Pairwise LexLt := by
  induction a with
  | zero => simp [prsTo]
  | succ a ih =>
    rw [prsTo_succ, List.pairwise_append]
    refine ⟨ih, rowTo_rise p a n, fun e he f hf => ?_⟩
    obtain ⟨i, j, h1, -, -, -, rfl⟩ := mem_prsTo.1 he
    obtain ⟨k, -, -, -, rfl⟩ := mem_rowTo.1 hf
    unfold LexLt
    left
    simpa using h1
theorem rise_nodup {l : List (Int × Int)} (h : l.Pairwise LexLt) : l.Nodup := List.Pairwise.imp (R := LexLt) (S := (· ≠ ·)) (fun {a b} hab => by intro e; subst e; exact LexLt.irr a hab) h
/-- What does not fall and holds nothing twice rises. -/
theorem rise_of {l : List (Int × Int)} (h : l.Pairwise fun a b => ¬ LexLt b a) (hd : l.Nodup) : l.Pairwise LexLt := by
  refine List.Pairwise.imp₂ ?_ h hd
  intro a b h1 h2
  rcases LexLt.tri a b with h | h | h
  · exact h
  · exact absurd h h2
  · exact absurd h h1

/-- A pair with the lesser one first. -/
def norm (e : Int × Int) : Int × Int := (if e.1 ≤ e.2 then e.1 else e.2, if e.1 ≤ e.2 then e.2 else e.1)

end Go.Proofs.YtokjcapheogkoaaDoor
