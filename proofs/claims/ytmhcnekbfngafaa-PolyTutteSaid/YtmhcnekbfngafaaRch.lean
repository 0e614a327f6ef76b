/- Which nodes can be reached; how many components there are. No program in sight. -/
import Derived.Test.YtmhcnekbfngafaaMem
namespace Go.Proofs.Ytmhcnekbfngafaa
open Go Go.RowKit

/-- From a one comes to b, where some are shut. -/
inductive Rch (N : Nat) (G : Nat → Nat → Bool) (S : Nat → Bool) (a : Nat) : Nat → Prop
  | refl : Rch N G S a a
  | step {b c : Nat} : Rch N G S a b → b < N → c < N → G b c = true → S c = false → Rch N G S a c
theorem Rch.trans {N : Nat} {G : Nat → Nat → Bool} {S : Nat → Bool} {a b c : Nat} (h : Rch N G S a b) (k : Rch N G S b c) : Rch N G S a c := by
  induction k with
  | refl => exact h
  | step _ h1 h2 h3 h4 ih => exact .step ih h1 h2 h3 h4
theorem Rch.lt {N : Nat} {G : Nat → Nat → Bool} {S : Nat → Bool} {a b : Nat} (h : Rch N G S a b) (ha : a < N) : b < N := by
  cases h with
  | refl => exact ha
  | step _ _ h2 _ _ => exact h2
theorem Rch.free {N : Nat} {G : Nat → Nat → Bool} {S : Nat → Bool} {a b : Nat} (h : Rch N G S a b) (ha : S a = false) : S b = false := by
  cases h with
  | refl => exact ha
  | step _ _ _ _ h4 => exact h4
open Classical in
noncomputable def rchB (N : Nat) (G : Nat → Nat → Bool) (S : Nat → Bool) (a b : Nat) : Bool := decide (Rch N G S a b)
theorem rchB_iff {N : Nat} {G : Nat → Nat → Bool} {S : Nat → Bool} {a b : Nat} : rchB N G S a b = true ↔ Rch N G S a b := by unfold rchB; simp

/-- How many are in. -/
def cnt (I : Nat → Bool) : Nat → Nat
  | 0 => 0
  | n + 1 => cnt I n + (if I n = true then 1 else 0)
theorem cnt_le (I : Nat → Bool) : ∀ n, cnt I n ≤ n
  | 0 => Nat.le_refl _
  | n + 1 => by have := cnt_le I n; rw [cnt]; split <;> omega
theorem cnt_mono {I J : Nat → Bool} : ∀ {n}, (∀ k, k < n → I k = true → J k = true) → cnt I n ≤ cnt J n
  | 0, _ => Nat.le_refl _
  | n + 1, h => by
    have := cnt_mono (n := n) (I := I) (J := J) fun k hk => h k (by omega)
    rw [cnt, cnt]
    by_cases e : I n = true
    · rw [if_pos e, if_pos (h n (by omega) e)]; omega
    · rw [if_neg e]; split <;> omega
theorem cnt_more {I J : Nat → Bool} {x : Nat} : ∀ {n}, (∀ k, k < n → I k = true → J k = true) → x < n → I x = false → J x = true → cnt I n < cnt J n
  | 0, _, hx, _, _ => absurd hx (Nat.not_lt_zero _)
  | n + 1, h, hx, h1, h2 => by
    rw [cnt, cnt]
    by_cases e : x = n
    · subst e
      have := cnt_mono (n := x) (I := I) (J := J) fun k hk => h k (by omega)
      rw [if_neg (by rw [h1]; exact Bool.false_ne_true), if_pos h2]; omega
    · have := cnt_more (n := n) (I := I) (J := J) (fun k hk => h k (by omega)) (by omega) h1 h2
      by_cases e2 : I n = true
      · rw [if_pos e2, if_pos (h n (by omega) e2)]; omega
      · rw [if_neg e2]; split <;> omega

/-- One pass under way: at node i, neighbour j. -/
structure Pass (N : Nat) (G : Nat → Nat → Bool) (S : Nat → Bool) (a : Nat) (I0 I : Nat → Bool) (ag : Bool) (i j : Nat) : Prop where
  has : I a = true
  old : ∀ k, k < N → I0 k = true → I k = true
  con : ∀ k, k < N → I k = true → Rch N G S a k
  more : ag = true → cnt I0 N < cnt I N
  same : ag = false → (∀ k, k < N → I k = I0 k) ∧ ∀ u v, (u < i ∧ v < N ∨ u = i ∧ v < j) → u < N → I u = true → G u v = true → I v = true ∨ S v = true
section
variable {N : Nat} {G : Nat → Nat → Bool} {S : Nat → Bool} {a : Nat} {I0 I : Nat → Bool} {ag : Bool} {i j : Nat}
theorem Pass.start (ha : I a = true) (hc : ∀ k, k < N → I k = true → Rch N G S a k) : Pass N G S a I I false 0 0 :=
  ⟨ha, fun _ _ h => h, hc, (fun h => by cases h), fun _ => ⟨fun _ _ => rfl, fun u v h => by omega⟩⟩
theorem Pass.skip (h : Pass N G S a I0 I ag i j) (hno : ¬ (I i = true ∧ G i j = true ∧ I j = false ∧ S j = false)) : Pass N G S a I0 I ag i (j + 1) :=
  ⟨h.has, h.old, h.con, h.more, fun e => ⟨(h.same e).1, fun u v huv hu h1 h2 => by
    by_cases e2 : u = i ∧ v = j
    · obtain ⟨rfl, rfl⟩ := e2
      cases e3 : I v
      · cases e4 : S v
        · exact absurd ⟨h1, h2, e3, e4⟩ hno
        · exact Or.inr rfl
      · exact Or.inl rfl
    · exact (h.same e).2 u v (by omega) hu h1 h2⟩⟩
theorem Pass.add (h : Pass N G S a I0 I ag i j) (hi : i < N) (hj : j < N) (h1 : I i = true) (h2 : G i j = true) (h3 : I j = false) (h4 : S j = false) : Pass N G S a I0 (fun k => if k = j then true else I k) true i (j + 1) := by
  have up : ∀ k, k < N → I k = true → (if k = j then true else I k) = true := fun k _ hk => by split <;> simp_all
  refine ⟨?_, fun k hk h0 => up k hk (h.old k hk h0), fun k hk h0 => ?_, fun _ => ?_, (fun e => by cases e)⟩
  · show (if a = j then true else I a) = true
    rw [h.has]; simp
  · by_cases e : k = j
    · subst e; exact .step (h.con i hi h1) hi hk h2 h4
    · rw [if_neg e] at h0; exact h.con k hk h0
  · have h5 := cnt_mono (n := N) fun k hk => h.old k hk
    have h6 := cnt_more (n := N) (x := j) (J := fun k => if k = j then true else I k) (fun k hk h => up k hk h) hj h3 (by simp)
    omega
theorem Pass.next (h : Pass N G S a I0 I ag i N) : Pass N G S a I0 I ag (i + 1) 0 :=
  ⟨h.has, h.old, h.con, h.more, fun e => ⟨(h.same e).1, fun u v huv => (h.same e).2 u v (by omega)⟩⟩
theorem Pass.fin (ha : a < N) (h : Pass N G S a I0 I false N 0) : ∀ k, k < N → I k = rchB N G S a k := fun k hk => by
  have cl : ∀ c, Rch N G S a c → I c = true := fun c hc => by
    induction hc with
    | refl => exact h.has
    | @step b c h1 h2 h3 h4 h5 ih =>
      rcases (h.same rfl).2 b c (Or.inl ⟨h2, h3⟩) h2 ih h4 with h6 | h6
      · exact h6
      · rw [h5] at h6; cases h6
  cases e : rchB N G S a k
  · cases e2 : I k
    · rfl
    · rw [rchB_iff.2 (h.con k hk e2)] at e; cases e
  · exact cl k (rchB_iff.1 e)
end

/-- The first node of a component. -/
def Lead (N : Nat) (G : Nat → Nat → Bool) (S : Nat → Bool) (v : Nat) : Prop := S v = false ∧ ∀ u, u < v → S u = false → ¬ Rch N G S u v
open Classical in
noncomputable def leadB (N : Nat) (G : Nat → Nat → Bool) (S : Nat → Bool) (v : Nat) : Bool := decide (Lead N G S v)
theorem leadB_iff {N : Nat} {G : Nat → Nat → Bool} {S : Nat → Bool} {v : Nat} : leadB N G S v = true ↔ Lead N G S v := by unfold leadB; simp
/-- How many components there are. -/
noncomputable def partsF (N : Nat) (G : Nat → Nat → Bool) (S : Nat → Bool) : Nat := cnt (leadB N G S) N

open Classical in
/-- What is done by those before v. -/
noncomputable def doneB (N : Nat) (G : Nat → Nat → Bool) (S : Nat → Bool) (v k : Nat) : Bool := decide (∃ u, u < v ∧ S u = false ∧ Rch N G S u k)
theorem doneB_iff {N : Nat} {G : Nat → Nat → Bool} {S : Nat → Bool} {v k : Nat} : doneB N G S v k = true ↔ ∃ u, u < v ∧ S u = false ∧ Rch N G S u k := by unfold doneB; simp
theorem leadB_eq {N : Nat} {G : Nat → Nat → Bool} {S : Nat → Bool} {v : Nat} : leadB N G S v = (!doneB N G S v v && !S v) := by
  rw [Bool.eq_iff_iff, leadB_iff, Bool.and_eq_true, Bool.not_eq_true', Bool.not_eq_true']
  constructor
  · rintro ⟨h1, h2⟩
    refine ⟨?_, h1⟩
    cases e : doneB N G S v v
    · rfl
    · obtain ⟨u, hu, hs, hr⟩ := doneB_iff.1 e
      exact absurd hr (h2 u hu hs)
  · rintro ⟨h1, h2⟩
    refine ⟨h2, fun u hu hs hr => ?_⟩
    rw [doneB_iff.2 ⟨u, hu, hs, hr⟩] at h1; cases h1
theorem doneB_lead {N : Nat} {G : Nat → Nat → Bool} {S : Nat → Bool} {v : Nat} (h : leadB N G S v = true) (k : Nat) : doneB N G S (v + 1) k = (doneB N G S v k || rchB N G S v k) := by
  rw [Bool.eq_iff_iff, Bool.or_eq_true, doneB_iff, doneB_iff, rchB_iff]
  constructor
  · rintro ⟨u, hu, hs, hr⟩
    by_cases e : u = v
    · subst e; exact Or.inr hr
    · exact Or.inl ⟨u, by omega, hs, hr⟩
  · rintro (⟨u, hu, hs, hr⟩ | hr)
    · exact ⟨u, by omega, hs, hr⟩
    · exact ⟨v, by omega, (leadB_iff.1 h).1, hr⟩
theorem doneB_other {N : Nat} {G : Nat → Nat → Bool} {S : Nat → Bool} {v : Nat} (h : leadB N G S v = false) (k : Nat) : doneB N G S (v + 1) k = doneB N G S v k := by
  rw [Bool.eq_iff_iff, doneB_iff, doneB_iff]
  constructor
  · rintro ⟨u, hu, hs, hr⟩
    by_cases e : u = v
    · subst e
      rw [leadB_eq] at h
      have hd : doneB N G S u u = true := by
        cases e2 : doneB N G S u u
        · rw [e2, hs] at h; cases h
        · rfl
      obtain ⟨x, hx, hxs, hxr⟩ := doneB_iff.1 hd
      exact ⟨x, hx, hxs, hxr.trans hr⟩
    · exact ⟨u, by omega, hs, hr⟩
  · rintro ⟨u, hu, hs, hr⟩
    exact ⟨u, by omega, hs, hr⟩

end Go.Proofs.Ytmhcnekbfngafaa
