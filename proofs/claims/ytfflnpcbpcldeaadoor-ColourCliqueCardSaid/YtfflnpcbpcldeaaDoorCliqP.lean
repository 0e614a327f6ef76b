/- The greatest clique, and of these the first one: two ways that find the same. No program in sight. -/
import Derived.Test.YtfflnpcbpcldeaaDoorBirk
import Derived.Test.YtfflnpcbpcldeaaDoorSub
namespace Go.Proofs.YtfflnpcbpcldeaaDoor
open Go Go.RowKit

/-- Any two of a set are near. -/
def Clq (G : Nat → Nat → Bool) (s : Nat) : Prop := ∀ u v, s.testBit u = true → s.testBit v = true → u ≠ v → G u v = true
/-- S stands ahead of T. -/
def Ahead (S T : Nat) : Prop := ∃ d, S.testBit d = true ∧ T.testBit d = false ∧ ∀ i, i < d → S.testBit i = T.testBit i
theorem Ahead.anti {S T : Nat} (h : Ahead S T) (k : Ahead T S) : False := by
  obtain ⟨d, h1, h2, h3⟩ := h
  obtain ⟨e, k1, k2, k3⟩ := k
  rcases Nat.lt_trichotomy d e with x | x | x
  · have := k3 d x; rw [h1, h2] at this; cases this
  · subst x; rw [h1] at k2; cases k2
  · have := h3 e x; rw [k1, k2] at this; cases this
/-- The first of the greatest ones. -/
structure Best (c : Nat → Nat) (F : Nat → Prop) (S : Nat) : Prop where
  mem : F S
  top : ∀ T, F T → c T < c S ∨ (c T = c S ∧ (T = S ∨ Ahead S T))
theorem Best.uniq {c : Nat → Nat} {F F' : Nat → Prop} (hF : ∀ T, F T ↔ F' T) {S S' : Nat} (h : Best c F S) (k : Best c F' S') : S = S' := by
  have h1 := h.top S' ((hF _).2 k.mem)
  have k1 := k.top S ((hF _).1 h.mem)
  rcases h1 with h1 | ⟨h1, h2⟩
  · rcases k1 with k1 | ⟨k1, -⟩ <;> omega
  · rcases k1 with k1 | ⟨k1, k2⟩
    · omega
    · rcases h2 with h2 | h2
      · exact h2.symm
      · rcases k2 with k2 | k2
        · exact k2
        · exact absurd k2 (fun k2 => h2.anti k2)
/-- What becomes of the best one so far. -/
def Res (c : Nat → Nat) (b : Option Nat) (F : Nat → Prop) (b' : Option Nat) : Prop :=
  (b' = b ∧ ∃ B, b = some B ∧ ∀ T, F T → c T ≤ c B) ∨ ∃ S, b' = some S ∧ (∀ B, b = some B → c B < c S) ∧ Best c F S
theorem Res.iff {c : Nat → Nat} {b b' : Option Nat} {F F' : Nat → Prop} (hF : ∀ T, F' T ↔ F T) (h : Res c b F b') : Res c b F' b' := by
  rcases h with ⟨h1, B, h2, h3⟩ | ⟨S, h1, h2, h3⟩
  · exact Or.inl ⟨h1, B, h2, fun T hT => h3 T ((hF T).1 hT)⟩
  · exact Or.inr ⟨S, h1, h2, (hF S).2 h3.mem, fun T hT => h3.top T ((hF T).1 hT)⟩
theorem Res.join {c : Nat → Nat} {b b1 b2 : Option Nat} {F1 F2 : Nat → Prop} (h : Res c b F1 b1) (k : Res c b1 F2 b2) (ha : ∀ S T, F1 S → F2 T → c S = c T → Ahead S T) :
    Res c b (fun T => F1 T ∨ F2 T) b2 := by
  rcases h with ⟨h1, B, h2, h3⟩ | ⟨S, h1, h2, h3⟩
  · subst h1
    rcases k with ⟨k1, B', k2, k3⟩ | ⟨S', k1, k2, k3⟩
    · rw [h2] at k2
      cases k2
      exact Or.inl ⟨k1, B, h2, fun T hT => hT.elim (h3 T) (k3 T)⟩
    · refine Or.inr ⟨S', k1, k2, Or.inr k3.mem, fun T hT => ?_⟩
      rcases hT with hT | hT
      · have := h3 T hT; have := k2 B h2; exact Or.inl (by omega)
      · exact k3.top T hT
  · rcases k with ⟨k1, B', k2, k3⟩ | ⟨S', k1, k2, k3⟩
    · rw [h1] at k2
      cases k2
      refine Or.inr ⟨S, k1.trans h1, h2, Or.inl h3.mem, fun T hT => ?_⟩
      rcases hT with hT | hT
      · exact h3.top T hT
      · have := k3 T hT
        by_cases e : c T = c S
        · exact Or.inr ⟨e, Or.inr (ha S T h3.mem hT e.symm)⟩
        · exact Or.inl (by omega)
    · have hlt := k2 S h1
      refine Or.inr ⟨S', k1, fun B hB => by have := h2 B hB; omega, Or.inr k3.mem, fun T hT => ?_⟩
      rcases hT with hT | hT
      · rcases h3.top T hT with x | ⟨x, -⟩ <;> exact Or.inl (by omega)
      · exact k3.top T hT
/-- None at all. -/
theorem Res.empty {c : Nat → Nat} {B : Nat} {F : Nat → Prop} (h : ∀ T, ¬ F T) : Res c (some B) F (some B) := Or.inl ⟨rfl, B, rfl, fun T hT => absurd hT (h T)⟩
theorem Res.one {c : Nat → Nat} {b : Option Nat} {m : Nat} (h : ∀ B, b = some B → c B < c m) : Res c b (fun T => T = m) (some m) := Or.inr ⟨m, rfl, h, rfl, fun T hT => Or.inr ⟨by rw [hT], Or.inl hT⟩⟩
theorem Res.keep {c : Nat → Nat} {B : Nat} {F : Nat → Prop} (h : ∀ T, F T → c T ≤ c B) : Res c (some B) F (some B) := Or.inl ⟨rfl, B, rfl, h⟩

/-! How many. -/
theorem card_within {s t : Nat} (h : Within s t) (n : Nat) : card n s ≤ card n t := by
  rw [card_split (sub_iff.2 h) n]; omega
theorem card_more {s t j : Nat} (h : Within s t) (hs : s.testBit j = false) (ht : t.testBit j = true) {n : Nat} (hj : j < n) : card n s < card n t := by
  have := card_pos (t := less t s) (i := j) (by rw [less_bit, hs, ht]; rfl) hj
  rw [card_split (sub_iff.2 h) n]; omega
theorem card_lor (s t : Nat) : ∀ n, card n (lor s t) ≤ card n s + card n t
  | 0 => Nat.le_refl _
  | n + 1 => by
    have := card_lor s t n
    rw [card, card, card, lor_bit]
    cases s.testBit n <;> cases t.testBit n <;> simp <;> omega

/-! With a node, and without it. -/
section
variable {G : Nat → Nat → Bool}
def FamA (G : Nat → Nat → Bool) (i l T : Nat) : Prop := Within i T ∧ Within T (lor i l) ∧ Clq G T
structure InvA (G : Nat → Nat → Bool) (i l : Nat) : Prop where
  cl : Clq G i
  apart : ∀ j, l.testBit j = true → i.testBit j = false
  near : ∀ u w, i.testBit u = true → l.testBit w = true → G u w = true
theorem InvA.start (l : Nat) : InvA G 0 l := ⟨fun u v h => by simp at h, fun j _ => by simp, fun u w h => by simp at h⟩
theorem famA_leaf {i : Nat} (h : Clq G i) (T : Nat) : FamA G i 0 T ↔ T = i := by
  constructor
  · rintro ⟨h1, h2, -⟩
    refine Nat.eq_of_testBit_eq fun j => ?_
    have a := h1 j
    have b := h2 j
    rw [lor_bit] at b
    cases e : i.testBit j <;> cases e' : T.testBit j <;> simp_all
  · rintro rfl
    exact ⟨Within.refl _, fun j hj => by rw [lor_bit, hj]; rfl, h⟩
theorem famA_bound {i l B n : Nat} (h : card n i + card n l ≤ card n B) (T : Nat) (hT : FamA G i l T) : card n T ≤ card n B := by
  have h1 := card_within hT.2.1 n
  have h2 := card_lor i l n
  omega
theorem InvA.with {i l v nb N : Nat} (h : InvA G i l) (hsy : ∀ u w, G u w = G w u) (hv : l.testBit v = true) (hnb : ∀ j, nb.testBit j = (decide (j < N) && G v j)) (hself : G v v = false) : InvA G (lor i (pow2 v)) (land l nb) := by
  refine ⟨fun u w hu hw hne => ?_, fun j hj => ?_, fun u w hu hw => ?_⟩
  · rw [lor_bit, pow2_bit] at hu hw
    simp only [Bool.or_eq_true, decide_eq_true_eq] at hu hw
    rcases hu with hu | hu <;> rcases hw with hw | hw
    · exact h.cl u w hu hw hne
    · subst hw; exact h.near u v hu hv
    · subst hu; rw [hsy]; exact h.near w v hw hv
    · exact absurd (hu.symm.trans hw) hne
  · rw [land_bit, hnb] at hj
    simp only [Bool.and_eq_true, decide_eq_true_eq] at hj
    rw [lor_bit, pow2_bit, h.apart j hj.1]
    have : v ≠ j := fun e => by subst e; rw [hself] at hj; exact absurd hj.2.2 (by decide)
    simp [this]
  · rw [lor_bit, pow2_bit] at hu
    rw [land_bit, hnb] at hw
    simp only [Bool.and_eq_true, Bool.or_eq_true, decide_eq_true_eq] at hu hw
    rcases hu with hu | hu
    · exact h.near u w hu hw.1
    · subst hu; exact hw.2.2
theorem InvA.without {i l v : Nat} (h : InvA G i l) : InvA G i (less l (pow2 v)) :=
  have hl : ∀ j, (less l (pow2 v)).testBit j = true → l.testBit j = true := fun j hj => by
    rw [less_bit] at hj
    simp only [Bool.and_eq_true] at hj
    exact hj.1
  ⟨h.cl, fun j hj => h.apart j (hl j hj), fun u w hu hw => h.near u w hu (hl w hw)⟩
theorem famA_split {i l v nb N : Nat} (hi : InvA G i l) (hl : l < 2 ^ N) (hv : l.testBit v = true) (hnb : ∀ j, nb.testBit j = (decide (j < N) && G v j)) (T : Nat) :
    FamA G i l T ↔ FamA G (lor i (pow2 v)) (land l nb) T ∨ FamA G i (less l (pow2 v)) T := by
  constructor
  · rintro ⟨h1, h2, h3⟩
    cases e : T.testBit v with
    | true =>
      refine Or.inl ⟨fun j hj => ?_, fun j hj => ?_, h3⟩
      · rw [lor_bit, pow2_bit] at hj
        simp only [Bool.or_eq_true, decide_eq_true_eq] at hj
        rcases hj with hj | hj
        · exact h1 j hj
        · subst hj; exact e
      · have := h2 j hj
        rw [lor_bit] at this
        rw [lor_bit, lor_bit, pow2_bit, land_bit, hnb]
        by_cases ev : v = j
        · simp [ev]
        · cases e1 : i.testBit j with
          | true => simp
          | false =>
            rw [e1] at this
            simp at this
            have hj' := bit_ltN hl this
            rw [this, h3 v j e hj ev]
            simp [hj']
    | false =>
      refine Or.inr ⟨h1, fun j hj => ?_, h3⟩
      have := h2 j hj
      rw [lor_bit] at this
      rw [lor_bit, less_bit, pow2_bit]
      have ev : v ≠ j := fun ev => by subst ev; rw [hj] at e; cases e
      simpa [ev] using this
  · rintro (⟨h1, h2, h3⟩ | ⟨h1, h2, h3⟩)
    · refine ⟨fun j hj => h1 j (by rw [lor_bit, hj]; rfl), fun j hj => ?_, h3⟩
      have := h2 j hj
      rw [lor_bit, lor_bit, pow2_bit, land_bit] at this
      rw [lor_bit]
      simp only [Bool.or_eq_true, Bool.and_eq_true, decide_eq_true_eq] at this ⊢
      rcases this with (h | h) | h
      · exact Or.inl h
      · subst h; exact Or.inr hv
      · exact Or.inr h.1
    · refine ⟨h1, fun j hj => ?_, h3⟩
      have := h2 j hj
      rw [lor_bit, less_bit] at this
      rw [lor_bit]
      simp only [Bool.or_eq_true, Bool.and_eq_true] at this ⊢
      rcases this with h | h
      · exact Or.inl h
      · exact Or.inr h.1
theorem famA_ahead {i l v nb S T : Nat} (hi : InvA G i l) (hv : l.testBit v = true) (hlow : ∀ j, j < v → l.testBit j = false) (hS : FamA G (lor i (pow2 v)) (land l nb) S) (hT : FamA G i (less l (pow2 v)) T) : Ahead S T := by
  refine ⟨v, hS.1 v (by rw [lor_bit, pow2_bit]; simp), ?_, fun j hj => ?_⟩
  · cases e : T.testBit v with
    | false => rfl
    | true =>
      have := hT.2.1 v e
      rw [lor_bit, less_bit, pow2_bit, hi.apart v hv] at this
      simp at this
  · have h1 : S.testBit j = i.testBit j := by
      cases e : i.testBit j with
      | true => exact hS.1 j (by rw [lor_bit, e]; rfl)
      | false =>
        cases e2 : S.testBit j with
        | false => rfl
        | true =>
          have := hS.2.1 j e2
          rw [lor_bit, lor_bit, pow2_bit, land_bit, e, hlow j hj] at this
          simp at this
          omega
    have h2 : T.testBit j = i.testBit j := by
      cases e : i.testBit j with
      | true => exact hT.1 j e
      | false =>
        cases e2 : T.testBit j with
        | false => rfl
        | true =>
          have := hT.2.1 j e2
          rw [lor_bit, less_bit, e, hlow j hj] at this
          simp at this
    rw [h1, h2]

/-! Node by node, upwards. -/
def FamB (G : Nat → Nat → Bool) (N m o T : Nat) : Prop := Within m T ∧ Clq G T ∧ T < 2 ^ N ∧ ∀ j, j < o → T.testBit j = true → m.testBit j = true
def ParB (G : Nat → Nat → Bool) (N m o v T : Nat) : Prop := FamB G N m o T ∧ (T = m ∨ ∃ w, o ≤ w ∧ w < v ∧ T.testBit w = true)
theorem parB_start {N m o : Nat} (hm : Clq G m) (hmN : m < 2 ^ N) (T : Nat) : ParB G N m o o T ↔ T = m := by
  constructor
  · rintro ⟨-, h | ⟨w, h1, h2, -⟩⟩
    · exact h
    · omega
  · rintro rfl
    exact ⟨⟨Within.refl _, hm, hmN, fun j _ h => h⟩, Or.inl rfl⟩
theorem parB_with {N m o v : Nat} (hmo : m < 2 ^ o) (hv : o ≤ v) (T : Nat) : ParB G N m o (v + 1) T ↔ ParB G N m o v T ∨ FamB G N (lor m (pow2 v)) (v + 1) T := by
  constructor
  · rintro ⟨h, h1⟩
    by_cases hw : T = m ∨ ∃ w, o ≤ w ∧ w < v ∧ T.testBit w = true
    · exact Or.inl ⟨h, hw⟩
    · right
      obtain ⟨w, w1, w2, w3⟩ : ∃ w, o ≤ w ∧ w < v + 1 ∧ T.testBit w = true := h1.resolve_left fun e => hw (Or.inl e)
      have : w = v := Classical.byContradiction fun hne => hw (Or.inr ⟨w, w1, by omega, w3⟩)
      subst this
      refine ⟨fun j hj => ?_, h.2.1, h.2.2.1, fun j hj hT => ?_⟩
      · rw [lor_bit, pow2_bit] at hj
        simp only [Bool.or_eq_true, decide_eq_true_eq] at hj
        rcases hj with hj | hj
        · exact h.1 j hj
        · subst hj; exact w3
      · rw [lor_bit, pow2_bit]
        by_cases e : j < o
        · rw [h.2.2.2 j e hT]; rfl
        · by_cases e2 : w = j
          · simp [e2]
          · exact absurd (Or.inr ⟨j, by omega, by omega, hT⟩) hw
  · rintro (⟨h, h1⟩ | h)
    · refine ⟨h, h1.imp id ?_⟩
      rintro ⟨w, w1, w2, w3⟩
      exact ⟨w, w1, by omega, w3⟩
    · refine ⟨⟨fun j hj => h.1 j (by rw [lor_bit, hj]; rfl), h.2.1, h.2.2.1, fun j hj hT => ?_⟩, Or.inr ⟨v, hv, by omega, h.1 v (by rw [lor_bit, pow2_bit]; simp)⟩⟩
      have := h.2.2.2 j (by omega) hT
      rw [lor_bit, pow2_bit] at this
      simpa [show ¬ v = j by omega] using this
theorem parB_skip {N m o v u : Nat} (hmo : m < 2 ^ o) (hv : o ≤ v) (hu : m.testBit u = true) (hG : G v u = false) (T : Nat) : ParB G N m o (v + 1) T ↔ ParB G N m o v T := by
  rw [parB_with hmo hv]
  refine ⟨fun h => h.elim id fun h => ?_, Or.inl⟩
  have hlt := bit_ltN hmo hu
  have := h.2.1 v u (h.1 v (by rw [lor_bit, pow2_bit]; simp)) (h.1 u (by rw [lor_bit, hu]; rfl)) (by omega)
  rw [hG] at this; cases this
theorem parB_end {N m o : Nat} (T : Nat) : ParB G N m o N T ↔ FamB G N m o T := by
  refine ⟨fun h => h.1, fun h => ⟨h, ?_⟩⟩
  by_cases e : T = m
  · exact Or.inl e
  · right
    refine Classical.byContradiction fun hn => e (Nat.eq_of_testBit_eq fun j => ?_)
    cases e1 : m.testBit j with
    | true => exact h.1 j e1
    | false =>
      cases e2 : T.testBit j with
      | false => rfl
      | true =>
        have hj := bit_ltN h.2.2.1 e2
        rcases Nat.lt_or_ge j o with x | x
        · rw [h.2.2.2 j x e2] at e1; cases e1
        · exact absurd ⟨j, x, hj, e2⟩ hn
theorem least_from {S o : Nat} : ∀ (k w : Nat), w = o + k → S.testBit w = true → ∃ x, o ≤ x ∧ x ≤ w ∧ S.testBit x = true ∧ ∀ i, o ≤ i → i < x → S.testBit i = false := by
  intro k
  induction k using Nat.strongRecOn with
  | ind k ih =>
    intro w hw hS
    by_cases h : ∃ i, o ≤ i ∧ i < w ∧ S.testBit i = true
    · obtain ⟨i, i1, i2, i3⟩ := h
      obtain ⟨x, x1, x2, x3, x4⟩ := ih (i - o) (by omega) i (by omega) i3
      exact ⟨x, x1, by omega, x3, x4⟩
    · refine ⟨w, by omega, Nat.le_refl _, hS, fun i hi hiw => ?_⟩
      cases e : S.testBit i with
      | false => rfl
      | true => exact absurd ⟨i, hi, hiw, e⟩ h
theorem parB_ahead {N m o v n S T : Nat} (hmo : m < 2 ^ o) (hv : o ≤ v) (hn : v < n) (hS : ParB G N m o v S) (hT : FamB G N (lor m (pow2 v)) (v + 1) T) (hc : card n S = card n T) : Ahead S T := by
  have hTm : Within m T := fun j hj => hT.1 j (by rw [lor_bit, hj]; rfl)
  have hTv : T.testBit v = true := hT.1 v (by rw [lor_bit, pow2_bit]; simp)
  have hmv : ∀ j, o ≤ j → m.testBit j = false := fun j hj => by
    cases e : m.testBit j with
    | false => rfl
    | true => have := bit_ltN hmo e; omega
  rcases hS.2 with rfl | ⟨w, w1, w2, w3⟩
  · have := card_more hTm (hmv v hv) hTv hn
    omega
  · obtain ⟨x, x1, x2, x3, x4⟩ := least_from (o := o) (w - o) w (by omega) w3
    have hTo : ∀ j, o ≤ j → j < v → T.testBit j = false := fun j hj hjv => by
      cases e : T.testBit j with
      | false => rfl
      | true =>
        have := hT.2.2.2 j (by omega) e
        rw [lor_bit, pow2_bit, hmv j hj] at this
        simp at this
        omega
    refine ⟨x, x3, hTo x x1 (by omega), fun j hj => ?_⟩
    rcases Nat.lt_or_ge j o with e | e
    · have hTj : ∀ {X : Nat}, Within m X → (X.testBit j = true → m.testBit j = true) → X.testBit j = m.testBit j := fun {X} h1 h2 => by
        cases e1 : m.testBit j with
        | true => exact h1 j e1
        | false =>
          cases e2 : X.testBit j with
          | false => rfl
          | true => rw [h2 e2] at e1; cases e1
      rw [hTj hS.1.1 (hS.1.2.2.2 j e), hTj hTm fun h => by
        have := hT.2.2.2 j (by omega) h
        rw [lor_bit, pow2_bit] at this
        simpa [show ¬ v = j by omega] using this]
    · rw [x4 j e hj, hTo j e (by omega)]
/-- Both look among all cliques. -/
theorem fam_same {N : Nat} (T : Nat) : FamA G 0 (2 ^ N - 1) T ↔ FamB G N 0 0 T := by
  constructor
  · rintro ⟨h1, h2, h3⟩
    refine ⟨h1, h3, mask_lt fun j hj => ?_, fun j hj => absurd hj (Nat.not_lt_zero _)⟩
    have := h2 j hj
    rw [lor_bit, all_bit] at this
    simpa using this
  · rintro ⟨h1, h2, h3, -⟩
    exact ⟨h1, fun j hj => by rw [lor_bit, all_bit]; simp [bit_ltN h3 hj], h2⟩
end

/-! The nodes of a set, one by one. -/
def bitsL (n m : Nat) : List Nat := (List.range n).filter fun j => m.testBit j
theorem bitsL_succ (n m : Nat) : bitsL (n + 1) m = if m.testBit n = true then bitsL n m ++ [n] else bitsL n m := by
  unfold bitsL
  rw [List.range_succ, List.filter_append]
  cases e : m.testBit n <;> simp [e]
theorem bitsL_congr {m m' : Nat} : ∀ n, (∀ j, j < n → m.testBit j = m'.testBit j) → bitsL n m = bitsL n m'
  | 0, _ => rfl
  | n + 1, h => by rw [bitsL_succ, bitsL_succ, bitsL_congr n (fun j hj => h j (by omega)), h n (by omega)]
theorem bitsL_more {k m : Nat} (h : m < 2 ^ k) : ∀ n, k ≤ n → bitsL n m = bitsL k m
  | 0, hk => by obtain rfl : k = 0 := by omega
                rfl
  | n + 1, hk => by
    rcases Nat.lt_or_ge n k with e | e
    · obtain rfl : k = n + 1 := by omega
      rfl
    · rw [bitsL_succ, if_neg, bitsL_more h n e]
      intro hb
      have := bit_ltN h hb
      omega
theorem bitsL_snoc {o m v : Nat} (h : m < 2 ^ o) (hv : o ≤ v) : bitsL (v + 1) (lor m (pow2 v)) = bitsL o m ++ [v] := by
  rw [bitsL_succ, if_pos (by rw [lor_bit, pow2_bit]; simp), bitsL_congr v (m' := m) fun j hj => by
    rw [lor_bit, pow2_bit]; simp; omega, bitsL_more h v hv]
theorem bitsL_len (m : Nat) : ∀ n, (bitsL n m).length = card n m
  | 0 => rfl
  | n + 1 => by
    rw [bitsL_succ, card, ← bitsL_len m n]
    split <;> simp
theorem mem_bitsL {n m j : Nat} : j ∈ bitsL n m ↔ j < n ∧ m.testBit j = true := by
  unfold bitsL
  rw [List.mem_filter, List.mem_range]
theorem card_more_n {k m : Nat} (h : m < 2 ^ k) (n : Nat) (hk : k ≤ n) : card n m = card k m := by
  rw [← bitsL_len, ← bitsL_len, bitsL_more h n hk]

theorem card_one {v n : Nat} (S : Nat) (hS : S.testBit v = true) (hv : v < n) : card n S ≤ card n (less S (pow2 v)) + 1 := by
  have hk : ∀ k, card k (pow2 v) ≤ if v < k then 1 else 0 := fun k => by
    induction k with
    | zero => simp [card]
    | succ k ih =>
      rw [card, pow2_bit]
      by_cases e : v = k
      · subst e
        simp at ih ⊢
        omega
      · have : (v < k + 1) ↔ v < k := by omega
        simp only [e, decide_false, this]
        simpa using ih
  have h1 : Within (pow2 v) S := fun j hj => by
    rw [pow2_bit] at hj
    rw [← of_decide_eq_true hj]; exact hS
  have := card_split (sub_iff.2 h1) n
  have := hk n
  split at this <;> omega
/-- So many nodes, any two of which have other colours, need so many colours. -/
theorem card_colours {n : Nat} {f : Nat → Nat} : ∀ (K S : Nat), (∀ u, S.testBit u = true → u < n ∧ f u < K) → (∀ u v, S.testBit u = true → S.testBit v = true → u ≠ v → f u ≠ f v) → card n S ≤ K
  | 0, S, h, _ => by
    have : S = 0 := Nat.eq_of_testBit_eq fun i => by
      cases e : S.testBit i with
      | false => simp
      | true => exact absurd (h i e).2 (Nat.not_lt_zero _)
    rw [this, card_zero]; exact Nat.le_refl _
  | K + 1, S, h, hi => by
    by_cases hu : ∃ u, S.testBit u = true ∧ f u = K
    · obtain ⟨u, u1, u2⟩ := hu
      have h1 := card_one S u1 (h u u1).1
      have hl : ∀ w, (less S (pow2 u)).testBit w = true → S.testBit w = true ∧ u ≠ w := fun w hw => by
        rw [less_bit, pow2_bit] at hw
        simpa using hw
      have h2 := card_colours K (less S (pow2 u)) (fun w hw => ⟨(h w (hl w hw).1).1, by
        have := (h w (hl w hw).1).2
        have := hi u w u1 (hl w hw).1 (hl w hw).2
        omega⟩) fun a b ha hb => hi a b (hl a ha).1 (hl b hb).1
      omega
    · have := card_colours K S (fun w hw => ⟨(h w hw).1, by
        have h1 := (h w hw).2
        have : f w ≠ K := fun e => hu ⟨w, hw, e⟩
        omega⟩) hi
      omega

end Go.Proofs.YtfflnpcbpcldeaaDoor
