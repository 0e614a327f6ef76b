/- Colourings, counted node by node, are what the polynomial tells. No program in sight. -/
import Derived.Test.YtfflnpcbpcldeaaDoorBirk
namespace Go.Proofs.YtfflnpcbpcldeaaDoor
open Go Go.RowKit

/-- May node v have the colour c? -/
def okC (adj : Nat → Nat → Bool) (l : List Int) (v : Nat) (c : Int) : Prop := ∀ w, w < v → ¬ (adj v w = true ∧ l.getD w (-1) = c)
instance (adj : Nat → Nat → Bool) (l : List Int) (v : Nat) (c : Int) : Decidable (okC adj l v c) := inferInstanceAs (Decidable (∀ w, w < v → ¬ (adj v w = true ∧ l.getD w (-1) = c)))
/-- Colourings with colours below x that go on from l, r nodes more; the nodes of s are gone. -/
def cntS (adj : Nat → Nat → Bool) (x s : Nat) : Nat → List Int → Int
  | 0, _ => 1
  | r + 1, l => if s.testBit l.length = true then cntS adj x s r (l ++ [-1]) else sumI (fun c => if okC adj l l.length c then cntS adj x s r (l ++ [(c : Int)]) else 0) x

def starL (x : Nat) (l : List Int) : List Int := l.map fun (c : Int) => if c = (x : Int) then (-1 : Int) else c
theorem starL_len (x : Nat) (l : List Int) : (starL x l).length = l.length := by simp [starL]
theorem starL_app (x : Nat) (l : List Int) (c : Int) : starL x (l ++ [c]) = starL x l ++ [if c = x then -1 else c] := by simp [starL]
theorem starL_at (x : Nat) (l : List Int) (i : Nat) : (starL x l).getD i (-1) = if l.getD i (-1) = x then -1 else l.getD i (-1) := by
  unfold starL
  simp only [List.getD, List.getElem?_map]
  by_cases hi : i < l.length
  · simp [List.getElem?_eq_getElem hi]
  · simp [List.getElem?_eq_none (Nat.le_of_not_lt hi)]
theorem getD_app (l : List Int) (c : Int) (i : Nat) : (l ++ [c]).getD i (-1) = if i < l.length then l.getD i (-1) else if i = l.length then c else -1 := by
  simp only [List.getD, List.getElem?_append]
  split
  · rfl
  · rename_i h
    by_cases e : i = l.length
    · rw [if_pos e, e]; simp
    · rw [if_neg e]
      have : 0 < i - l.length := by omega
      rw [List.getElem?_eq_none (by simp; omega)]; rfl

/-- What y must be behind l. -/
def Fit (free : Nat → Bool) (x s : Nat) (l : List Int) (y : Nat) : Prop := land s y = s ∧ free (less y s) = true ∧ ∀ i, i < l.length → y.testBit i = (s.testBit i || decide (l.getD i (-1) = x))

/-- One colour more: a class without an edge, ahead of all else. -/
theorem cntS_up {N : Nat} {adj : Nat → Nat → Bool} {free : Nat → Bool} (hsym : ∀ u v, adj u v = adj v u) (hself : ∀ v, adj v v = false)
    (hfree : ∀ t, t < 2 ^ N → (free t = true ↔ ∀ u v, t.testBit u = true → t.testBit v = true → adj u v = false)) {x s : Nat} (hs : s < 2 ^ N) :
    ∀ (r : Nat) (l : List Int), l.length + r = N → (∀ i, i < l.length → l.getD i (-1) = x → s.testBit i = false) →
      (∀ i j, i < l.length → j < l.length → l.getD i (-1) = x → l.getD j (-1) = x → adj i j = false) →
      ∀ [∀ y, Decidable (Fit free x s l y)], cntS adj (x + 1) s r l = sumI (fun y => if Fit free x s l y then cntS adj x y r (starL x l) else 0) (2 ^ N)
  | 0, l, hl, h1, h2, _ => by
    obtain ⟨y0, hy0, hb⟩ := ex_mask (fun i => s.testBit i || decide (l.getD i (-1) = (x : Int))) N
    have hsub : land s y0 = s := sub_iff.2 fun i hi => by rw [hb, hi]; simp [bit_ltN hs hi]
    have hfit : Fit free x s l y0 := ⟨hsub, (hfree _ (mask_lt (N := N) fun i hi => by
        rw [less_bit] at hi
        simp at hi
        exact bit_ltN hy0 hi.1)).2 fun u v hu hv => by
      rw [less_bit, hb] at hu hv
      simp at hu hv
      exact h2 u v (by omega) (by omega) (by have := hu.1.2; simp [hu.2] at this; exact this) (by have := hv.1.2; simp [hv.2] at this; exact this), fun i hi => by
      rw [hb]; simp [show i < N by omega]⟩
    rw [sumI_one (a := y0) hy0 fun y hy hne => ?_, if_pos hfit, cntS, cntS]
    rw [if_neg]
    rintro ⟨a1, a2, a3⟩
    refine hne (Nat.eq_of_testBit_eq fun i => ?_)
    rw [hb]
    by_cases hi : i < N
    · rw [a3 i (by omega)]; simp [hi]
    · cases e : y.testBit i
      · simp [hi]
      · exact absurd (bit_ltN hy e) hi
  | r + 1, l, hl, h1, h2, dec => by
    have hv : l.length < N := by omega
    have hlap : ∀ c : Int, (l ++ [c]).length = l.length + 1 := fun c => by simp
    by_cases hsv : s.testBit l.length = true
    · have e1 : cntS adj (x + 1) s (r + 1) l = cntS adj (x + 1) s r (l ++ [-1]) := by rw [cntS, if_pos hsv]
      have ih := @cntS_up N adj free hsym hself hfree x s hs r (l ++ [-1]) (by rw [hlap]; omega) (fun i hi he => by
        rw [getD_app] at he
        split at he
        · exact h1 i ‹_› he
        · split at he <;> omega) (fun i j hi hj he1 he2 => by
        rw [getD_app] at he1 he2
        have a1 : i < l.length := by
          rcases Nat.lt_or_ge i l.length with h | h
          · exact h
          · rw [if_neg (by omega)] at he1; split at he1 <;> omega
        have a2 : j < l.length := by
          rcases Nat.lt_or_ge j l.length with h | h
          · exact h
          · rw [if_neg (by omega)] at he2; split at he2 <;> omega
        rw [if_pos a1] at he1
        rw [if_pos a2] at he2
        exact h2 i j a1 a2 he1 he2) (fun y => Classical.propDecidable _)
      rw [e1, ih]
      refine sumI_congr fun y hy => ?_
      have hiff : Fit free x s (l ++ [-1]) y ↔ Fit free x s l y := by
        constructor
        · rintro ⟨a1, a2, a3⟩
          refine ⟨a1, a2, fun i hi => ?_⟩
          have := a3 i (by rw [hlap]; omega)
          rw [getD_app, if_pos hi] at this
          exact this
        · rintro ⟨a1, a2, a3⟩
          refine ⟨a1, a2, fun i hi => ?_⟩
          rw [hlap] at hi
          rw [getD_app]
          by_cases hi2 : i < l.length
          · rw [if_pos hi2]; exact a3 i hi2
          · have : i = l.length := by omega
            subst this
            rw [if_neg (by omega), if_pos rfl, hsv, sub_iff.1 a1 _ hsv]; rfl
      by_cases hf : Fit free x s l y
      · rw [if_pos hf, if_pos (hiff.2 hf), cntS, starL_len, if_pos (sub_iff.1 hf.1 _ hsv), starL_app]
        rw [if_neg (by omega)]
      · rw [if_neg hf, if_neg (fun h => hf (hiff.1 h))]
    · have hsv' : s.testBit l.length = false := by simpa using hsv
      have hfit : ∀ (c : Int) y, Fit free x s (l ++ [c]) y ↔ Fit free x s l y ∧ y.testBit l.length = decide (c = x) := fun c y => by
        constructor
        · rintro ⟨a1, a2, a3⟩
          refine ⟨⟨a1, a2, fun i hi => ?_⟩, ?_⟩
          · have := a3 i (by rw [hlap]; omega)
            rw [getD_app, if_pos hi] at this
            exact this
          · have := a3 l.length (by rw [hlap]; omega)
            rw [getD_app, if_neg (by omega), if_pos rfl, hsv'] at this
            simpa using this
        · rintro ⟨⟨a1, a2, a3⟩, a4⟩
          refine ⟨a1, a2, fun i hi => ?_⟩
          rw [hlap] at hi
          rw [getD_app]
          by_cases hi2 : i < l.length
          · rw [if_pos hi2]; exact a3 i hi2
          · have : i = l.length := by omega
            subst this
            rw [if_neg (by omega), if_pos rfl, a4, hsv']; simp
      have ih : ∀ c : Int, (c = x → okC adj l l.length c) → cntS adj (x + 1) s r (l ++ [c]) = sumI (fun y => if Fit free x s l y ∧ y.testBit l.length = decide (c = x) then cntS adj x y r (starL x l ++ [if c = x then -1 else c]) else 0) (2 ^ N) := fun c hc => by
        have := @cntS_up N adj free hsym hself hfree x s hs r (l ++ [c]) (by rw [hlap]; omega) (fun i hi he => by
          rw [getD_app] at he
          split at he
          · exact h1 i ‹_› he
          · split at he
            · rename_i e; rw [e]; exact hsv'
            · omega) (fun i j hi hj he1 he2 => by
          rw [hlap] at hi hj
          rw [getD_app] at he1 he2
          by_cases a1 : i < l.length
          · rw [if_pos a1] at he1
            by_cases a2 : j < l.length
            · rw [if_pos a2] at he2
              exact h2 i j a1 a2 he1 he2
            · have : j = l.length := by omega
              subst this
              rw [if_neg a2, if_pos rfl] at he2
              cases e : adj i l.length with
              | false => rfl
              | true => exact absurd ⟨by rw [hsym]; exact e, by rw [he1, he2]⟩ (hc he2 i a1)
          · have : i = l.length := by omega
            subst this
            rw [if_neg a1, if_pos rfl] at he1
            by_cases a2 : j < l.length
            · rw [if_pos a2] at he2
              cases e : adj l.length j with
              | false => rfl
              | true => exact absurd ⟨e, by rw [he2, he1]⟩ (hc he1 j a2)
            · have : j = l.length := by omega
              subst this
              exact hself _) (fun y => Classical.propDecidable _)
        rw [this]
        refine sumI_congr fun y _ => ?_
        by_cases hf : Fit free x s l y ∧ y.testBit l.length = decide (c = x)
        · rw [if_pos hf, if_pos ((hfit c y).2 hf), starL_app]
        · rw [if_neg hf, if_neg (fun h => hf ((hfit c y).1 h))]
      have hok : ∀ c : Nat, c < x → (okC adj l l.length c ↔ okC adj (starL x l) l.length c) := fun c hc => by
        refine forall_congr' fun w => forall_congr' fun _ => not_congr (and_congr_right fun _ => ?_)
        rw [starL_at]
        split <;> omega
      have eL : cntS adj (x + 1) s (r + 1) l = sumI (fun c => if okC adj l l.length c then cntS adj (x + 1) s r (l ++ [(c : Int)]) else 0) x + if okC adj l l.length x then cntS adj (x + 1) s r (l ++ [(x : Int)]) else 0 := by
        rw [cntS, if_neg hsv, sumI]
      have e1 : sumI (fun c => if okC adj l l.length c then cntS adj (x + 1) s r (l ++ [(c : Int)]) else 0) x =
          sumI (fun y => if Fit free x s l y ∧ y.testBit l.length = false then cntS adj x y (r + 1) (starL x l) else 0) (2 ^ N) := by
        rw [show sumI (fun c => if okC adj l l.length c then cntS adj (x + 1) s r (l ++ [(c : Int)]) else 0) x = sumI (fun (c : Nat) => sumI (fun y => if Fit free x s l y ∧ y.testBit l.length = false then (if okC adj (starL x l) l.length c then cntS adj x y r (starL x l ++ [(c : Int)]) else 0) else 0) (2 ^ N)) x from sumI_congr fun c hc => by
          by_cases ho : okC adj l l.length c
          · rw [if_pos ho, ih c (fun e => by omega)]
            refine sumI_congr fun y _ => ?_
            have e0 : decide ((c : Int) = x) = false := by simp; omega
            rw [e0, if_pos ((hok c hc).1 ho), if_neg (show ¬ (c : Int) = x by omega)]
          · rw [if_neg ho]
            exact (sumI_none fun y _ => by rw [if_neg (fun h => ho ((hok c hc).2 h))]; split <;> rfl).symm, sumI_comm]
        refine sumI_congr fun y _ => ?_
        by_cases hf : Fit free x s l y ∧ y.testBit l.length = false
        · rw [if_pos hf, cntS, starL_len, if_neg (by rw [hf.2]; simp)]
          exact sumI_congr fun c _ => by rw [if_pos hf]
        · rw [if_neg hf]
          exact sumI_none fun c _ => by rw [if_neg hf]
      have e2 : (if okC adj l l.length x then cntS adj (x + 1) s r (l ++ [(x : Int)]) else 0) = sumI (fun y => if Fit free x s l y ∧ y.testBit l.length = true then cntS adj x y (r + 1) (starL x l) else 0) (2 ^ N) := by
        by_cases ho : okC adj l l.length x
        · rw [if_pos ho, ih x (fun _ => ho)]
          refine sumI_congr fun y _ => ?_
          have e0 : decide ((x : Int) = x) = true := by simp
          rw [e0, if_pos rfl]
          by_cases hf : Fit free x s l y ∧ y.testBit l.length = true
          · rw [if_pos hf, if_pos hf, cntS, starL_len, if_pos hf.2]
          · rw [if_neg hf, if_neg hf]
        · rw [if_neg ho]
          refine (sumI_none fun y hy => ?_).symm
          rw [if_neg]
          rintro ⟨⟨a1, a2, a3⟩, a4⟩
          refine ho fun w hw ⟨b1, b2⟩ => ?_
          have hlt : less y s < 2 ^ N := mask_lt fun i hi => by
            rw [less_bit] at hi
            simp at hi
            exact bit_ltN hy hi.1
          have := (hfree _ hlt).1 a2 l.length w (by rw [less_bit, a4, hsv']; rfl) (by rw [less_bit, a3 w hw, h1 w hw b2, b2]; simp)
          rw [this] at b1
          cases b1
      rw [eL, e1, e2, ← sumI_add]
      refine sumI_congr fun y _ => ?_
      by_cases hf : Fit free x s l y
      · rw [if_pos hf]
        cases e : y.testBit l.length
        · rw [if_pos ⟨hf, rfl⟩, if_neg (fun h => by cases h.2)]; omega
        · rw [if_neg (fun h => by cases h.2), if_pos ⟨hf, rfl⟩]; omega
      · rw [if_neg hf, if_neg (fun h => hf h.1), if_neg (fun h => hf h.1)]; rfl

theorem cntS_none {adj : Nat → Nat → Bool} {N s : Nat} : ∀ (r : Nat) (l : List Int), l.length + r = N → s < 2 ^ N → cntS adj 0 s r l = if ∀ i, i < N → l.length ≤ i → s.testBit i = true then 1 else 0
  | 0, l, hl, hs => by rw [cntS, if_pos (fun i h1 h2 => by omega)]
  | r + 1, l, hl, hs => by
    rw [cntS]
    by_cases h : s.testBit l.length = true
    · rw [if_pos h, cntS_none r (l ++ [-1]) (by simp; omega) hs]
      congr 1
      simp only [List.length_append, List.length_singleton, eq_iff_iff]
      constructor
      · intro H i h1 h2
        by_cases e : i = l.length
        · rw [e]; exact h
        · exact H i h1 (by omega)
      · intro H i h1 h2
        exact H i h1 (by omega)
    · rw [if_neg h, sumI, if_neg (fun H => h (H l.length (by omega) (Nat.le_refl _)))]

/-- BIRKHOFF. -/
theorem birkhoff {N : Nat} {low : Nat → Nat} (hlow : Low N low) {adj : Nat → Nat → Bool} {free : Nat → Bool} (hsym : ∀ u v, adj u v = adj v u) (hself : ∀ v, adj v v = false)
    (hfree : ∀ t, t < 2 ^ N → (free t = true ↔ ∀ u v, t.testBit u = true → t.testBit v = true → adj u v = false)) (x : Nat) : cntS adj x 0 N [] = polF' N low free 0 x := by
  refine polF'_up hlow (C := fun x s => cntS adj x s N []) ?_ ?_ x (Nat.two_pow_pos N)
  · intro s hs
    show cntS adj 0 s N [] = _
    rw [cntS_none (N := N) N [] (by simp) hs]
    congr 1
    simp only [List.length_nil, eq_iff_iff]
    constructor
    · intro H
      refine Nat.eq_of_testBit_eq fun i => ?_
      rw [all_bit]
      by_cases hi : i < N
      · rw [H i hi (by omega)]; simp [hi]
      · cases e : s.testBit i
        · simp [hi]
        · exact absurd (bit_ltN hs e) hi
    · rintro rfl i h1 _
      rw [all_bit]; simp [h1]
  · intro x s hs
    show cntS adj (x + 1) s N [] = _
    rw [@cntS_up N adj free hsym hself hfree x s hs N [] (by simp) (fun i hi => by simp at hi) (fun i j hi => by simp at hi) (fun y => Classical.propDecidable _)]
    have e0 : sumI (fun y => if y = s then cntS adj x y N [] else 0) (2 ^ N) = cntS adj x s N [] := by
      rw [sumI_one (a := s) hs fun i _ hi => if_neg hi, if_pos rfl]
    rw [← e0, ← sumI_add]
    refine sumI_congr fun y hy => ?_
    have hst : starL x [] = [] := rfl
    rw [hst]
    by_cases e : y = s
    · subst e
      have hf : Fit free x y [] y := ⟨sub_iff.2 fun _ h => h, (hfree _ (by
        have : less y y = 0 := Nat.eq_of_testBit_eq fun i => by rw [less_bit]; cases y.testBit i <;> simp
        rw [this]; exact Nat.two_pow_pos N)).2 fun u v hu => by rw [less_bit] at hu; cases e : y.testBit u <;> simp [e] at hu, fun i hi => by simp at hi⟩
      rw [if_pos hf, if_pos rfl, show stB free y y = 0 from if_neg fun h => h.2.1 rfl]; simp
    · rw [if_neg e]
      by_cases hf : land s y = s ∧ s ≠ y ∧ free (less y s) = true
      · rw [if_pos ⟨hf.1, hf.2.2, fun i hi => by simp at hi⟩, show stB free s y = 1 from if_pos hf]; simp
      · rw [if_neg (fun h => hf ⟨h.1, fun e2 => e e2.symm, h.2.1⟩), show stB free s y = 0 from if_neg hf]; simp

end Go.Proofs.YtfflnpcbpcldeaaDoor
