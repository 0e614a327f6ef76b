/- STANLEY, in plain words: at -1 the polynomial tells in how many ways edges can be arcs without a ring of arcs. No program in sight. -/
import Derived.Test.YtfflnpcbpcldeaaDoorColN
namespace Go.Proofs.YtfflnpcbpcldeaaDoor
open Go Go.RowKit

/-- A way along arcs. -/
inductive WayA (a : List (Int × Int)) : Int → Int → Prop
  | here (u : Int) : WayA a u u
  | step {u v w : Int} : WayA a u v → (v, w) ∈ a → WayA a u w
theorem WayA.trans {a : List (Int × Int)} {u v w : Int} (h1 : WayA a u v) (h2 : WayA a v w) : WayA a u w := by
  induction h2 with
  | here => exact h1
  | step _ h ih => exact .step ih h
theorem WayA.mono {a b : List (Int × Int)} (h : ∀ p, p ∈ a → p ∈ b) {u v : Int} (hw : WayA a u v) : WayA b u v := by
  induction hw with
  | here => exact .here _
  | step _ h2 ih => exact .step ih (h _ h2)
/-- No arc's end leads to its beginning. -/
def NoRing (a : List (Int × Int)) : Prop := ∀ p ∈ a, ¬ WayA a p.2 p.1

/-- The sum over all ways to make edges arcs. -/
def sumO : List (Int × Int) → (List (Int × Int) → Int) → Int
  | [], g => g []
  | e :: l, g => sumO l (fun a => g (e :: a)) + sumO l (fun a => g ((e.2, e.1) :: a))
theorem sumO_congr {l : List (Int × Int)} : ∀ {g h : List (Int × Int) → Int}, (∀ a, (∀ p ∈ a, p ∈ l ∨ (p.2, p.1) ∈ l) → (∀ e ∈ l, e ∈ a ∨ (e.2, e.1) ∈ a) → g a = h a) → sumO l g = sumO l h := by
  induction l with
  | nil => intro g h H; exact H [] (by simp) (by simp)
  | cons e l ih =>
    intro g h H
    rw [sumO, sumO, ih fun a ha hb => H (e :: a) (fun p hp => by
      rcases List.mem_cons.1 hp with rfl | hp
      · exact Or.inl (by simp)
      · rcases ha p hp with h | h
        · exact Or.inl (by simp [h])
        · exact Or.inr (by simp [h])) (fun x hx => by
      rcases List.mem_cons.1 hx with rfl | hx
      · exact Or.inl (by simp)
      · rcases hb x hx with h | h
        · exact Or.inl (by simp [h])
        · exact Or.inr (by simp [h])), ih fun a ha hb => H ((e.2, e.1) :: a) (fun p hp => by
      rcases List.mem_cons.1 hp with rfl | hp
      · exact Or.inr (by simp)
      · rcases ha p hp with h | h
        · exact Or.inl (by simp [h])
        · exact Or.inr (by simp [h])) (fun x hx => by
      rcases List.mem_cons.1 hx with rfl | hx
      · exact Or.inr (by simp)
      · rcases hb x hx with h | h
        · exact Or.inl (by simp [h])
        · exact Or.inr (by simp [h]))]
theorem sumO_none {l : List (Int × Int)} {g : List (Int × Int) → Int} (H : ∀ a, (∀ p ∈ a, p ∈ l ∨ (p.2, p.1) ∈ l) → (∀ e ∈ l, e ∈ a ∨ (e.2, e.1) ∈ a) → g a = 0) : sumO l g = 0 := by
  rw [sumO_congr (h := fun _ => 0) H]
  clear H
  induction l with
  | nil => rfl
  | cons e l ih => rw [sumO, ih]; rfl
theorem sumO_mul (c : Int) (l : List (Int × Int)) : ∀ g : List (Int × Int) → Int, sumO l (fun a => c * g a) = c * sumO l g := by
  induction l with
  | nil => intro g; rfl
  | cons e l ih => intro g; rw [sumO, sumO, ih (fun a => g (e :: a)), ih (fun a => g ((e.2, e.1) :: a)), Int.mul_add]
theorem sumO_add (l : List (Int × Int)) : ∀ g h : List (Int × Int) → Int, sumO l (fun a => g a + h a) = sumO l g + sumO l h := by
  induction l with
  | nil => intro g h; rfl
  | cons e l ih => intro g h; rw [sumO, sumO, sumO, ih (fun a => g (e :: a)), ih (fun a => g ((e.2, e.1) :: a))]; omega
theorem sumO_sum (l : List (Int × Int)) (g : Nat → List (Int × Int) → Int) : ∀ n : Nat, sumO l (fun a => sumI (fun y => g y a) n) = sumI (fun y => sumO l (g y)) n
  | 0 => sumO_none fun _ _ _ => rfl
  | n + 1 => by
    rw [show (fun a => sumI (fun y => g y a) (n + 1)) = fun a => sumI (fun y => g y a) n + g n a from rfl, sumO_add, sumO_sum l g n]; rfl

/-- Where nodes of a set are no arc's end: the edges at them are arcs in one way alone. -/
theorem sumO_out (inS : Int → Bool) : ∀ (l : List (Int × Int)) (g h : List (Int × Int) → Int), (∀ e ∈ l, ¬ (inS e.1 = true ∧ inS e.2 = true)) →
    (∀ a, (∀ p ∈ a, p ∈ l ∨ (p.2, p.1) ∈ l) → (∀ p ∈ a, inS p.2 = false) → g a = h (a.filter fun p => !inS p.1 && !inS p.2)) →
    (∀ a, (∃ p ∈ a, inS p.2 = true) → g a = 0) → sumO l g = sumO (l.filter fun p => !inS p.1 && !inS p.2) h
  | [], g, h, _, h2, _ => by
    have := h2 [] (by simp) (by simp)
    exact this
  | e :: l, g, h, h1, h2, h3 => by
    have he := h1 e (by simp)
    have hl : ∀ x ∈ l, ¬ (inS x.1 = true ∧ inS x.2 = true) := fun x hx => h1 x (by simp [hx])
    have hgo : ∀ (o : Int × Int), (o ∈ e :: l ∨ (o.2, o.1) ∈ e :: l) → ∀ a, (∀ p ∈ a, p ∈ l ∨ (p.2, p.1) ∈ l) → ∀ p ∈ o :: a, p ∈ e :: l ∨ (p.2, p.1) ∈ e :: l := fun o ho a ha p hp => by
      rcases List.mem_cons.1 hp with rfl | hp
      · exact ho
      · rcases ha p hp with h | h
        · exact Or.inl (by simp [h])
        · exact Or.inr (by simp [h])
    have z : ∀ (o : Int × Int), inS o.2 = true → sumO l (fun a => g (o :: a)) = 0 := fun o ho => sumO_none fun a _ _ => h3 _ ⟨o, by simp, ho⟩
    have gz : ∀ (o : Int × Int) a, (∃ p ∈ a, inS p.2 = true) → g (o :: a) = 0 := fun o a ⟨p, hp, hi⟩ => h3 _ ⟨p, by simp [hp], hi⟩
    cases e1 : inS e.1
    · cases e2 : inS e.2
      · rw [sumO, List.filter_cons_of_pos (by simp [e1, e2]), sumO]
        congr 1
        · refine sumO_out inS l _ (fun a => h (e :: a)) hl (fun a ha hb => ?_) (gz e)
          rw [h2 (e :: a) (hgo e (Or.inl (by simp)) a ha) (fun p hp => by
            rcases List.mem_cons.1 hp with rfl | hp
            · exact e2
            · exact hb p hp), List.filter_cons_of_pos (by simp [e1, e2])]
        · refine sumO_out inS l _ (fun a => h ((e.2, e.1) :: a)) hl (fun a ha hb => ?_) (gz _)
          rw [h2 ((e.2, e.1) :: a) (hgo (e.2, e.1) (Or.inr (by simp)) a ha) (fun p hp => by
            rcases List.mem_cons.1 hp with rfl | hp
            · exact e1
            · exact hb p hp), List.filter_cons_of_pos (by simp [e1, e2])]
      · rw [sumO, z e e2, List.filter_cons_of_neg (by simp [e2])]
        rw [Int.zero_add]
        refine sumO_out inS l _ h hl (fun a ha hb => ?_) (gz _)
        rw [h2 ((e.2, e.1) :: a) (hgo (e.2, e.1) (Or.inr (by simp)) a ha) (fun p hp => by
            rcases List.mem_cons.1 hp with rfl | hp
            · exact e1
            · exact hb p hp), List.filter_cons_of_neg (by simp [e2])]
    · have e2 : inS e.2 = false := by
        cases e2 : inS e.2 with
        | false => rfl
        | true => exact absurd ⟨e1, e2⟩ he
      rw [sumO, z (e.2, e.1) e1, List.filter_cons_of_neg (by simp [e1]), Int.add_zero]
      refine sumO_out inS l _ h hl (fun a ha hb => ?_) (gz _)
      rw [h2 (e :: a) (hgo e (Or.inl (by simp)) a ha) (fun p hp => by
            rcases List.mem_cons.1 hp with rfl | hp
            · exact e2
            · exact hb p hp), List.filter_cons_of_neg (by simp [e1])]

/-- Nodes that are no arc's end lie on no ring. -/
theorem noRing_out (inS : Int → Bool) {a : List (Int × Int)} (h : ∀ p ∈ a, inS p.2 = false) : NoRing a ↔ NoRing (a.filter fun p => !inS p.1 && !inS p.2) := by
  have keep : ∀ {u v : Int}, WayA a u v → inS u = false → WayA (a.filter fun p => !inS p.1 && !inS p.2) u v ∧ inS v = false := fun hw hu => by
    induction hw with
    | here => exact ⟨.here _, hu⟩
    | @step v w _ h2 ih =>
      obtain ⟨i1, i2⟩ := ih
      have i3 := h _ h2
      exact ⟨.step i1 (List.mem_filter.2 ⟨h2, by simp [i2, i3]⟩), i3⟩
  constructor
  · intro H p hp hw
    exact H p (List.mem_filter.1 hp).1 (hw.mono fun q hq => (List.mem_filter.1 hq).1)
  · intro H p hp hw
    obtain ⟨k1, k2⟩ := keep hw (h p hp)
    exact H p (List.mem_filter.2 ⟨hp, by simp [k2, h p hp]⟩) k1

/-- Where there is no ring, there is a node that is no arc's end. -/
theorem ex_source {N s : Nat} {a : List (Int × Int)} (hr : NoRing a) (hn : ∀ p ∈ a, 0 ≤ p.1 ∧ p.1 < N ∧ s.testBit p.1.toNat = false) :
    ∀ (n v : Nat), v < N → s.testBit v = false → (∀ [∀ u, Decidable (WayA a (u : Nat) v)], sumI (fun u => if WayA a (u : Nat) v then 1 else 0) N < (n : Int)) → ∃ v, v < N ∧ s.testBit v = false ∧ ∀ p ∈ a, p.2 ≠ (v : Int)
  | 0, v, hv, hs, h => by
    have := @h (fun _ => Classical.propDecidable _)
    have h0 : (0 : Int) ≤ sumI (fun u => @ite Int (WayA a (u : Nat) v) (Classical.propDecidable _) 1 0) N := by
      have h1 := sumI_le (n := N) (f := fun _ => 0) (g := fun u => @ite Int (WayA a (u : Nat) v) (Classical.propDecidable _) 1 0) fun i _ => by
        show (0 : Int) ≤ @ite Int _ (Classical.propDecidable _) 1 0
        split <;> omega
      rw [sumI_zero] at h1
      exact h1
    simp only [Int.natCast_zero] at this
    exact absurd this (by omega)
  | n + 1, v, hv, hs, h => by
    rcases Classical.em (∀ p ∈ a, p.2 ≠ (v : Int)) with hno | hyes
    · exact ⟨v, hv, hs, hno⟩
    · obtain ⟨p, hp, hpe⟩ : ∃ p, p ∈ a ∧ p.2 = (v : Int) := Classical.byContradiction fun H => hyes fun p hp he => H ⟨p, hp, he⟩
      obtain ⟨q0, q1, q2⟩ := hn p hp
      have ecast : ((p.1.toNat : Nat) : Int) = p.1 := by omega
      refine ex_source hr hn n p.1.toNat (by omega) q2 fun {dec} => ?_
      have hlt := @h (fun _ => Classical.propDecidable _)
      have : sumI (fun u => @ite Int (WayA a (u : Nat) (p.1.toNat : Nat)) (dec u) 1 0) N < sumI (fun u => @ite Int (WayA a (u : Nat) v) (Classical.propDecidable _) 1 0) N := by
        refine sumI_lt (a := v) (fun u hu => ?_) hv ?_
        · by_cases hw : WayA a (u : Nat) (p.1.toNat : Nat)
          · rw [if_pos hw, if_pos (.step (v := p.1) (by rw [ecast] at hw; exact hw) (by rw [← hpe]; exact hp))]; omega
          · rw [if_neg hw]; split <;> omega
        · rw [if_neg (fun hw => hr p hp (by rw [ecast] at hw; rw [hpe]; exact hw)), if_pos (.here _)]; omega
      push_cast at hlt
      omega

def sg (k : Nat) : Int := if k % 2 = 0 then 1 else -1
theorem sg_succ (k : Nat) : sg (k + 1) = -sg k := by
  unfold sg
  rcases Nat.mod_two_eq_zero_or_one k with h | h
  · rw [if_pos h, if_neg (by omega)]
  · rw [if_pos (show (k + 1) % 2 = 0 by omega), if_neg (show ¬ k % 2 = 0 by omega)]; rfl
theorem sg_add (a : Nat) : ∀ b : Nat, sg (a + b) = sg a * sg b
  | 0 => by simp [sg]
  | b + 1 => by rw [← Nat.add_assoc, sg_succ, sg_succ, sg_add a b]; grind
theorem sg_sq (a : Nat) : sg a * sg a = 1 := by unfold sg; split <;> rfl

/-- Turning one node in a set. -/
theorem flip_bit (y v i : Nat) : (y ^^^ pow2 v).testBit i = if v = i then !y.testBit i else y.testBit i := by
  rw [Nat.testBit_xor, pow2_bit]
  by_cases e : v = i <;> simp [e]
theorem card_flip {y v : Nat} : ∀ {n : Nat}, v < n → sg (card n (y ^^^ pow2 v)) = -sg (card n y)
  | 0, h => by omega
  | n + 1, h => by
    have same : ∀ m, m ≤ v → card m (y ^^^ pow2 v) = card m y := fun m hm => by
      induction m with
      | zero => rfl
      | succ m ih => rw [card, card, ih (by omega), flip_bit, if_neg (show ¬ v = m by omega)]
    rw [card, card, flip_bit]
    by_cases e : v = n
    · subst e
      rw [same v (Nat.le_refl _), if_pos rfl]
      cases y.testBit v
      · simp [sg_succ]
      · simp [sg_succ]
    · rw [if_neg e, sg_add, sg_add, card_flip (n := n) (by omega)]; grind

theorem less_two {s y : Nat} (h : land s y = s) (i j : Nat) : (!y.testBit i && !y.testBit j) = ((!(less y s).testBit i && !(less y s).testBit j) && (!s.testBit i && !s.testBit j)) := by
  have h1 := sub_iff.1 h i
  have h2 := sub_iff.1 h j
  rw [less_bit, less_bit]
  cases e1 : s.testBit i
  · cases e2 : s.testBit j
    · simp
    · rw [h2 e2]; simp
  · rw [h1 e1]; simp
/-- STANLEY. -/
theorem stanley {N : Nat} {low : Nat → Nat} (hlow : Low N low) {free : Nat → Bool} {l : List (Int × Int)} (hl : ∀ e ∈ l, 0 ≤ e.1 ∧ e.1 < N ∧ 0 ≤ e.2 ∧ e.2 < N)
    (hfree : ∀ t, t < 2 ^ N → (free t = true ↔ ∀ e ∈ l, ¬ (t.testBit e.1.toNat = true ∧ t.testBit e.2.toNat = true)))
    {ac : List (Int × Int) → Bool} (hac : ∀ a, (∀ p ∈ a, 0 ≤ p.1 ∧ p.1 < (N : Int) ∧ 0 ≤ p.2 ∧ p.2 < (N : Int)) → (ac a = true ↔ NoRing a)) :
    polF' N low free 0 (-1) = sg N * sumO l (fun a => if ac a = true then 1 else 0) := by
  let E : Nat → List (Int × Int) := fun s => l.filter fun p => !s.testBit p.1.toNat && !s.testBit p.2.toNat
  let A : Nat → Int := fun s => sumO (E s) (fun a => if ac a = true then 1 else 0)
  have hEl : ∀ s e, e ∈ E s → e ∈ l ∧ s.testBit e.1.toNat = false ∧ s.testBit e.2.toNat = false := fun s e he => by
    have := List.mem_filter.1 he
    simp at this
    exact this
  have hin : ∀ (s : Nat) (a : List (Int × Int)), (∀ p ∈ a, p ∈ E s ∨ (p.2, p.1) ∈ E s) → ∀ p ∈ a, (0 ≤ p.1 ∧ p.1 < (N : Int) ∧ 0 ≤ p.2 ∧ p.2 < (N : Int)) ∧ s.testBit p.1.toNat = false ∧ s.testBit p.2.toNat = false := fun s a ha p hp => by
    rcases ha p hp with h | h
    · obtain ⟨h1, h2⟩ := hEl s p h
      exact ⟨hl p h1, h2⟩
    · obtain ⟨h1, h2, h3⟩ := hEl s _ h
      have := hl _ h1
      simp only at this h2 h3
      exact ⟨⟨this.2.2.1, this.2.2.2, this.1, this.2.1⟩, h3, h2⟩
  have lessb : ∀ y s i, (less y s).testBit i = (y.testBit i && !s.testBit i) := less_bit
  -- one class taken away
  have one : ∀ s y, y < 2 ^ N → land s y = s → (if free (less y s) = true then A y else 0) = sumO (E s) (fun a => if ac a = true ∧ ∀ p ∈ a, (less y s).testBit p.2.toNat = false then 1 else 0) := fun s y hy hsy => by
    have hlt : less y s < 2 ^ N := mask_lt fun i hi => by
      rw [less_bit] at hi
      simp at hi
      exact bit_ltN hy hi.1
    by_cases hf : free (less y s) = true
    · rw [if_pos hf]
      have hEy : E y = (E s).filter fun p => !(less y s).testBit p.1.toNat && !(less y s).testBit p.2.toNat := by
        show l.filter _ = (l.filter _).filter _
        rw [List.filter_filter]
        refine List.filter_congr fun p _ => ?_
        exact less_two hsy _ _
      show sumO (E y) _ = _
      rw [hEy]
      refine (sumO_out (fun i => (less y s).testBit i.toNat) (E s) _ _ (fun e he => (hfree _ hlt).1 hf e (hEl s e he).1) (fun a ha hb => ?_) (fun a ⟨p, hp, hi⟩ => ?_)).symm
      · have hr := noRing_out (fun i => (less y s).testBit i.toNat) hb
        have h1 := hac a fun p hp => (hin s a ha p hp).1
        have h2 := hac (a.filter fun p => !(less y s).testBit p.1.toNat && !(less y s).testBit p.2.toNat) fun p hp => (hin s a ha p (List.mem_filter.1 hp).1).1
        by_cases hc : ac a = true
        · rw [if_pos ⟨hc, hb⟩, if_pos (h2.2 (hr.1 (h1.1 hc)))]
        · rw [if_neg (fun h => hc h.1), if_neg (fun h => hc (h1.2 (hr.2 (h2.1 h))))]
      · show (if ac a = true ∧ ∀ p ∈ a, (less y s).testBit p.2.toNat = false then (1 : Int) else 0) = 0
        rw [if_neg]
        rintro ⟨-, h⟩
        rw [h p hp] at hi
        cases hi
    · rw [if_neg hf]
      refine (sumO_none fun a _ hb => ?_).symm
      rw [if_neg]
      rintro ⟨-, h⟩
      refine hf ((hfree _ hlt).2 fun e he ⟨b1, b2⟩ => ?_)
      have hes : e ∈ E s := List.mem_filter.2 ⟨he, by
        rw [lessb] at b1 b2
        simp at b1 b2
        simp [b1, b2]⟩
      rcases hb e hes with h1 | h1
      · have := h _ h1
        rw [b2] at this; cases this
      · have := h _ h1
        simp only at this
        rw [b1] at this; cases this
  -- all classes
  have key : ∀ s, s < 2 ^ N → sumI (fun y => if land s y = s ∧ free (less y s) = true then sg (card N (less y s)) * A y else 0) (2 ^ N) = if s = 2 ^ N - 1 then 1 else 0 := fun s hs => by
    have e1 : sumI (fun y => if land s y = s ∧ free (less y s) = true then sg (card N (less y s)) * A y else 0) (2 ^ N) =
        sumO (E s) (fun a => sumI (fun y => if land s y = s then sg (card N (less y s)) * (if ac a = true ∧ ∀ p ∈ a, (less y s).testBit p.2.toNat = false then 1 else 0) else 0) (2 ^ N)) := by
      rw [sumO_sum (E s) (fun y a => if land s y = s then sg (card N (less y s)) * (if ac a = true ∧ ∀ p ∈ a, (less y s).testBit p.2.toNat = false then 1 else 0) else 0)]
      refine sumI_congr fun y hy => ?_
      by_cases h : land s y = s
      · have := one s y hy h
        rw [show (fun a => if land s y = s then sg (card N (less y s)) * (if ac a = true ∧ ∀ p ∈ a, (less y s).testBit p.2.toNat = false then (1 : Int) else 0) else 0) = fun a => sg (card N (less y s)) * (if ac a = true ∧ ∀ p ∈ a, (less y s).testBit p.2.toNat = false then (1 : Int) else 0) from funext fun a => if_pos h, sumO_mul, ← this]
        by_cases hf : free (less y s) = true
        · rw [if_pos ⟨h, hf⟩, if_pos hf]
        · rw [if_neg (fun h => hf h.2), if_neg hf]; simp
      · rw [if_neg (fun h2 => h h2.1)]
        exact (sumO_none fun a _ _ => if_neg h).symm
    rw [e1]
    by_cases hall : s = 2 ^ N - 1
    · rw [if_pos hall]
      have hE : E s = [] := by
        refine List.eq_nil_iff_forall_not_mem.2 fun e he => ?_
        obtain ⟨h1, h2, h3⟩ := hEl s e he
        have := hl e h1
        rw [hall, all_bit] at h2
        have h4 := of_decide_eq_false h2
        omega
      rw [hE]
      show sumI _ _ = 1
      have hp : 0 < 2 ^ N := Nat.two_pow_pos N
      have h0 : less s s = 0 := Nat.eq_of_testBit_eq fun i => by rw [lessb]; cases s.testBit i <;> simp
      have hnr : ac [] = true := (hac [] (by simp)).2 fun p hp => by simp at hp
      rw [sumI_one (a := s) hs fun y hy hne => if_neg fun h => hne (all_of_sub hy h hall), if_pos (sub_iff.2 fun _ h => h), h0, card_zero, if_pos ⟨hnr, by simp⟩]
      rfl
    · rw [if_neg hall]
      refine sumO_none fun a ha _ => ?_
      by_cases hc : ac a = true
      · have hr := (hac a fun p hp => (hin s a ha p hp).1).1 hc
        obtain ⟨l1, l2⟩ := hlow.out s hs hall
        obtain ⟨v, hv, hvs, hsrc⟩ := ex_source hr (N := N) (s := s) (fun p hp => ⟨(hin s a ha p hp).1.1, (hin s a ha p hp).1.2.1, (hin s a ha p hp).2.1⟩) (N + 1) (low s) l1 l2 (fun {dec} => by
          have hle : sumI (fun u => @ite Int (WayA a (u : Nat) (low s : Nat)) (dec u) 1 0) N ≤ sumI (fun _ => 1) N := sumI_le fun i _ => by split <;> omega
          have h1 : ∀ n : Nat, sumI (fun _ => 1) n = n := fun n => by
            induction n with
            | zero => rfl
            | succ n ih => rw [sumI, ih]; push_cast; rfl
          rw [h1] at hle
          push_cast; omega)
        refine sumI_anti (fun y => y ^^^ pow2 v) fun y hy h => ?_
        have hsy : land s y = s := Classical.byContradiction fun hn => h (if_neg hn)
        have hs2 : land s (y ^^^ pow2 v) = s := sub_iff.2 fun i hi => by
          rw [flip_bit]
          by_cases e : v = i
          · rw [e] at hvs; rw [hvs] at hi; cases hi
          · rw [if_neg e]; exact sub_iff.1 hsy i hi
        have hback : y ^^^ pow2 v ^^^ pow2 v = y := Nat.eq_of_testBit_eq fun i => by
          rw [flip_bit, flip_bit]
          by_cases e : v = i <;> simp [e]
        have hlt : y ^^^ pow2 v < 2 ^ N := mask_lt fun i hi => by
          rw [flip_bit] at hi
          by_cases e : v = i
          · omega
          · rw [if_neg e] at hi; exact bit_ltN hy hi
        have hcard : sg (card N (less (y ^^^ pow2 v) s)) = -sg (card N (less y s)) := by
          have : less (y ^^^ pow2 v) s = less y s ^^^ pow2 v := Nat.eq_of_testBit_eq fun i => by
            rw [lessb, flip_bit, flip_bit, lessb]
            by_cases e : v = i
            · subst e; rw [if_pos rfl, if_pos rfl, hvs]; simp
            · rw [if_neg e, if_neg e]
          rw [this, card_flip hv]
        have hiff : (∀ p ∈ a, (less (y ^^^ pow2 v) s).testBit p.2.toNat = false) ↔ ∀ p ∈ a, (less y s).testBit p.2.toNat = false := by
          refine forall_congr' fun p => forall_congr' fun hp => ?_
          have h1 := hsrc p hp
          have h2 := (hin s a ha p hp).1
          rw [lessb, lessb, flip_bit, if_neg (by omega)]
        refine ⟨hlt, hback, ?_⟩
        rw [if_pos hs2, if_pos hsy, hcard]
        by_cases hq : ∀ p ∈ a, (less y s).testBit p.2.toNat = false
        · rw [if_pos ⟨hc, hiff.2 hq⟩, if_pos ⟨hc, hq⟩]; omega
        · rw [if_neg (fun h => hq (hiff.1 h.2)), if_neg (fun h => hq h.2)]; simp
      · refine sumI_none fun y _ => ?_
        rw [if_neg (show ¬ (ac a = true ∧ ∀ p ∈ a, (less y s).testBit p.2.toNat = false) from fun h => hc h.1)]
        split <;> simp
  have hb := polF'_down hlow (free := free) (b := fun s => sg (N - card N s) * A s) (fun s hs => by
    have hk := key s hs
    have e0 : sg (N - card N s) * A s = sumI (fun y => if y = s then sg (N - card N s) * A s else 0) (2 ^ N) := by
      rw [sumI_one (a := s) hs fun y _ hy => if_neg hy, if_pos rfl]
    show sg (N - card N s) * A s + _ = _
    rw [e0, ← sumI_add]
    have e1 : sumI (fun y => (if y = s then sg (N - card N s) * A s else 0) + stB free s y * (sg (N - card N y) * A y)) (2 ^ N) = sg (N - card N s) * sumI (fun y => if land s y = s ∧ free (less y s) = true then sg (card N (less y s)) * A y else 0) (2 ^ N) := by
      rw [← sumI_mul]
      refine sumI_congr fun y hy => ?_
      by_cases e : y = s
      · subst e
        have h0 : less y y = 0 := Nat.eq_of_testBit_eq fun i => by rw [lessb]; cases y.testBit i <;> simp
        have hf0 : free 0 = true := (hfree 0 (Nat.two_pow_pos N)).2 fun e _ h => by simp at h
        rw [if_pos rfl, show stB free y y = 0 from if_neg fun h => h.2.1 rfl, if_pos ⟨sub_iff.2 fun _ h => h, by rw [h0]; exact hf0⟩, h0, card_zero]
        simp [sg]
      · rw [if_neg e]
        by_cases hf : land s y = s ∧ free (less y s) = true
        · have hc := card_split hf.1 N
          have hle := card_le N y
          have : sg (N - card N s) = sg (N - card N y) * sg (card N (less y s)) := by rw [← sg_add]; congr 1; omega
          rw [if_pos hf, show stB free s y = 1 from if_pos ⟨hf.1, fun e2 => e e2.symm, hf.2⟩, this]
          have := sg_sq (card N (less y s))
          grind
        · rw [if_neg hf, show stB free s y = 0 from if_neg fun h => hf ⟨h.1, h.2.2⟩]; simp
    rw [e1, hk]
    by_cases hall : s = 2 ^ N - 1
    · rw [if_pos hall, hall, card_all N (Nat.le_refl _), Nat.sub_self]; rfl
    · rw [if_neg hall]; simp) (2 ^ N) (s := 0) (Nat.two_pow_pos N) (by omega)
  rw [← hb]
  show sg (N - card N 0) * A 0 = _
  rw [card_zero, Nat.sub_zero]
  have : E 0 = l := by
    show l.filter _ = l
    rw [List.filter_eq_self]
    intro p _
    simp
  show sg N * sumO (E 0) _ = _
  rw [this]

end Go.Proofs.YtfflnpcbpcldeaaDoor
