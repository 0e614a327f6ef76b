/- Gale's and Shapley's method, plain. No program in sight. -/
import Derived.Test.YtfccfmjamdpeaaaHung
namespace Go.Proofs.Ytfccfmjamdpeaaa

/-- Lists of n that each name all below n: what stands at a place, and at which place one stands. -/
structure Pref (n : Nat) (A ra : Nat → Nat → Nat) : Prop where
  lt : ∀ i p, i < n → p < n → A i p < n
  at_ : ∀ i p, i < n → p < n → ra i (A i p) = p
  of_ : ∀ i j, i < n → j < n → ra i j < n ∧ A i (ra i j) = j

/-- Each of n has one below n, all different. -/
def Perm (n : Nat) (M : Nat → Nat) : Prop := (∀ i, i < n → M i < n) ∧ ∀ i j, i < n → j < n → M i = M j → i = j

/-- No two would both rather have each other. -/
def NoPair (n : Nat) (ra rb : Nat → Nat → Nat) (M : Nat → Nat) : Prop := ∀ i k, i < n → k < n → ra i (M k) < ra i (M i) → ¬ rb (M k) i < rb (M k) k

structure GS (n : Nat) (A ra rb : Nat → Nat → Nat) (to of : Nat → Int) (nx : Nat → Nat) (fr : List Nat) : Prop where
  nxn : ∀ i, i < n → nx i ≤ n
  frlt : ∀ i, i ∈ fr → i < n
  frn : fr.Nodup
  frto : ∀ i, i < n → (i ∈ fr ↔ to i = -1)
  to_ : ∀ i, i < n → to i = -1 ∨ ∃ j, j < n ∧ to i = (j : Int) ∧ of j = (i : Int)
  of_ : ∀ j, j < n → of j = -1 ∨ ∃ i, i < n ∧ of j = (i : Int) ∧ to i = (j : Int)
  mt : ∀ i j, i < n → to i = ((j : Nat) : Int) → 1 ≤ nx i ∧ A i (nx i - 1) = j
  rej : ∀ i p, i < n → p < nx i → ∃ k, k < n ∧ of (A i p) = (k : Int) ∧ rb (A i p) k ≤ rb (A i p) i
  opt : ∀ M, Perm n M → NoPair n ra rb M → ∀ i p, i < n → p < nx i → to i ≠ (A i p : Int) → M i ≠ A i p

section
variable {n : Nat} {A ra rb B : Nat → Nat → Nat} {to of : Nat → Int} {nx : Nat → Nat} {fr : List Nat}

theorem Pref.inj {m : Nat} {A ra : Nat → Nat → Nat} (h : Pref m A ra) : ∀ j x y, j < m → x < m → y < m → ra j x = ra j y → x = y := fun j x y hj hx hy e => by
  rw [← (h.of_ j x hj hx).2, ← (h.of_ j y hj hy).2, e]

theorem Perm.surj {M : Nat → Nat} (h : Perm n M) (j : Nat) (hj : j < n) : ∃ i, i < n ∧ M i = j := by
  obtain ⟨x, x1, x2, x3⟩ := inj_surj n (fun k => M (k - 1) + 1) (fun k a b => by have := h.1 (k - 1) (by omega); omega)
    (fun k k' a b a' b' e => by have := h.2 (k - 1) (k' - 1) (by omega) (by omega) (by omega); omega) (j + 1) (by omega) (by omega)
  exact ⟨x - 1, by omega, by omega⟩

theorem GS.start (n : Nat) (A ra rb : Nat → Nat → Nat) : GS n A ra rb (fun _ => -1) (fun _ => -1) (fun _ => 0) (List.range n) where
  nxn := fun _ _ => Nat.zero_le _
  frlt := fun i hi => by simpa using hi
  frn := List.nodup_range
  frto := fun i hi => by simp [hi]
  to_ := fun _ _ => Or.inl rfl
  of_ := fun _ _ => Or.inl rfl
  mt := fun i j _ h => by omega
  rej := fun i p _ h => absurd h (Nat.not_lt_zero _)
  opt := fun M _ _ i p _ h => absurd h (Nat.not_lt_zero _)

/-- Whoever is free has not asked all. -/
theorem GS.left (hA : Pref n A ra) (h : GS n A ra rb to of nx fr) {i : Nat} (hi : i < n) (hto : to i = -1) : nx i < n := by
  have := h.nxn i hi
  refine Nat.lt_of_le_of_ne this fun e => ?_
  -- all are held, by others than i
  have hold : ∀ j, j < n → ∃ k, k < n ∧ of j = (k : Int) := fun j hj => by
    obtain ⟨k, k1, k2, _⟩ := h.rej i (ra i j) hi (by have := (hA.of_ i j hi hj).1; omega)
    rw [(hA.of_ i j hi hj).2] at k2
    exact ⟨k, k1, k2⟩
  have key := pigeon n (n - 1) (fun q => if (of (q - 1)).toNat < i then (of (q - 1)).toNat + 1 else (of (q - 1)).toNat) (fun q a b => by
    obtain ⟨k, k1, k2⟩ := hold (q - 1) (by omega)
    rw [k2, Int.toNat_natCast]
    have hki : k ≠ i := fun x => by
      rcases h.of_ (q - 1) (by omega) with y | ⟨i', _, y2, y3⟩
      · omega
      · have : i' = k := by omega
        subst this; rw [x, hto] at y3; omega
    split <;> omega) (fun q q' a b a' b' e2 => by
    obtain ⟨k, k1, k2⟩ := hold (q - 1) (by omega)
    obtain ⟨k', k1', k2'⟩ := hold (q' - 1) (by omega)
    rw [k2, k2', Int.toNat_natCast, Int.toNat_natCast] at e2
    have y : ∀ q k : Nat, q < n → of q = (k : Int) → to k = (q : Int) ∧ k ≠ i := fun q k hq hk => by
      rcases h.of_ q hq with y | ⟨i', _, y2, y3⟩
      · omega
      · have : i' = k := by omega
        subst this; exact ⟨y3, fun x => by rw [x, hto] at y3; omega⟩
    obtain ⟨u1, u2⟩ := y _ _ (by omega) k2
    obtain ⟨v1, v2⟩ := y _ _ (by omega) k2'
    have : k = k' := by split at e2 <;> split at e2 <;> omega
    subst this
    omega)
  omega

/-- One is asked, and stays with a better one. -/
theorem GS.refuse (hA : Pref n A ra) (h : GS n A ra rb to of nx fr) {i k : Nat} (hi : i < n) (hto : to i = -1) (hk : of (A i (nx i)) = (k : Int)) (hr : rb (A i (nx i)) k < rb (A i (nx i)) i) :
    GS n A ra rb to of (fun q => if q = i then nx i + 1 else nx q) fr := by
  have hl := h.left hA hi hto
  have hj := hA.lt i (nx i) hi hl
  obtain ⟨k1, k2⟩ : k < n ∧ to k = ((A i (nx i) : Nat) : Int) := by
    rcases h.of_ _ hj with x | ⟨i', x1, x2, x3⟩
    · omega
    · have : i' = k := by omega
      subst this; exact ⟨x1, x3⟩
  have hki : k ≠ i := fun e => by rw [e, hto] at k2; omega
  refine ⟨fun q hq => ?_, h.frlt, h.frn, h.frto, h.to_, h.of_, fun q j hq hj' => ?_, fun q p hq hp => ?_, fun M hM hS q p hq hp hne => ?_⟩
  · by_cases e : q = i
    · rw [if_pos e]; omega
    · rw [if_neg e]; exact h.nxn q hq
  · have e : q ≠ i := fun e => by rw [e, hto] at hj'; omega
    rw [if_neg e]; exact h.mt q j hq hj'
  · by_cases e : q = i
    · subst e
      rw [if_pos rfl] at hp
      by_cases e2 : p = nx q
      · subst e2; exact ⟨k, k1, hk, Nat.le_of_lt hr⟩
      · exact h.rej q p hq (by omega)
    · rw [if_neg e] at hp; exact h.rej q p hq hp
  · by_cases e : q = i
    · subst e
      rw [if_pos rfl] at hp
      by_cases e2 : p = nx q
      · subst e2
        intro hMi
        -- k would rather have the one than what it has
        have hmk := h.mt k _ k1 k2
        have hMk : M k ≠ M q := fun e => hki (hM.2 k q k1 hi e)
        have hMkn := hM.1 k k1
        obtain ⟨p1, p2⟩ := hA.of_ k (M k) k1 hMkn
        have hrj : ra k (A q (nx q)) = nx k - 1 := by rw [← hmk.2]; exact hA.at_ k _ k1 (by have := h.nxn k k1; omega)
        have hlt : ra k (M q) < ra k (M k) := by
          rw [hMi, hrj]
          rcases Nat.lt_trichotomy (ra k (M k)) (nx k - 1) with x | x | x
          · exfalso
            exact h.opt M hM hS k (ra k (M k)) k1 (by omega) (by rw [k2, p2]; intro y; exact hMk (by rw [hMi]; omega)) p2.symm
          · exfalso
            rw [x, hmk.2] at p2
            exact hMk (by rw [hMi, p2])
          · exact x
        exact hS k q k1 hi hlt (by rw [hMi]; exact hr)
      · exact h.opt M hM hS q p hq (by omega) hne
    · rw [if_neg e] at hp; exact h.opt M hM hS q p hq hp hne

/-- One is asked who is free, or would rather have the new one. -/
theorem GS.accept (hA : Pref n A ra) (h : GS n A ra rb to of nx fr) {i : Nat} {fr' : List Nat} (hfr : fr = fr' ++ [i]) (hrb : ∀ j x y, j < n → x < n → y < n → rb j x = rb j y → x = y)
    (hk : of (A i (nx i)) = -1 ∨ ∃ k : Nat, of (A i (nx i)) = (k : Int) ∧ ¬ rb (A i (nx i)) k < rb (A i (nx i)) i) :
    GS n A ra rb (fun q => if of (A i (nx i)) = (q : Int) then -1 else if q = i then (A i (nx i) : Int) else to q) (fun j => if j = A i (nx i) then (i : Int) else of j) (fun q => if q = i then nx i + 1 else nx q)
      (if of (A i (nx i)) = -1 then fr' else fr' ++ [(of (A i (nx i))).toNat]) := by
  have him : i ∈ fr := by rw [hfr]; simp
  have hi := h.frlt i him
  have hto := (h.frto i hi).1 him
  have hl := h.left hA hi hto
  have hj := hA.lt i (nx i) hi hl
  generalize hje : A i (nx i) = j at *
  have hfn := h.frn
  rw [hfr, List.nodup_append] at hfn
  have hfm : ∀ x, x ∈ fr ↔ x ∈ fr' ∨ x = i := fun x => by rw [hfr]; simp
  have hni : i ∉ fr' := fun hx => (hfn.2.2 i hx i (by simp)) rfl
  have hki : ∀ k : Nat, of j = (k : Int) → k < n ∧ to k = (j : Int) ∧ k ≠ i ∧ k ∉ fr := fun k hk => by
    rcases h.of_ j hj with x | ⟨i', x1, x2, x3⟩
    · omega
    · have : i' = k := by omega
      subst this
      exact ⟨x1, x3, fun e => by rw [e, hto] at x3; omega, fun hx => by have := (h.frto _ x1).1 hx; omega⟩
  have hk2 : of j = -1 ∨ ∃ k : Nat, of j = (k : Int) ∧ k < n ∧ to k = (j : Int) ∧ k ≠ i ∧ k ∉ fr ∧ rb j i < rb j k := by
    rcases hk with x | ⟨k, x1, x2⟩
    · exact Or.inl x
    · obtain ⟨y1, y2, y3, y4⟩ := hki k x1
      refine Or.inr ⟨k, x1, y1, y2, y3, y4, ?_⟩
      exact Nat.lt_of_le_of_ne (by omega) (fun e => y3 (hrb j k i hj y1 hi e.symm))
  clear hk
  -- the new one's answers
  have hrej0 : ∀ q p, q < n → p < nx q → A q p = j → ∃ k : Nat, of j = (k : Int) ∧ rb j k ≤ rb j q := fun q p hq hp e => by
    obtain ⟨k, k1, k2, k3⟩ := h.rej q p hq hp
    rw [e] at k2 k3
    exact ⟨k, k2, k3⟩
  have htoq : ∀ q, q < n → q ≠ i → of j ≠ (q : Int) → to q ≠ (j : Int) := fun q hq h1 h2 e => by
    rcases h.to_ q hq with x | ⟨j', x1, x2, x3⟩
    · omega
    · have : j' = j := by omega
      subst this; exact h2 x3
  refine ⟨fun q hq => ?_, fun q hq => ?_, ?_, fun q hq => ?_, fun q hq => ?_, fun q hq => ?_, fun q j' hq hq' => ?_, fun q p hq hp => ?_, fun M hM hS q p hq hp hne => ?_⟩
  · by_cases e : q = i
    · rw [if_pos e]; omega
    · rw [if_neg e]; exact h.nxn q hq
  · rcases hk2 with x | ⟨k, x1, x2, _⟩
    · rw [if_pos x] at hq; exact h.frlt q ((hfm q).2 (Or.inl hq))
    · rw [if_neg (by omega), x1, Int.toNat_natCast] at hq
      simp only [List.mem_append, List.mem_singleton] at hq
      rcases hq with y | y
      · exact h.frlt q ((hfm q).2 (Or.inl y))
      · omega
  · rcases hk2 with x | ⟨k, x1, x2, x3, x4, x5, _⟩
    · rw [if_pos x]; exact hfn.1
    · rw [if_neg (by omega), x1, Int.toNat_natCast, List.nodup_append]
      refine ⟨hfn.1, by simp, fun a ha b hb e => ?_⟩
      simp only [List.mem_singleton] at hb
      subst e hb
      exact x5 ((hfm _).2 (Or.inl ha))
  · rcases hk2 with x | ⟨k, x1, x2, x3, x4, x5, _⟩
    · rw [if_pos x, if_neg (by omega)]
      by_cases e : q = i
      · subst e; rw [if_pos rfl]
        exact ⟨fun y => absurd y hni, fun y => by omega⟩
      · rw [if_neg e, ← h.frto q hq, hfm]
        exact ⟨Or.inl, fun y => y.resolve_right e⟩
    · rw [if_neg (show ¬ of j = -1 by omega), x1, Int.toNat_natCast]
      by_cases e : q = k
      · subst e; rw [if_pos rfl]; simp
      · rw [if_neg (by omega)]
        by_cases e2 : q = i
        · subst e2; rw [if_pos rfl]
          simp only [List.mem_append, List.mem_singleton]
          exact ⟨fun y => by rcases y with y | y; exact absurd y hni; omega, fun y => by omega⟩
        · rw [if_neg e2, ← h.frto q hq, hfm]
          simp only [List.mem_append, List.mem_singleton]
          exact ⟨fun y => by rcases y with y | y; exact Or.inl y; omega, fun y => Or.inl (y.resolve_right e2)⟩
  · by_cases e : of j = (q : Int)
    · rw [if_pos e]; exact Or.inl rfl
    · rw [if_neg e]
      by_cases e2 : q = i
      · subst e2; rw [if_pos rfl]; exact Or.inr ⟨j, hj, rfl, by rw [if_pos rfl]⟩
      · rw [if_neg e2]
        rcases h.to_ q hq with x | ⟨j', x1, x2, x3⟩
        · exact Or.inl x
        · refine Or.inr ⟨j', x1, x2, ?_⟩
          rw [if_neg (fun y => by subst y; exact e x3)]; exact x3
  · by_cases e : q = j
    · subst e; rw [if_pos rfl]
      refine Or.inr ⟨i, hi, rfl, ?_⟩
      rw [if_neg, if_pos rfl]
      intro y
      exact (hki i y).2.2.1 rfl
    · rw [if_neg e]
      rcases h.of_ q hq with x | ⟨i', x1, x2, x3⟩
      · exact Or.inl x
      · refine Or.inr ⟨i', x1, x2, ?_⟩
        rw [if_neg (fun y => by have := (hki i' y).2.1; omega), if_neg (fun y => by rw [y, hto] at x3; omega)]
        exact x3
  · by_cases e : of j = (q : Int)
    · rw [if_pos e] at hq'; omega
    · rw [if_neg e] at hq'
      by_cases e2 : q = i
      · subst e2
        rw [if_pos rfl] at hq' ⊢
        have : j = j' := by omega
        subst this
        exact ⟨by omega, by rw [Nat.add_sub_cancel]; exact hje⟩
      · rw [if_neg e2] at hq' ⊢; exact h.mt q j' hq hq'
  · by_cases hp2 : q = i ∧ p = nx i
    · obtain ⟨rfl, rfl⟩ := hp2
      exact ⟨q, hi, by rw [hje, if_pos rfl], Nat.le_refl _⟩
    · have hp' : p < nx q := by
        by_cases e : q = i
        · subst e; rw [if_pos rfl] at hp; have : p ≠ nx q := fun x => hp2 ⟨rfl, x⟩; omega
        · rw [if_neg e] at hp; exact hp
      by_cases e : A q p = j
      · obtain ⟨k, k1, k2⟩ := hrej0 q p hq hp' e
        rw [e]
        refine ⟨i, hi, by rw [if_pos rfl], ?_⟩
        rcases hk2 with x | ⟨k', x1, x2, x3, x4, x5, x6⟩
        · omega
        · have : k = k' := by omega
          subst this; omega
      · rw [if_neg e]; exact h.rej q p hq hp'
  · by_cases hp2 : q = i ∧ p = nx i
    · obtain ⟨rfl, rfl⟩ := hp2
      exfalso
      apply hne
      rw [if_neg, if_pos rfl, hje]
      intro y
      exact (hki q y).2.2.1 rfl
    · have hp' : p < nx q := by
        by_cases e : q = i
        · subst e; rw [if_pos rfl] at hp; have : p ≠ nx q := fun x => hp2 ⟨rfl, x⟩; omega
        · rw [if_neg e] at hp; exact hp
      by_cases e : of j = (q : Int)
      · by_cases e3 : A q p = j
        · rw [e3]
          intro hMq
          rcases hk2 with x | ⟨k, x1, x2, x3, x4, x5, x6⟩
          · omega
          · have : k = q := by omega
            subst this
            have hMi : M i ≠ M k := fun y => x4 (hM.2 i k hi hq y).symm
            have hMin := hM.1 i hi
            obtain ⟨p1, p2⟩ := hA.of_ i (M i) hi hMin
            have hlt : ra i (M k) < ra i (M i) := by
              rw [hMq, ← hje, hA.at_ i (nx i) hi hl]
              rcases Nat.lt_trichotomy (ra i (M i)) (nx i) with y | y | y
              · exfalso
                exact h.opt M hM hS i (ra i (M i)) hi y (by rw [hto]; omega) p2.symm
              · exfalso; rw [y, hje] at p2; exact hMi (by rw [hMq, p2])
              · exact y
            exact hS i k hi hq hlt (by rw [hMq]; exact x6)
        · refine h.opt M hM hS q p hq hp' ?_
          have := (hki q e).2.1
          rw [this]; omega
      · by_cases e2 : q = i
        · subst e2
          refine h.opt M hM hS q p hq hp' ?_
          rw [hto]; omega
        · rw [if_neg e, if_neg e2] at hne
          exact h.opt M hM hS q p hq hp' hne

/-- Nobody is free any more: what holds. -/
theorem GS.done (hA : Pref n A ra) (h : GS n A ra rb to of nx []) :
    (∀ i, i < n → ∃ j, j < n ∧ to i = ((j : Nat) : Int)) ∧ Perm n (fun i => (to i).toNat) ∧ NoPair n ra rb (fun i => (to i).toNat) ∧
      ∀ M, Perm n M → NoPair n ra rb M → ∀ i, i < n → ra i (to i).toNat ≤ ra i (M i) := by
  have hto : ∀ i, i < n → ∃ j, j < n ∧ to i = ((j : Nat) : Int) ∧ of j = (i : Int) := fun i hi => by
    rcases h.to_ i hi with x | x
    · have := (h.frto i hi).2 x; cases this
    · exact x
  refine ⟨fun i hi => by obtain ⟨j, a, b, _⟩ := hto i hi; exact ⟨j, a, b⟩, ⟨fun i hi => ?_, fun i k hi hk e => ?_⟩, fun i k hi hk h1 h2 => ?_, fun M hM hS i hi => ?_⟩
  · obtain ⟨j, a, b, _⟩ := hto i hi
    simp only [b, Int.toNat_natCast]; exact a
  · obtain ⟨j, a, b, c⟩ := hto i hi
    obtain ⟨j', a', b', c'⟩ := hto k hk
    simp only [b, b', Int.toNat_natCast] at e
    subst e
    omega
  · obtain ⟨j, a, b, c⟩ := hto i hi
    obtain ⟨j', a', b', c'⟩ := hto k hk
    simp only [b, b', Int.toNat_natCast] at h1 h2
    obtain ⟨m1, m2⟩ := h.mt i j hi b
    have hr : ra i j = nx i - 1 := by rw [← m2]; exact hA.at_ i _ hi (by have := h.nxn i hi; omega)
    obtain ⟨q, q1, q2, q3⟩ := h.rej i (ra i j') hi (by omega)
    rw [(hA.of_ i j' hi a').2] at q2 q3
    have : q = k := by omega
    subst this
    omega
  · obtain ⟨j, a, b, c⟩ := hto i hi
    rw [b, Int.toNat_natCast]
    obtain ⟨m1, m2⟩ := h.mt i j hi b
    have hr : ra i j = nx i - 1 := by rw [← m2]; exact hA.at_ i _ hi (by have := h.nxn i hi; omega)
    refine Nat.le_of_not_lt fun hlt => ?_
    obtain ⟨p1, p2⟩ := hA.of_ i (M i) hi (hM.1 i hi)
    refine h.opt M hM hS i (ra i (M i)) hi (by omega) (fun e => ?_) p2.symm
    rw [b, p2] at e
    have : j = M i := by omega
    rw [this] at hlt
    omega

end
end Go.Proofs.Ytfccfmjamdpeaaa
