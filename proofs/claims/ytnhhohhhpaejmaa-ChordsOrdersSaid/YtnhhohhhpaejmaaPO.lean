/- Transitive orientations by classes of forced arcs: the plain law. The class that one arc forces, found with a queue: the plain law. chords.Orders: class after class; the plain law. -/
import Derived.Test.YtnhhohhhpaejmaaOpen
import Derived.Test.YtnhhohhhpaejmaaGood
namespace Go.Proofs.Ytnhhohhhpaejmaa

/-- C is the class of the arc (x, y): the least set that holds it and what it forces. -/
structure IsCls (T : Nat → Nat → Prop) (x y : Nat) (C : Nat → Nat → Prop) : Prop where
  base : C x y
  edge : ∀ a b, C a b → T a b
  head : ∀ a b c, C a b → T a c → b ≠ c → ¬ T b c → C a c
  tail : ∀ a b c, C a b → T c b → a ≠ c → ¬ T a c → C c b
  least : ∀ P : Nat → Nat → Prop, P x y → (∀ a b c, C a b → P a b → T a c → b ≠ c → ¬ T b c → P a c) → (∀ a b c, C a b → P a b → T c b → a ≠ c → ¬ T a c → P c b) → ∀ a b, C a b → P a b

/-- F is a transitive orientation of T. -/
structure TOr (T F : Nat → Nat → Prop) : Prop where
  sub : ∀ a b, F a b → T a b
  tot : ∀ a b, T a b → F a b ∨ F b a
  anti : ∀ a b, F a b → ¬ F b a
  trans : ∀ a b c, F a b → F b c → F a c

theorem TOr.flip {T F : Nat → Nat → Prop} (hs : ∀ a b, T a b → T b a) (h : TOr T F) : TOr T (fun a b => F b a) :=
  ⟨fun a b k => hs _ _ (h.sub _ _ k), fun a b k => (h.tot a b k).symm, fun a b k => h.anti b a k, fun a b c k1 k2 => h.trans _ _ _ k2 k1⟩

theorem IsCls.walk {T C : Nat → Nat → Prop} {x y : Nat} (hs : ∀ a b, T a b → T b a) (h : IsCls T x y C) (P : Nat → Nat → Prop)
    (h1 : ∀ a b c, C a b → P a b → T a c → b ≠ c → ¬ T b c → P a c) (h2 : ∀ a b c, C a b → P a b → T c b → a ≠ c → ¬ T a c → P c b) {p q : Nat} (hp : C p q) (hP : P p q) : ∀ a b, C a b → P a b := by
  have hx : P x y := by
    refine h.least (fun a b => P a b → P x y) (fun k => k) ?_ ?_ p q hp hP
    · intro a b c k1 k2 k3 k4 k5 k6
      exact k2 (h1 a c b (h.head a b c k1 k3 k4 k5) k6 (h.edge _ _ k1) (fun e => k4 e.symm) (fun e => k5 (hs _ _ e)))
    · intro a b c k1 k2 k3 k4 k5 k6
      exact k2 (h2 c b a (h.tail a b c k1 k3 k4 k5) k6 (h.edge _ _ k1) (fun e => k4 e.symm) (fun e => k5 (hs _ _ e)))
  exact h.least P hx h1 h2

/-- A class lies in an orientation, or in its reverse. -/
theorem TOr.side {T F C : Nat → Nat → Prop} {x y : Nat} (hs : ∀ a b, T a b → T b a) (h : TOr T F) (hc : IsCls T x y C) (hx : F x y) : ∀ a b, C a b → F a b := by
  refine hc.least F hx ?_ ?_
  · intro a b c k1 k2 k3 k4 k5
    refine (h.tot _ _ k3).resolve_right fun k6 => k5 (hs _ _ (h.sub _ _ (h.trans _ _ _ k6 k2)))
  · intro a b c k1 k2 k3 k4 k5
    refine (h.tot _ _ k3).resolve_right fun k6 => k5 (h.sub _ _ (h.trans _ _ _ k2 k6))

theorem TOr.free {T F C : Nat → Nat → Prop} {x y : Nat} (hs : ∀ a b, T a b → T b a) (h : TOr T F) (hc : IsCls T x y C) (a b : Nat) (k : C a b) : ¬ C b a := by
  intro k2
  rcases h.tot _ _ (hc.edge _ _ hc.base) with hx | hx
  · have := h.side hs hc hx
    exact h.anti _ _ (this _ _ k) (this _ _ k2)
  · have := (h.flip hs).side hs hc hx
    exact h.anti _ _ (this _ _ k) (this _ _ k2)

/-- What is left where a class is taken away. -/
def Rest (T C : Nat → Nat → Prop) (a b : Nat) : Prop := T a b ∧ ¬ C a b ∧ ¬ C b a

/-- Between: z lies over a tail and under the head of an arc of the class, by arcs that are not of it. -/
def Btw (F C : Nat → Nat → Prop) (z : Nat) : Prop := ∃ a c, C a c ∧ F a z ∧ ¬ C a z ∧ F z c ∧ ¬ C z c

theorem btw_all {T F C : Nat → Nat → Prop} {x y : Nat} (hs : ∀ a b, T a b → T b a) (hi : ∀ a, ¬ T a a) (h : TOr T F) (hc : IsCls T x y C) (hF : ∀ a b, C a b → F a b) {z : Nat} (hz : Btw F C z) :
    ∀ a c, C a c → F a z ∧ ¬ C a z ∧ F z c ∧ ¬ C z c := by
  obtain ⟨a, c, k1, k2⟩ := hz
  refine hc.walk hs (fun a c => F a z ∧ ¬ C a z ∧ F z c ∧ ¬ C z c) ?_ ?_ k1 k2
  · rintro a c c' k ⟨j1, j2, j3, j4⟩ t n m
    have kc := hc.head _ _ _ k t n m
    have hzc : z ≠ c' := by rintro rfl; exact j2 kc
    have tz : T z c' := Classical.byContradiction fun e => j2 (hc.head _ _ _ kc (h.sub _ _ j1) (fun e2 => hzc e2.symm) (fun e2 => e (hs _ _ e2)))
    have fz : F z c' := (h.tot _ _ tz).resolve_right fun e => m (hs _ _ (h.sub _ _ (h.trans _ _ _ e j3)))
    exact ⟨j1, j2, fz, fun e => j4 (hc.head _ _ _ e (h.sub _ _ j3) (fun e2 => n e2.symm) (fun e2 => m (hs _ _ e2)))⟩
  · rintro a c a' k ⟨j1, j2, j3, j4⟩ t n m
    have kc := hc.tail _ _ _ k t n m
    have hza : z ≠ a' := by rintro rfl; exact j4 kc
    have tz : T a' z := Classical.byContradiction fun e => j4 (hc.tail _ _ _ kc (h.sub _ _ j3) (fun e2 => hza e2.symm) e)
    have fz : F a' z := (h.tot _ _ tz).resolve_right fun e => m (h.sub _ _ (h.trans _ _ _ j1 e))
    exact ⟨fz, fun e => j2 (hc.tail _ _ _ e (h.sub _ _ j1) (fun e2 => n e2.symm) (fun e2 => m (hs _ _ e2))), j3, j4⟩

/-- Where a class lies in a transitive orientation, what is left has one too. -/
theorem rest_side {T F C : Nat → Nat → Prop} {x y : Nat} (hs : ∀ a b, T a b → T b a) (hi : ∀ a, ¬ T a a) (h : TOr T F) (hc : IsCls T x y C) (hF : ∀ a b, C a b → F a b) : ∃ F', TOr (Rest T C) F' := by
  have HA := fun z (hz : Btw F C z) => btw_all hs hi h hc hF hz
  -- Z = Btw, H = heads
  let H : Nat → Prop := fun c => ∃ a, C a c
  let Z : Nat → Prop := Btw F C
  have ZH : ∀ z, Z z → ¬ H z := fun z hz ⟨a, k⟩ => (HA z hz a z k).2.1 k
  have ZK : ∀ z c, Z z → ¬ C z c := fun z c hz k => (HA z hz z c k).2.2.2 k
  have zh : ∀ z c, Z z → H c → F z c ∧ ¬ C z c := fun z c hz ⟨a, k⟩ => (HA z hz a c k).2.2
  have hk : ∀ z c, Z z → C z c → False := fun z c hz k => ZK z c hz k
  have HK : ∀ z b c, Z z → H b → ¬ C b c := fun z b c hz hb k => h.anti _ _ (zh z b hz hb).1 (HA z hz b c k).1
  refine ⟨fun a b => (F a b ∧ ¬ C a b ∧ ¬ (Z a ∧ H b)) ∨ (H a ∧ Z b), ?_, ?_, ?_, ?_⟩
  · rintro a b (⟨k1, k2, -⟩ | ⟨k1, k2⟩)
    · exact ⟨h.sub _ _ k1, k2, fun e => h.anti _ _ k1 (hF _ _ e)⟩
    · obtain ⟨j1, j2⟩ := zh b a k2 k1
      exact ⟨hs _ _ (h.sub _ _ j1), fun e => h.anti _ _ j1 (hF _ _ e), j2⟩
  · rintro a b ⟨k1, k2, k3⟩
    rcases h.tot _ _ k1 with k | k
    · by_cases e : Z a ∧ H b
      · exact Or.inr (Or.inr ⟨e.2, e.1⟩)
      · exact Or.inl (Or.inl ⟨k, k2, e⟩)
    · by_cases e : Z b ∧ H a
      · exact Or.inl (Or.inr ⟨e.2, e.1⟩)
      · exact Or.inr (Or.inl ⟨k, k3, e⟩)
  · rintro a b (⟨k1, k2, k3⟩ | ⟨k1, k2⟩) (⟨j1, j2, j3⟩ | ⟨j1, j2⟩)
    · exact h.anti _ _ k1 j1
    · exact k3 ⟨j2, j1⟩
    · exact j3 ⟨k2, k1⟩
    · exact ZH _ k2 j1
  · rintro a b c (⟨k1, k2, k3⟩ | ⟨k1, k2⟩) (⟨j1, j2, j3⟩ | ⟨j1, j2⟩)
    · have hac := h.trans _ _ _ k1 j1
      have nC : ¬ C a c := fun e => j3 ⟨⟨a, c, e, k1, k2, j1, j2⟩, ⟨a, e⟩⟩
      refine Or.inl ⟨hac, nC, ?_⟩
      rintro ⟨za, a', hc'⟩
      obtain ⟨m1, m2, m3, m4⟩ := HA a za a' c hc'
      have f1 := h.trans _ _ _ m1 k1
      by_cases e : C a' b
      · exact k3 ⟨za, a', e⟩
      · exact j3 ⟨⟨a', c, hc', f1, e, j1, j2⟩, ⟨a', hc'⟩⟩
    · -- a → b old, b ∈ H, c ∈ Z
      obtain ⟨d, kd⟩ := j1
      obtain ⟨m1, m2, m3, m4⟩ := HA c j2 d b kd
      have hda : d ≠ a := by rintro rfl; exact k2 kd
      have tda : T d a := Classical.byContradiction fun e => k2 (hc.tail _ _ _ kd (h.sub _ _ k1) hda e)
      rcases h.tot _ _ tda with f | f
      · by_cases e : C d a
        · exact Or.inr ⟨⟨d, e⟩, j2⟩
        · exact (k3 ⟨⟨d, b, kd, f, e, k1, k2⟩, ⟨d, kd⟩⟩).elim
      · refine Or.inl ⟨h.trans _ _ _ f m1, fun e => ZH c j2 ⟨a, e⟩, fun e => ZH c j2 e.2⟩
    · -- a ∈ H, b ∈ Z, b → c old
      have nH : ¬ H c := fun e => j3 ⟨k2, e⟩
      obtain ⟨d, kd⟩ := k1
      obtain ⟨m1, m2, m3, m4⟩ := HA b k2 d a kd
      have fdc := h.trans _ _ _ m1 j1
      have hac : a ≠ c := by rintro rfl; exact nH ⟨d, kd⟩
      have tac : T a c := Classical.byContradiction fun e => nH ⟨d, hc.head _ _ _ kd (h.sub _ _ fdc) hac e⟩
      have ndc : ¬ C d c := fun e => nH ⟨d, e⟩
      rcases h.tot _ _ tac with f | f
      · exact Or.inl ⟨f, fun e => nH ⟨a, e⟩, fun e => nH e.2⟩
      · have nca : ¬ C c a := fun e => h.anti _ _ j1 (HA b k2 c a e).1
        exact Or.inr ⟨⟨d, kd⟩, ⟨d, a, kd, fdc, ndc, f, nca⟩⟩
    · exact (ZH b k2 j1).elim

theorem rest_or {T F C : Nat → Nat → Prop} {x y : Nat} (hs : ∀ a b, T a b → T b a) (hi : ∀ a, ¬ T a a) (h : TOr T F) (hc : IsCls T x y C) : ∃ F', TOr (Rest T C) F' := by
  rcases h.tot _ _ (hc.edge _ _ hc.base) with hx | hx
  · exact rest_side hs hi h hc (h.side hs hc hx)
  · exact rest_side hs hi (h.flip hs) hc ((h.flip hs).side hs hc hx)

/-- A class that holds no arc with its reverse is transitive. -/
theorem IsCls.trans {T C : Nat → Nat → Prop} {x y : Nat} (hs : ∀ a b, T a b → T b a) (hi : ∀ a, ¬ T a a) (hc : IsCls T x y C) (hf : ∀ a b, C a b → ¬ C b a) {a b c : Nat} (hab : C a b) (hbc : C b c) : C a c := by
  have hac : a ≠ c := by rintro rfl; exact hf _ _ hab hbc
  have tac : T a c := Classical.byContradiction fun e => hf _ _ hbc (hc.tail _ _ _ hab (hs _ _ (hc.edge _ _ hbc)) hac e)
  refine Classical.byContradiction fun hn => ?_
  have key := hc.walk hs (fun b c => C a b ∧ T a c ∧ ¬ C a c) ?_ ?_ hbc ⟨hab, tac, hn⟩ a b hab
  · exact hi a (hc.edge _ _ key.1)
  · rintro b c c' k ⟨j1, j2, j3⟩ t n m
    have kc := hc.head _ _ _ k t n m
    have hne : a ≠ c' := by rintro rfl; exact hf _ _ j1 kc
    have ta : T a c' := Classical.byContradiction fun e => hf _ _ j1 (hc.head _ _ _ kc (hs _ _ (hc.edge _ _ j1)) (fun e2 => hne e2.symm) (fun e2 => e (hs _ _ e2)))
    exact ⟨j1, ta, fun e => j3 (hc.head _ _ _ e j2 (fun e2 => n e2.symm) (fun e2 => m (hs _ _ e2)))⟩
  · rintro b c b' k ⟨j1, j2, j3⟩ t n m
    have kc := hc.tail _ _ _ k t n m
    have hne : a ≠ b' := by rintro rfl; exact j3 kc
    have ta : T a b' := Classical.byContradiction fun e => j3 (hc.tail _ _ _ kc j2 (fun e2 => hne e2.symm) (fun e2 => e (hs _ _ e2)))
    exact ⟨hc.head _ _ _ j1 ta n m, j2, j3⟩

/-- A class without conflict joins a transitive orientation of what is left. -/
theorem join_or {T F C : Nat → Nat → Prop} {x y : Nat} (hs : ∀ a b, T a b → T b a) (hi : ∀ a, ¬ T a a) (hc : IsCls T x y C) (hf : ∀ a b, C a b → ¬ C b a) (h : TOr (Rest T C) F) : TOr T (fun a b => F a b ∨ C a b) := by
  have fT : ∀ a b, F a b → T a b := fun a b k => (h.sub _ _ k).1
  have fC : ∀ a b, F a b → ¬ C a b := fun a b k => (h.sub _ _ k).2.1
  have fD : ∀ a b, F a b → ¬ C b a := fun a b k => (h.sub _ _ k).2.2
  refine ⟨?_, ?_, ?_, ?_⟩
  · rintro a b (k | k)
    · exact fT _ _ k
    · exact hc.edge _ _ k
  · intro a b k
    by_cases e1 : C a b
    · exact Or.inl (Or.inr e1)
    by_cases e2 : C b a
    · exact Or.inr (Or.inr e2)
    exact (h.tot _ _ ⟨k, e1, e2⟩).imp Or.inl Or.inl
  · rintro a b (k | k) (j | j)
    · exact h.anti _ _ k j
    · exact fD _ _ k j
    · exact fD _ _ j k
    · exact hf _ _ k j
  · rintro a b c (k | k) (j | j)
    · exact Or.inl (h.trans _ _ _ k j)
    · -- a → b in F, b → c in C
      have hne : a ≠ c := by rintro rfl; exact fD _ _ k j
      have tac : T a c := Classical.byContradiction fun e => fD _ _ k (hc.head _ _ _ j (hs _ _ (fT _ _ k)) (fun e2 => hne e2.symm) (fun e2 => e (hs _ _ e2)))
      by_cases e1 : C a c
      · exact Or.inr e1
      by_cases e2 : C c a
      · exact (fD _ _ k (hc.trans hs hi hf j e2)).elim
      rcases h.tot _ _ ⟨tac, e1, e2⟩ with f | f
      · exact Or.inl f
      · exact (fD _ _ (h.trans _ _ _ f k) j).elim
    · have hne : a ≠ c := by rintro rfl; exact fD _ _ j k
      have tac : T a c := Classical.byContradiction fun e => fD _ _ j (hc.tail _ _ _ k (hs _ _ (fT _ _ j)) hne e)
      by_cases e1 : C a c
      · exact Or.inr e1
      by_cases e2 : C c a
      · exact (fD _ _ j (hc.trans hs hi hf e2 k)).elim
      rcases h.tot _ _ ⟨tac, e1, e2⟩ with f | f
      · exact Or.inl f
      · exact (fD _ _ (h.trans _ _ _ j f) k).elim
    · exact Or.inr (hc.trans hs hi hf k j)

theorem TOr.none {T : Nat → Nat → Prop} (h : ∀ a b, ¬ T a b) : TOr T (fun _ _ => False) :=
  ⟨fun _ _ => False.elim, fun a b k => (h a b k).elim, fun _ _ => False.elim, fun _ _ _ => False.elim⟩

end Go.Proofs.Ytnhhohhhpaejmaa
namespace Go.Proofs.Ytnhhohhhpaejmaa

/-- The edges among the nodes below N. -/
def TN (N : Nat) (t : Nat → Nat → Bool) (a b : Nat) : Prop := a < N ∧ b < N ∧ t a b = true

/-- With one pair more. -/
def addB (I : Nat → Nat → Bool) (i j : Nat) : Nat → Nat → Bool := fun a b => I a b || (decide (a = i) && decide (b = j))
theorem addB_iff {I : Nat → Nat → Bool} {i j a b : Nat} : addB I i j a b = true ↔ I a b = true ∨ (a = i ∧ b = j) := by simp [addB]
theorem addB_old {I : Nat → Nat → Bool} {i j : Nat} (h : I i j = true) : addB I i j = I := by
  funext a b
  cases e : I a b
  · have : ¬ (a = i ∧ b = j) := fun ⟨h1, h2⟩ => by subst h1; subst h2; rw [h] at e; cases e
    have : (decide (a = i) && decide (b = j)) = false := by simpa using this
    simp [addB, e, this]
  · simp [addB, e]

/-- The set so far: it holds the arc, and nothing that is not forced. -/
structure FInv (N : Nat) (t : Nat → Nat → Bool) (x y : Nat) (I : Nat → Nat → Bool) : Prop where
  base : I x y = true
  edge : ∀ a b, I a b = true → TN N t a b
  least : ∀ P : Nat → Nat → Prop, P x y → (∀ a b c, P a b → TN N t a b → TN N t a c → b ≠ c → ¬ TN N t b c → P a c) → (∀ a b c, P a b → TN N t a b → TN N t c b → a ≠ c → ¬ TN N t a c → P c b) → ∀ a b, I a b = true → P a b
theorem FInv.head {N : Nat} {t : Nat → Nat → Bool} {x y : Nat} {I : Nat → Nat → Bool} (h : FInv N t x y I) {a b c : Nat} (hab : I a b = true) (hc : c < N) (h1 : c ≠ b) (h2 : t a c = true) (h3 : t b c = false) : FInv N t x y (addB I a c) := by
  have hab' := h.edge a b hab
  have hac : TN N t a c := ⟨hab'.1, hc, h2⟩
  have hbc : ¬ TN N t b c := fun k => by rw [k.2.2] at h3; cases h3
  refine ⟨addB_iff.2 (.inl h.base), fun p q k => ?_, fun P k0 k1 k2 p q k => ?_⟩
  · rcases addB_iff.1 k with k | ⟨rfl, rfl⟩
    · exact h.edge _ _ k
    · exact hac
  · rcases addB_iff.1 k with k | ⟨rfl, rfl⟩
    · exact h.least P k0 k1 k2 _ _ k
    · exact k1 _ _ _ (h.least P k0 k1 k2 _ _ hab) hab' hac (fun e => h1 e.symm) hbc
theorem FInv.tail {N : Nat} {t : Nat → Nat → Bool} {x y : Nat} {I : Nat → Nat → Bool} (hs : ∀ a b, t a b = t b a) (h : FInv N t x y I) {a b c : Nat} (hab : I a b = true) (hc : c < N) (h1 : c ≠ a) (h2 : t b c = true) (h3 : t a c = false) : FInv N t x y (addB I c b) := by
  have hab' := h.edge a b hab
  have hcb : TN N t c b := ⟨hc, hab'.2.1, by rw [hs]; exact h2⟩
  have hac : ¬ TN N t a c := fun k => by rw [k.2.2] at h3; cases h3
  refine ⟨addB_iff.2 (.inl h.base), fun p q k => ?_, fun P k0 k1 k2 p q k => ?_⟩
  · rcases addB_iff.1 k with k | ⟨rfl, rfl⟩
    · exact h.edge _ _ k
    · exact hcb
  · rcases addB_iff.1 k with k | ⟨rfl, rfl⟩
    · exact h.least P k0 k1 k2 _ _ k
    · exact k2 _ _ _ (h.least P k0 k1 k2 _ _ hab) hab' hcb (fun e => h1 e.symm) hac
theorem FInv.start {N : Nat} {t : Nat → Nat → Bool} {x y : Nat} (h : TN N t x y) : FInv N t x y (addB (fun _ _ => false) x y) := by
  refine ⟨addB_iff.2 (.inr ⟨rfl, rfl⟩), fun p q k => ?_, fun P k0 k1 k2 p q k => ?_⟩
  · rcases addB_iff.1 k with k | ⟨rfl, rfl⟩
    · cases k
    · exact h
  · rcases addB_iff.1 k with k | ⟨rfl, rfl⟩
    · cases k
    · exact k0

/-- What (a, b) forces at the nodes below c has been taken in. -/
def Fore (t : Nat → Nat → Bool) (I : Nat → Nat → Bool) (a b c : Nat) : Prop :=
  ∀ d, d < c → ((d ≠ b ∧ t a d = true ∧ t b d = false) → I a d = true) ∧ ((d ≠ a ∧ t b d = true ∧ t a d = false) → I d b = true)
theorem Fore.mono {t I J : Nat → Nat → Bool} {a b c : Nat} (h : Fore t I a b c) (hs : ∀ p q, I p q = true → J p q = true) : Fore t J a b c :=
  fun d hd => ⟨fun k => hs _ _ ((h d hd).1 k), fun k => hs _ _ ((h d hd).2 k)⟩
theorem Fore.succ {t I J : Nat → Nat → Bool} {a b c : Nat} (h : Fore t I a b c) (hs : ∀ p q, I p q = true → J p q = true) (h1 : (c ≠ b ∧ t a c = true ∧ t b c = false) → J a c = true) (h2 : (c ≠ a ∧ t b c = true ∧ t a c = false) → J c b = true) : Fore t J a b (c + 1) := by
  intro d hd
  by_cases e : d = c
  · subst e; exact ⟨h1, h2⟩
  · exact h.mono hs d (by omega)
/-- All but those of the queue have been gone through. -/
def Queued (N : Nat) (t I : Nat → Nat → Bool) (L : List (Nat × Nat)) : Prop := ∀ a b, I a b = true → (a, b) ∈ L ∨ Fore t I a b N
theorem addB_sub (I : Nat → Nat → Bool) (i j : Nat) : ∀ p q, I p q = true → addB I i j p q = true := fun _ _ k => addB_iff.2 (.inl k)

/-- The queue with what is not in the set yet. -/
def addQ (I : Nat → Nat → Bool) (L : List (Nat × Nat)) (i j : Nat) : List (Nat × Nat) := if I i j then L else L ++ [(i, j)]
/-- All but those of the queue, and (a, b). -/
def QueuedBut (N : Nat) (t I : Nat → Nat → Bool) (L : List (Nat × Nat)) (a b : Nat) : Prop := ∀ p q, I p q = true → (p, q) ∈ L ∨ (p = a ∧ q = b) ∨ Fore t I p q N
theorem QueuedBut.add {N : Nat} {t I : Nat → Nat → Bool} {L : List (Nat × Nat)} {a b : Nat} (h : QueuedBut N t I L a b) (i j : Nat) : QueuedBut N t (addB I i j) (addQ I L i j) a b := by
  intro p q k
  unfold addQ
  by_cases e : I i j = true
  · rw [addB_old e] at k ⊢
    rw [if_pos e]
    exact h p q k
  · rw [if_neg e]
    rcases addB_iff.1 k with k | ⟨rfl, rfl⟩
    · rcases h p q k with h1 | h1 | h1
      · exact .inl (List.mem_append_left _ h1)
      · exact .inr (.inl h1)
      · exact .inr (.inr (h1.mono (addB_sub I i j)))
    · exact .inl (by simp)
theorem QueuedBut.of {N : Nat} {t I : Nat → Nat → Bool} {L : List (Nat × Nat)} {a b : Nat} (h : Queued N t I ((a, b) :: L)) : QueuedBut N t I L a b := by
  intro p q k
  rcases h p q k with h1 | h1
  · rcases List.mem_cons.1 h1 with h2 | h2
    · rw [Prod.mk.injEq] at h2; exact .inr (.inl h2)
    · exact .inl h2
  · exact .inr (.inr h1)
theorem QueuedBut.done {N : Nat} {t I : Nat → Nat → Bool} {L : List (Nat × Nat)} {a b : Nat} (h : QueuedBut N t I L a b) (hf : Fore t I a b N) : Queued N t I L := by
  intro p q k
  rcases h p q k with h1 | ⟨rfl, rfl⟩ | h1
  · exact .inl h1
  · exact .inr hf
  · exact .inr h1

theorem addQ_in {I : Nat → Nat → Bool} {L : List (Nat × Nat)} {i j : Nat} (h : ∀ p ∈ L, I p.1 p.2 = true) : ∀ p ∈ addQ I L i j, addB I i j p.1 p.2 = true := by
  intro p hp
  unfold addQ at hp
  split at hp
  · exact addB_iff.2 (.inl (h p hp))
  · rcases List.mem_append.1 hp with hp | hp
    · exact addB_iff.2 (.inl (h p hp))
    · obtain rfl := List.mem_singleton.1 hp
      exact addB_iff.2 (.inr ⟨rfl, rfl⟩)
theorem addQ_cons (I : Nat → Nat → Bool) (p : Nat × Nat) (L : List (Nat × Nat)) (i j : Nat) : addQ I (p :: L) i j = p :: addQ I L i j := by
  unfold addQ; split <;> rfl
theorem addB_self (I : Nat → Nat → Bool) (i j : Nat) : addB I i j i j = true := addB_iff.2 (.inr ⟨rfl, rfl⟩)

/-- Where the queue is empty, the set is the class. -/
theorem FInv.cls {N : Nat} {t : Nat → Nat → Bool} {x y : Nat} {I : Nat → Nat → Bool} (hs : ∀ a b, t a b = t b a) (h : FInv N t x y I) (hq : Queued N t I []) : IsCls (TN N t) x y (fun a b => I a b = true) := by
  have hF : ∀ a b, I a b = true → Fore t I a b N := fun a b k => (hq a b k).resolve_left (by simp)
  refine ⟨h.base, h.edge, fun a b c k t1 ne nt => ?_, fun a b c k t1 ne nt => ?_, fun P k0 k1 k2 a b k => ?_⟩
  · refine (hF a b k c t1.2.1).1 ⟨fun e => ne e.symm, t1.2.2, ?_⟩
    cases e : t b c
    · rfl
    · exact (nt ⟨(h.edge _ _ k).2.1, t1.2.1, e⟩).elim
  · refine (hF a b k c t1.1).2 ⟨fun e => ne e.symm, by rw [hs]; exact t1.2.2, ?_⟩
    cases e : t a c
    · rfl
    · exact (nt ⟨(h.edge _ _ k).1, t1.1, e⟩).elim
  · have hIcl : ∀ a b, I a b = true → I a b = true ∧ P a b := h.least (fun a b => I a b = true ∧ P a b) ⟨h.base, k0⟩ (fun a b c ⟨j1, j2⟩ e1 e2 ne nt => by
      refine ⟨(hF a b j1 c e2.2.1).1 ⟨fun e => ne e.symm, e2.2.2, ?_⟩, k1 a b c j1 j2 e2 ne nt⟩
      cases e : t b c
      · rfl
      · exact (nt ⟨e1.2.1, e2.2.1, e⟩).elim) (fun a b c ⟨j1, j2⟩ e1 e2 ne nt => by
      refine ⟨(hF a b j1 c e2.1).2 ⟨fun e => ne e.symm, by rw [hs]; exact e2.2.2, ?_⟩, k2 a b c j1 j2 e2 ne nt⟩
      cases e : t a c
      · rfl
      · exact (nt ⟨e1.1, e2.1, e⟩).elim)
    exact (hIcl a b k).2

/-- All pairs of nodes. -/
def allP (N : Nat) : List (Nat × Nat) := (List.range N).flatMap fun i => (List.range N).map fun j => (i, j)
theorem mem_allP {N i j : Nat} : (i, j) ∈ allP N ↔ i < N ∧ j < N := by
  simp only [allP, List.mem_flatMap, List.mem_range, List.mem_map, Prod.mk.injEq]
  constructor
  · rintro ⟨a, ha, b, hb, rfl, rfl⟩; exact ⟨ha, hb⟩
  · rintro ⟨h1, h2⟩; exact ⟨i, h1, j, h2, rfl, rfl⟩
theorem allP_len (N : Nat) : (allP N).length = N * N := by
  unfold allP
  rw [List.length_flatMap]
  have : ∀ l : List Nat, (l.map fun _ => N).sum = l.length * N := fun l => by
    induction l with
    | nil => simp
    | cons a l ih => rw [List.map_cons, List.sum_cons, ih, List.length_cons, Nat.succ_mul, Nat.add_comm]
  simpa using this (List.range N)
theorem allP_nodup (N : Nat) : (allP N).Nodup := by
  unfold allP List.Nodup
  rw [List.pairwise_flatMap]
  refine ⟨fun i _ => ?_, ?_⟩
  · rw [List.pairwise_map]
    exact List.nodup_range.imp fun h e => h (by simpa using e)
  · refine List.nodup_range.imp fun h => ?_
    intro p hp q hq e
    simp only [List.mem_map] at hp hq
    obtain ⟨_, _, rfl⟩ := hp
    obtain ⟨_, _, rfl⟩ := hq
    simp only [Prod.mk.injEq] at e
    exact h e.1
theorem countP_flip {α : Type} {p q : α → Bool} {a : α} : ∀ {l : List α}, l.Nodup → a ∈ l → p a = true → q a = false → (∀ b ∈ l, b ≠ a → p b = q b) → l.countP p = l.countP q + 1
  | [], _, h, _, _, _ => by cases h
  | c :: l, hn, hm, hp, hq, he => by
    rw [List.nodup_cons] at hn
    by_cases e : c = a
    · subst e
      have : l.countP p = l.countP q := List.countP_congr fun b hb => by
        rw [he b (List.mem_cons_of_mem _ hb) (fun e2 => hn.1 (e2 ▸ hb))]
      rw [List.countP_cons_of_pos hp, List.countP_cons_of_neg (by rw [hq]; simp), this]
    · have hm' : a ∈ l := (List.mem_cons.1 hm).resolve_left (fun e2 => e e2.symm)
      have ih := countP_flip hn.2 hm' hp hq fun b hb => he b (List.mem_cons_of_mem _ hb)
      have hc := he c List.mem_cons_self e
      rw [List.countP_cons, List.countP_cons, hc, ih]
      omega
/-- How many pairs are not in the set. -/
def fals (N : Nat) (I : Nat → Nat → Bool) : Nat := (allP N).countP fun p => !I p.1 p.2
theorem fals_le (N : Nat) (I : Nat → Nat → Bool) : fals N I ≤ N * N := by
  unfold fals
  exact Nat.le_trans List.countP_le_length (by rw [allP_len]; exact Nat.le_refl _)
theorem fals_add {N : Nat} {I : Nat → Nat → Bool} {i j : Nat} (hi : i < N) (hj : j < N) (h : I i j = false) : fals N I = fals N (addB I i j) + 1 := by
  unfold fals
  refine countP_flip (a := (i, j)) (allP_nodup N) (mem_allP.2 ⟨hi, hj⟩) (by simp [h]) (by simp [addB]) fun b _ hb => ?_
  have : ¬ (b.1 = i ∧ b.2 = j) := fun ⟨h1, h2⟩ => hb (Prod.ext h1 h2)
  have : (decide (b.1 = i) && decide (b.2 = j)) = false := by simpa using this
  simp [addB, this]
theorem fals_addQ {N : Nat} {I : Nat → Nat → Bool} {L : List (Nat × Nat)} {i j : Nat} (hi : i < N) (hj : j < N) : fals N (addB I i j) + (addQ I L i j).length = fals N I + L.length := by
  unfold addQ
  cases e : I i j
  · rw [fals_add hi hj e, if_neg (by simp), List.length_append]
    simp only [List.length_cons, List.length_nil]
    omega
  · rw [addB_old e, if_pos rfl]

end Go.Proofs.Ytnhhohhhpaejmaa
namespace Go.Proofs.Ytnhhohhhpaejmaa

theorem TOr.congr {T F F' : Nat → Nat → Prop} (h : TOr T F) (e : ∀ a b, F a b ↔ F' a b) : TOr T F' := by
  have : F = F' := funext fun a => funext fun b => propext (e a b)
  rw [← this]; exact h
theorem TOr.congrT {T T' F : Nat → Nat → Prop} (h : TOr T F) (e : ∀ a b, T a b ↔ T' a b) : TOr T' F := by
  have : T = T' := funext fun a => funext fun b => propext (e a b)
  rw [← this]; exact h

/-- What is left of t where the arcs of J are taken away. -/
def cutT (t J : Nat → Nat → Bool) (a b : Nat) : Bool := t a b && (!J a b && !J b a)
theorem cutT_iff {t J : Nat → Nat → Bool} {a b : Nat} : cutT t J a b = true ↔ t a b = true ∧ J a b = false ∧ J b a = false := by simp [cutT]
theorem cutT_none (t : Nat → Nat → Bool) : cutT t (fun _ _ => false) = t := by funext a b; simp [cutT]
theorem cutT_add (t J : Nat → Nat → Bool) (i j : Nat) : cutT t (fun a b => J a b || (decide (a = i) && decide (b = j))) = fun a b => if a = j ∧ b = i then false else if a = i ∧ b = j then false else cutT t J a b := by
  funext a b
  unfold cutT
  by_cases h1 : a = i
  · by_cases h2 : b = j
    · simp [h1, h2]
    · by_cases h3 : a = j
      · by_cases h4 : b = i
        · simp [h1, h4, ← h3]
        · simp [h1, h2, h4]
      · have : ¬ i = j := fun e => h3 (h1.trans e)
        simp [h1, h2, this]
  · by_cases h3 : a = j
    · by_cases h4 : b = i
      · simp [h3, h4]
      · have h5 : ¬ j = i := fun e => h1 (h3.trans e)
        simp [h3, h4, h5]
    · simp [h1, h3]

/-- So far: t is left, the arcs of L are laid. -/
structure OInv (N : Nat) (t0 t : Nat → Nat → Bool) (L : List (Nat × Nat)) : Prop where
  sym : ∀ a b, t a b = t b a
  irr : ∀ a, t a a = false
  sub : ∀ a b, t a b = true → t0 a b = true
  mem : ∀ p ∈ L, TN N t0 p.1 p.2 ∧ t p.1 p.2 = false
  nd : L.Nodup
  fwd : ∀ F, TOr (TN N t) F → TOr (TN N t0) (fun a b => F a b ∨ (a, b) ∈ L)
  bwd : (∃ F, TOr (TN N t0) F) → ∃ F, TOr (TN N t) F
theorem OInv.start {N : Nat} {t0 : Nat → Nat → Bool} (hs : ∀ a b, t0 a b = t0 b a) (hi : ∀ a, t0 a a = false) : OInv N t0 t0 [] :=
  ⟨hs, hi, fun _ _ h => h, fun p hp => (by cases hp), List.nodup_nil, fun F h => h.congr fun a b => by simp, fun h => h⟩
/-- One class more. -/
theorem OInv.next {N : Nat} {t0 t : Nat → Nat → Bool} {L K : List (Nat × Nat)} (h : OInv N t0 t L) {x y : Nat} {I : Nat → Nat → Bool} (hc : IsCls (TN N t) x y (fun a b => I a b = true)) (hf : ∀ i j, I i j = true → I j i = false) (hK : K.Nodup) (hm : ∀ a b, (a, b) ∈ K ↔ I a b = true) :
    OInv N t0 (cutT t I) (L ++ K) := by
  have hsT : ∀ a b, TN N t a b → TN N t b a := fun a b k => ⟨k.2.1, k.1, by rw [h.sym]; exact k.2.2⟩
  have hiT : ∀ a, ¬ TN N t a a := fun a k => by have := k.2.2; rw [h.irr] at this; cases this
  have hR : ∀ a b, Rest (TN N t) (fun a b => I a b = true) a b ↔ TN N (cutT t I) a b := fun a b => by
    unfold Rest TN
    rw [cutT_iff]
    simp only [Bool.not_eq_true]
    constructor
    · rintro ⟨⟨h1, h2, h3⟩, h4, h5⟩; exact ⟨h1, h2, h3, h4, h5⟩
    · rintro ⟨h1, h2, h3, h4, h5⟩; exact ⟨⟨h1, h2, h3⟩, h4, h5⟩
  refine ⟨fun a b => ?_, fun a => ?_, fun a b k => h.sub _ _ (cutT_iff.1 k).1, fun p hp => ?_, ?_, fun F hF => ?_, fun hE => ?_⟩
  · unfold cutT; rw [h.sym a b, Bool.and_comm (!I a b)]
  · unfold cutT; rw [h.irr]; rfl
  · rcases List.mem_append.1 hp with hp | hp
    · obtain ⟨h1, h2⟩ := h.mem p hp
      exact ⟨h1, by unfold cutT; rw [h2]; rfl⟩
    · have hI := (hm p.1 p.2).1 hp
      have hT := hc.edge _ _ hI
      exact ⟨⟨hT.1, hT.2.1, h.sub _ _ hT.2.2⟩, by unfold cutT; rw [hI]; simp⟩
  · refine List.nodup_append.2 ⟨h.nd, hK, fun p hp q hq e => ?_⟩
    subst e
    have h2 := (h.mem p hp).2
    have hT := hc.edge _ _ ((hm p.1 p.2).1 hq)
    rw [hT.2.2] at h2
    cases h2
  · have h1 := join_or hsT hiT hc (fun a b k e => by have := hf a b k; rw [this] at e; cases e) (hF.congrT fun a b => (hR a b).symm)
    refine (h.fwd _ h1).congr fun a b => ?_
    rw [List.mem_append, hm]
    constructor
    · rintro ((k | k) | k)
      · exact .inl k
      · exact .inr (.inr k)
      · exact .inr (.inl k)
    · rintro (k | k | k)
      · exact .inl (.inl k)
      · exact .inr k
      · exact .inl (.inr k)
  · obtain ⟨F, hF⟩ := h.bwd hE
    obtain ⟨F', hF'⟩ := rest_or hsT hiT hF hc
    exact ⟨F', hF'.congrT hR⟩
/-- A class with a conflict: there is no transitive orientation. -/
theorem OInv.clash {N : Nat} {t0 t : Nat → Nat → Bool} {L : List (Nat × Nat)} (h : OInv N t0 t L) {x y : Nat} {I : Nat → Nat → Bool} (hc : IsCls (TN N t) x y (fun a b => I a b = true)) {i j : Nat} (h1 : I i j = true) (h2 : I j i = true) : ¬ ∃ F, TOr (TN N t0) F := by
  intro hE
  obtain ⟨F, hF⟩ := h.bwd hE
  exact hF.free (fun a b k => ⟨k.2.1, k.1, by rw [h.sym]; exact k.2.2⟩) hc i j h1 h2
/-- Nothing is left: the arcs laid go on. -/
theorem OInv.done {N : Nat} {t0 t : Nat → Nat → Bool} {L : List (Nat × Nat)} (h : OInv N t0 t L) (h0 : ∀ a b, a < N → b < N → t a b = false) : TOr (TN N t0) (fun a b => (a, b) ∈ L) :=
  (h.fwd _ (TOr.none fun a b k => by have := h0 a b k.1 k.2.1; rw [k.2.2] at this; cases this)).congr fun a b => by simp

theorem nodup_sub_len {α : Type} [DecidableEq α] : ∀ {l m : List α}, l.Nodup → (∀ a ∈ l, a ∈ m) → l.length ≤ m.length
  | [], _, _, _ => Nat.zero_le _
  | a :: l, m, hn, hs => by
    rw [List.nodup_cons] at hn
    have hm := hs a List.mem_cons_self
    have h1 : ∀ b ∈ l, b ∈ m.erase a := fun b hb => (List.mem_erase_of_ne (fun e => hn.1 (by rw [← e]; exact hb))).2 (hs b (List.mem_cons_of_mem _ hb))
    have h2 := nodup_sub_len hn.2 h1
    rw [List.length_erase_of_mem hm] at h2
    have h3 := List.length_pos_of_mem hm
    simp only [List.length_cons]
    omega
theorem pairs_len {N : Nat} {L : List (Nat × Nat)} (hn : L.Nodup) (h : ∀ p ∈ L, p.1 < N ∧ p.2 < N) (hN : N ≤ 100) : L.length ≤ 10000 := by
  have := nodup_sub_len hn (m := allP N) fun p hp => mem_allP.2 (h p hp)
  rw [allP_len] at this
  have : N * N ≤ 100 * 100 := Nat.mul_le_mul hN hN
  omega

end Go.Proofs.Ytnhhohhhpaejmaa
