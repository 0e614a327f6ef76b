/- GOMORY AND HU, by Gusfield's way: a tree of least cuts. The plain law. No program in sight. -/
namespace Go.Proofs.Ytfflnpcbpcldeaa

/-- The least cut between a and b holds m. -/
def LeastC (cap : (Nat → Bool) → Nat) (a b m : Nat) : Prop := (∃ S : Nat → Bool, S a = true ∧ S b = false ∧ cap S = m) ∧ ∀ S : Nat → Bool, S a = true → S b = false → m ≤ cap S

theorem leastC_ex (cap : (Nat → Bool) → Nat) {a b : Nat} (h : a ≠ b) : ∃ m, LeastC cap a b m := by
  have key : ∀ k, ∀ S : Nat → Bool, S a = true → S b = false → cap S ≤ k → ∃ m, LeastC cap a b m := by
    intro k
    induction k with
    | zero => intro S h1 h2 h3; exact ⟨0, ⟨S, h1, h2, by omega⟩, fun _ _ _ => Nat.zero_le _⟩
    | succ k ih =>
      intro S h1 h2 h3
      by_cases e : ∃ T : Nat → Bool, T a = true ∧ T b = false ∧ cap T ≤ k
      · obtain ⟨T, t1, t2, t3⟩ := e
        exact ih T t1 t2 t3
      · exact ⟨cap S, ⟨S, h1, h2, rfl⟩, fun T t1 t2 => by
          rcases Nat.lt_or_ge (cap T) (cap S) with h | h
          · exact absurd ⟨T, t1, t2, by omega⟩ e
          · exact h⟩
  exact key _ (fun v => decide (v = a)) (by simp) (by simp [Ne.symm h]) (Nat.le_refl _)
theorem LeastC.uniq {cap : (Nat → Bool) → Nat} {a b m m' : Nat} (h : LeastC cap a b m) (h' : LeastC cap a b m') : m = m' := by
  obtain ⟨⟨S, s1, s2, s3⟩, h1⟩ := h
  obtain ⟨⟨T, t1, t2, t3⟩, h2⟩ := h'
  have := h1 T t1 t2
  have := h2 S s1 s2
  omega

/-- What cuts hold, and the least of them. -/
structure Cuts (cap : (Nat → Bool) → Nat) (f : Nat → Nat → Nat) : Prop where
  least : ∀ a b, a ≠ b → LeastC cap a b (f a b)
  sub : ∀ S T : Nat → Bool, cap (fun v => S v && T v) + cap (fun v => S v || T v) ≤ cap S + cap T
  pos : ∀ S T : Nat → Bool, cap (fun v => S v && !T v) + cap (fun v => T v && !S v) ≤ cap S + cap T
  sym : ∀ S : Nat → Bool, cap (fun v => !S v) = cap S
theorem cuts_ex {cap : (Nat → Bool) → Nat} (sub : ∀ S T : Nat → Bool, cap (fun v => S v && T v) + cap (fun v => S v || T v) ≤ cap S + cap T) (sym : ∀ S : Nat → Bool, cap (fun v => !S v) = cap S) : ∃ f, Cuts cap f := by
  have h : ∀ p : Nat × Nat, ∃ m, p.1 ≠ p.2 → LeastC cap p.1 p.2 m := fun p => by
    by_cases e : p.1 = p.2
    · exact ⟨0, fun h => absurd e h⟩
    · obtain ⟨m, hm⟩ := leastC_ex cap e
      exact ⟨m, fun _ => hm⟩
  refine ⟨fun a b => (h (a, b)).choose, fun a b hab => (h (a, b)).choose_spec hab, sub, fun S T => ?_, sym⟩
  have h1 := sub S (fun v => !T v)
  have h2 := sym T
  have h3 := sym (fun v => T v && !S v)
  have e : (fun v => S v || !T v) = (fun v => !(T v && !S v)) := by funext v; cases S v <;> cases T v <;> rfl
  simp only [e] at h1
  rw [h2, h3] at h1
  exact h1

section
variable {cap : (Nat → Bool) → Nat} {f : Nat → Nat → Nat}
theorem Cuts.le (h : Cuts cap f) {S : Nat → Bool} {a b : Nat} (ha : S a = true) (hb : S b = false) : f a b ≤ cap S :=
  (h.least a b (fun e => by rw [e, hb] at ha; cases ha)).2 S ha hb
theorem Cuts.symm (h : Cuts cap f) {a b : Nat} (hne : a ≠ b) : f a b = f b a := by
  have key : ∀ {a b : Nat}, a ≠ b → f a b ≤ f b a := fun {a b} hne => by
    obtain ⟨⟨S, s1, s2, s3⟩, -⟩ := h.least b a (Ne.symm hne)
    have := h.le (S := fun v => !S v) (a := a) (b := b) (by simp [s2]) (by simp [s1])
    rw [h.sym] at this
    omega
  have := key hne
  have := key (Ne.symm hne)
  omega
theorem Cuts.tri (h : Cuts cap f) {a b : Nat} (z : Nat) (hab : a ≠ b) : f a z ≤ f a b ∨ f z b ≤ f a b := by
  obtain ⟨⟨S, s1, s2, s3⟩, -⟩ := h.least a b hab
  cases e : S z with
  | false => left; have := h.le s1 e; omega
  | true => right; have := h.le e s2; omega
end

/-- p lies on the way up from a. -/
inductive Anc (up : Nat → Nat) : Nat → Nat → Prop
  | refl (a : Nat) : Anc up a a
  | step {p a : Nat} : 0 < a → Anc up p (up a) → Anc up p a
section
variable {up : Nat → Nat}
theorem Anc.trans {p q a : Nat} (h : Anc up p q) (k : Anc up q a) : Anc up p a := by
  induction k with
  | refl => exact h
  | step h0 _ ih => exact .step h0 ih
theorem Anc.cases' {p a : Nat} (h : Anc up p a) : p = a ∨ (0 < a ∧ Anc up p (up a)) := by
  cases h with
  | refl => exact Or.inl rfl
  | step h0 h => exact Or.inr ⟨h0, h⟩
theorem Anc.le {n p a : Nat} (hup : ∀ v, 0 < v → v < n → up v < v) (h : Anc up p a) (ha : a < n) : p ≤ a := by
  induction h with
  | refl => exact Nat.le_refl _
  | step h0 _ ih => have := hup _ h0 ha; have := ih (by omega); omega
end

/-- Where the ways up from t and from u part: the later branch is c. -/
theorem anc_split {up : Nat → Nat} {n : Nat} (hup : ∀ v, 0 < v → v < n → up v < v) : ∀ k t u, t + u = k → t < n → u < n → t ≠ u →
    ∃ c, 0 < c ∧ c < n ∧ ((Anc up c u ∧ (t = up c ∨ ∃ c', c < c' ∧ c' < n ∧ up c' = up c ∧ Anc up c' t)) ∨ (Anc up c t ∧ (u = up c ∨ ∃ c', c < c' ∧ c' < n ∧ up c' = up c ∧ Anc up c' u))) := by
  intro k
  induction k using Nat.strongRecOn with
  | ind k ih =>
    have one : ∀ t u, t + u = k → t < n → u < n → t < u → ∃ c, 0 < c ∧ c < n ∧ ((Anc up c u ∧ (t = up c ∨ ∃ c', c < c' ∧ c' < n ∧ up c' = up c ∧ Anc up c' t)) ∨ (Anc up c t ∧ (u = up c ∨ ∃ c', c < c' ∧ c' < n ∧ up c' = up c ∧ Anc up c' u))) := by
      intro t u hk ht hu hlt
      have h0 : 0 < u := by omega
      have h1 := hup u h0 hu
      by_cases e : t = up u
      · exact ⟨u, h0, hu, Or.inl ⟨.refl u, Or.inl e⟩⟩
      · obtain ⟨c, c0, cn, h | ⟨h, h2⟩⟩ := ih (t + up u) (by omega) t (up u) rfl ht (by omega) e
        · exact ⟨c, c0, cn, Or.inl ⟨.step h0 h.1, h.2⟩⟩
        · rcases h2 with h2 | ⟨c', h2, h3, h4, h5⟩
          · have := h.le hup ht
            exact ⟨c, c0, cn, Or.inr ⟨h, Or.inr ⟨u, by omega, hu, h2, .refl u⟩⟩⟩
          · exact ⟨c, c0, cn, Or.inr ⟨h, Or.inr ⟨c', h2, h3, h4, .step h0 h5⟩⟩⟩
    intro t u hk ht hu hne
    rcases Nat.lt_or_gt_of_ne hne with h | h
    · exact one t u hk ht hu h
    · obtain ⟨c, c0, cn, h | h⟩ := one u t (by omega) hu ht h
      · exact ⟨c, c0, cn, Or.inr h⟩
      · exact ⟨c, c0, cn, Or.inl h⟩

/-- The node at which a node hangs: itself once it has been looked at. -/
def headG (up : Nat → Nat) (i x : Nat) : Nat := if x < i then x else up x

/-- The tree under way: nodes below i have been looked at. -/
structure Gus (cap : (Nat → Bool) → Nat) (f : Nat → Nat → Nat) (n i : Nat) (up cut : Nat → Nat) (S : Nat → Nat → Bool) : Prop where
  pos : 0 < i
  up_lt : ∀ v, 0 < v → v < n → up v < v
  up_hd : ∀ v, 0 < v → v < n → up v < i
  val : ∀ c, 0 < c → c < i → cut c = f c (up c)
  capS : ∀ c, 0 < c → c < i → cap (S c) = cut c
  outS : ∀ c, 0 < c → c < i → S c (up c) = false
  j1 : ∀ c z, 0 < c → c < i → z < n → Anc up c z → S c z = true
  j2 : ∀ c c' z, 0 < c → c < i → c < c' → c' < n → z < n → up c' = up c → Anc up c' z → S c z = false
  i1 : ∀ p q, q < p → p < i → q ≠ up p → f p q = min (cut p) (f (up p) q)
  i2 : ∀ x y, x < n → y < n → headG up i x ≠ headG up i y → f x y ≤ f (headG up i x) (headG up i y)

section
variable {cap : (Nat → Bool) → Nat} {f : Nat → Nat → Nat} {n i : Nat} {up cut : Nat → Nat} {S : Nat → Nat → Bool}

theorem Gus.start (n : Nat) (cut : Nat → Nat) (S : Nat → Nat → Bool) : Gus cap f n 1 (fun _ => 0) cut S where
  pos := Nat.one_pos
  up_lt v h _ := h
  up_hd _ _ _ := Nat.one_pos
  val c h1 h2 := by omega
  capS c h1 h2 := by omega
  outS c h1 h2 := by omega
  j1 c z h1 h2 := by omega
  j2 c c' z h1 h2 := by omega
  i1 p q h1 h2 := by omega
  i2 x y _ _ h := by
    refine absurd ?_ h
    have e : ∀ z, headG (fun _ => 0) 1 z = 0 := fun z => by
      unfold headG
      by_cases e : z < 1
      · rw [if_pos e]; omega
      · rw [if_neg e]
    rw [e, e]

section
variable (h : Gus cap f n i up cut S)
include h
theorem Gus.hd_anc (x : Nat) : Anc up (headG up i x) x := by
  have := h.pos
  unfold headG
  by_cases e : x < i
  · rw [if_pos e]; exact .refl x
  · rw [if_neg e]; exact .step (by omega) (.refl _)
theorem Gus.hd_lt {x : Nat} (hx : x < n) (hi : i ≤ n) : headG up i x < n ∧ headG up i x < i := by
  have := h.pos
  unfold headG
  by_cases e : x < i
  · rw [if_pos e]; omega
  · rw [if_neg e]
    have := h.up_hd x (by omega) hx
    omega
theorem Gus.far_a (hc : Cuts cap f) : ∀ k t u c, t + u = k → t < i → u < i → i ≤ n → Anc up c u → ¬ Anc up c t → f t u ≤ f t c := by
  intro k
  induction k using Nat.strongRecOn with
  | ind k ih =>
    intro t u c hk ht hu hin hcu hct
    have hne : t ≠ u := fun e => hct (e ▸ hcu)
    have htc : t ≠ c := fun e => hct (by rw [e]; exact .refl c)
    rcases hcu.cases' with rfl | ⟨u0, hcu'⟩
    · exact Nat.le_refl _
    have hcle := hcu'.le h.up_lt (show up u < n by have := h.up_lt u u0 (by omega); omega)
    have hul := h.up_lt u u0 (by omega)
    rcases Nat.lt_or_gt_of_ne hne with hlt | hlt
    · have e : t ≠ up u := fun e => hct (e ▸ hcu')
      have h1 := h.i1 u t hlt hu e
      have h2 := ih (t + up u) (by omega) t (up u) c rfl ht (by omega) hin hcu' hct
      rw [hc.symm hne, h1]
      rw [hc.symm e] at h2
      omega
    · have t0 : 0 < t := by omega
      have htl := h.up_lt t t0 (by omega)
      have hct' : ¬ Anc up c (up t) := fun k => hct (.step t0 k)
      have e : u ≠ up t := fun e => hct' (e ▸ .step u0 hcu')
      have e' : c ≠ up t := fun e => hct' (by rw [← e]; exact .refl c)
      have h1 := h.i1 t u hlt ht e
      have h2 := h.i1 t c (by omega) ht e'
      have h3 := ih (up t + u) (by omega) (up t) u c rfl (by omega) hu hin (.step u0 hcu') hct'
      omega
theorem Gus.far_b (hc : Cuts cap f) : ∀ k t u c, t + u = k → t < i → u < i → i ≤ n → 0 < c → Anc up c t → ¬ Anc up c u → u ≠ up c → f t u ≤ f t (up c) := by
  intro k
  induction k using Nat.strongRecOn with
  | ind k ih =>
    intro t u c hk ht hu hin c0 hct hcu huc
    have hne : t ≠ u := fun e => hcu (e ▸ hct)
    have hle := hct.le h.up_lt (show t < n by omega)
    have hcl := h.up_lt c c0 (by omega)
    have t0 : 0 < t := by omega
    rcases Nat.lt_or_gt_of_ne hne with hlt | hlt
    · have u0 : 0 < u := by omega
      have hul := h.up_lt u u0 (by omega)
      have hcu' : ¬ Anc up c (up u) := fun k => hcu (.step u0 k)
      have e : t ≠ up u := fun e => hcu' (e ▸ hct)
      have h1 := h.i1 u t hlt hu e
      rw [hc.symm hne, h1]
      by_cases e2 : up u = up c
      · rw [e2, hc.symm (show t ≠ up c by omega)]; omega
      · have h2 := ih (t + up u) (by omega) t (up u) c rfl ht (by omega) hin c0 hct hcu' e2
        rw [hc.symm e] at h2
        omega
    · rcases hct.cases' with rfl | ⟨-, hct'⟩
      · have h1 := h.i1 c u hlt ht huc
        have h2 := h.val c c0 ht
        omega
      · have htl := h.up_lt t t0 (by omega)
        have hle' := hct'.le h.up_lt (show up t < n by omega)
        have e : u ≠ up t := fun e => hcu (e ▸ hct')
        have h1 := h.i1 t u hlt ht e
        have h2 := h.i1 t (up c) (by omega) ht (by omega)
        have h3 := ih (up t + u) (by omega) (up t) u c rfl (by omega) hu hin c0 hct' hcu huc
        omega
end

/-- The least cut that parts v from where it hangs holds what goes between any two that it parts so. -/
theorem Gus.main (h : Gus cap f n i up cut S) (hc : Cuts cap f) (hin : i < n) {T : Nat → Bool} (hT : T i = true) (hTt : T (up i) = false) (hcap : cap T = f i (up i)) {x y : Nat} (hx : x < n) (hy : y < n) (hrx : headG up i x = up i) (hTx : T x = true) (hry : headG up i y ≠ up i) : f x y ≤ f i (up i) := by
  rw [← hcap]
  cases hTy : T y with
  | false => exact hc.le hTx hTy
  | true =>
    have hxy : x ≠ y := fun e => hry (e ▸ hrx)
    have h2 := h.i2 x y hx hy (by rw [hrx]; exact Ne.symm hry)
    rw [hrx] at h2
    obtain ⟨hu1, hu2⟩ := h.hd_lt hy (Nat.le_of_lt hin)
    obtain ⟨ht1, ht2⟩ := h.hd_lt hx (Nat.le_of_lt hin)
    have ax := h.hd_anc x
    have ay := h.hd_anc y
    rw [hrx] at ht1 ht2 ax
    have hyu : y ≠ headG up i y → ¬ y < i ∧ headG up i y = up y := fun e => by
      unfold headG at e ⊢
      by_cases k : y < i
      · rw [if_pos k] at e; exact absurd rfl e
      · rw [if_neg k]; exact ⟨k, rfl⟩
    have hxt : ¬ x < i ∧ up x = up i := by
      unfold headG at hrx
      by_cases k : x < i
      · rw [if_pos k] at hrx; rw [hrx, hTt] at hTx; cases hTx
      · rw [if_neg k] at hrx; exact ⟨k, hrx⟩
    generalize headG up i y = u at *
    generalize ht : up i = t at *
    cases hTu : T u with
    | true =>
      have := hc.le hTu hTt
      rw [hc.symm hry] at this
      omega
    | false =>
      have hyu' := hyu (fun e => by rw [e, hTu] at hTy; cases hTy)
      obtain ⟨c, c0, cn, hs⟩ := anc_split (n := i) (fun v h0 hv => h.up_lt v h0 (by omega)) _ t u rfl ht2 hu2 (Ne.symm hry)
      rcases hs with ⟨hcu, htc⟩ | ⟨hct, huc⟩
      · have sy := h.j1 c y c0 cn hy (hcu.trans ay)
        have sx : S c x = false := by
          rcases htc with e | ⟨c', h1, h3, h4, h5⟩
          · exact h.j2 c x x c0 cn (by omega) hx hx (by rw [hxt.2, e]) (.refl x)
          · exact h.j2 c c' x c0 cn h1 (by omega) hx h4 (h5.trans ax)
        have nct : ¬ Anc up c t := fun k => by
          have := h.j1 c x c0 cn hx (k.trans ax)
          rw [sx] at this; cases this
        cases hTc : T c with
        | true =>
          have h3 := h.far_a hc _ t u c rfl ht2 hu2 (Nat.le_of_lt hin) hcu nct
          have h4 := hc.le hTc hTt
          rw [hc.symm (show c ≠ t from fun e => by rw [e, hTt] at hTc; cases hTc)] at h4
          omega
        | false =>
          have h3 := hc.pos (S c) T
          have h4 := hc.le (S := fun v => S c v && !T v) (a := c) (b := up c) (by simp [hTc, h.j1 c c c0 cn (by omega) (.refl c)]) (by simp [h.outS c c0 cn])
          have h5 := h.capS c c0 cn
          have h6 := h.val c c0 cn
          have h7 := hc.le (S := fun v => T v && !S c v) (a := x) (b := y) (by simp [hTx, sx]) (by simp [sy])
          omega
      · have sx := h.j1 c x c0 cn hx (hct.trans ax)
        have sy : S c y = false := by
          rcases huc with e | ⟨c', h1, h3, h4, h5⟩
          · exact h.j2 c y y c0 cn (by omega) hy hy (by rw [← hyu'.2, e]) (.refl y)
          · exact h.j2 c c' y c0 cn h1 (by omega) hy h4 (h5.trans ay)
        have ncu : ¬ Anc up c u := fun k => by
          have := h.j1 c y c0 cn hy (k.trans ay)
          rw [sy] at this; cases this
        cases hTc : T (up c) with
        | true =>
          have h3 := h.far_b hc _ t u c rfl ht2 hu2 (Nat.le_of_lt hin) c0 hct ncu (fun e => by rw [← e, hTu] at hTc; cases hTc)
          have h4 := hc.le hTc hTt
          rw [hc.symm (show up c ≠ t from fun e => by rw [e, hTt] at hTc; cases hTc)] at h4
          omega
        | false =>
          have h3 := hc.sub (S c) T
          have h4 := hc.le (S := fun v => S c v || T v) (a := c) (b := up c) (by simp [h.j1 c c c0 cn (by omega) (.refl c)]) (by simp [h.outS c c0 cn, hTc])
          have h5 := h.capS c c0 cn
          have h6 := h.val c c0 cn
          have h7 := hc.le (S := fun v => S c v && T v) (a := x) (b := y) (by simp [hTx, sx]) (by simp [sy])
          omega

/-- Those that hang where i hangs and lie on its side hang at i now. -/
def upG (up : Nat → Nat) (n i : Nat) (T : Nat → Bool) (w : Nat) : Nat := if i < w ∧ w < n ∧ T w = true ∧ up w = up i then i else up w

theorem Gus.next (h : Gus cap f n i up cut S) (hc : Cuts cap f) (hin : i < n) {T : Nat → Bool} (hT : T i = true) (hTt : T (up i) = false) (hcap : cap T = f i (up i)) :
    Gus cap f n (i + 1) (upG up n i T) (fun c => if c = i then f i (up i) else cut c) (fun c => if c = i then T else S c) := by
  have hlow : ∀ p, p ≤ i → upG up n i T p = up p := fun p hp => by
    unfold upG
    rw [if_neg (by omega)]
  have hi0 := h.pos
  have hti := h.up_lt i hi0 hin
  have hmv : ∀ w, (i < w ∧ w < n ∧ T w = true ∧ up w = up i) → upG up n i T w = i := fun w hw => if_pos hw
  have hnm : ∀ w, ¬ (i < w ∧ w < n ∧ T w = true ∧ up w = up i) → upG up n i T w = up w := fun w hw => if_neg hw
  have a1 : ∀ c p, Anc (upG up n i T) c p → p ≤ i → Anc up c p := by
    intro c p hA
    induction hA with
    | refl => intro _; exact .refl _
    | step h0 _ ih =>
      intro hp
      rw [hlow _ hp] at ih
      have := h.up_lt _ h0 (by omega)
      exact .step h0 (ih (by omega))
  have a2 : ∀ c z, z < n → Anc (upG up n i T) c z → (c = i ∧ i < z ∧ T z = true ∧ up z = up i) ∨ Anc up c z := by
    intro c z hz hA
    rcases hA.cases' with rfl | ⟨z0, hA⟩
    · exact Or.inr (.refl _)
    · by_cases m : i < z ∧ z < n ∧ T z = true ∧ up z = up i
      · rw [hmv z m] at hA
        rcases (a1 c i hA (Nat.le_refl _)).cases' with e | ⟨-, hA'⟩
        · exact Or.inl ⟨e, m.1, m.2.2⟩
        · exact Or.inr (.step z0 (by rw [m.2.2.2]; exact hA'))
      · rw [hnm z m] at hA
        have := h.up_hd z z0 hz
        exact Or.inr (.step z0 (a1 c _ hA (by omega)))
  have hno : ∀ z, z < n → Anc up i z → z = i := fun z hz hA => by
    rcases hA.cases' with e | ⟨z0, hA⟩
    · exact e.symm
    · have h1 := h.up_hd z z0 hz
      have := hA.le h.up_lt (by omega)
      omega
  have hmain : ∀ x y, x < n → y < n → headG up i x = up i → T x = true → headG up i y ≠ up i → f x y ≤ f i (up i) := fun x y hx hy h1 h2 h3 => h.main hc hin hT hTt hcap hx hy h1 h2 h3
  have hdi : headG up i i = up i := if_neg (by omega)
  have hdl : ∀ q, q < i → headG up i q = q := fun q hq => if_pos hq
  refine ⟨by omega, fun v h0 hv => ?_, fun v h0 hv => ?_, fun c c0 hci => ?_, fun c c0 hci => ?_, fun c c0 hci => ?_, fun c z c0 hci hz hA => ?_, fun c c' z c0 hci hcc hc' hz he hA => ?_, fun p q hq hp hne => ?_, fun x y hx hy hne => ?_⟩
  · by_cases m : i < v ∧ v < n ∧ T v = true ∧ up v = up i
    · rw [hmv v m]; omega
    · rw [hnm v m]; exact h.up_lt v h0 hv
  · by_cases m : i < v ∧ v < n ∧ T v = true ∧ up v = up i
    · rw [hmv v m]; omega
    · rw [hnm v m]; have := h.up_hd v h0 hv; omega
  · rw [hlow c (by omega)]
    by_cases e : c = i
    · rw [if_pos e, e]
    · rw [if_neg e]; exact h.val c c0 (by omega)
  · by_cases e : c = i
    · simp only [if_pos e]; exact hcap
    · simp only [if_neg e]; exact h.capS c c0 (by omega)
  · rw [hlow c (by omega)]
    by_cases e : c = i
    · simp only [if_pos e]; rw [e]; exact hTt
    · simp only [if_neg e]; exact h.outS c c0 (by omega)
  · by_cases e : c = i
    · simp only [if_pos e]
      rcases a2 c z hz hA with ⟨-, -, hTz, -⟩ | hA
      · exact hTz
      · rw [e] at hA
        rw [hno z hz hA]; exact hT
    · simp only [if_neg e]
      rcases a2 c z hz hA with ⟨h1, -⟩ | hA
      · exact absurd h1 e
      · exact h.j1 c z c0 (by omega) hz hA
  · by_cases m : i < c' ∧ c' < n ∧ T c' = true ∧ up c' = up i
    · exfalso
      rw [hmv c' m, hlow c (by omega)] at he
      have := h.up_lt c c0 (by omega)
      omega
    · rw [hnm c' m, hlow c (by omega)] at he
      by_cases e : c = i
      · simp only [if_pos e]
        subst e
        have hTc : T c' = false := by
          cases k : T c' with
          | false => rfl
          | true => exact absurd ⟨hcc, hc', k, he⟩ m
        rcases a2 c' z hz hA with ⟨h1, -⟩ | hA
        · omega
        · rcases hA.cases' with e | ⟨z0, hA⟩
          · rw [← e]; exact hTc
          · have h1 := h.up_hd z z0 hz
            have := hA.le h.up_lt (by omega)
            omega
      · simp only [if_neg e]
        rcases a2 c' z hz hA with ⟨h1, h2, -, h3⟩ | hA
        · subst h1
          exact h.j2 c z z c0 (by omega) (by omega) hz hz (by rw [h3, he]) (.refl z)
        · exact h.j2 c c' z c0 (by omega) hcc hc' hz he hA
  · rw [hlow p (by omega)] at hne ⊢
    by_cases e : p = i
    · rw [if_pos e]
      subst e
      have h1 := hmain p q hin (by omega) hdi hT (by rw [hdl q hq]; exact hne)
      have h2 := h.i2 p q hin (by omega) (by rw [hdi, hdl q hq]; exact Ne.symm hne)
      rw [hdi, hdl q hq] at h2
      have h3 := hc.tri (a := p) (b := q) (up p) (by omega)
      omega
    · rw [if_neg e]; exact h.i1 p q hq (by omega) hne
  · have hh : ∀ z, z < n → (headG (upG up n i T) (i + 1) z = i ∧ headG up i z = up i ∧ T z = true) ∨ (headG (upG up n i T) (i + 1) z = headG up i z ∧ (headG up i z = up i → T z = false)) := fun z hz => by
      by_cases e1 : z < i
      · right
        unfold headG
        rw [if_pos e1, if_pos (by omega)]
        exact ⟨rfl, fun e => by rw [e]; exact hTt⟩
      · by_cases e2 : z = i
        · left
          subst e2
          exact ⟨if_pos (by omega), hdi, hT⟩
        · by_cases m : i < z ∧ z < n ∧ T z = true ∧ up z = up i
          · left
            unfold headG
            rw [if_neg e1, if_neg (by omega)]
            exact ⟨hmv z m, m.2.2.2, m.2.2.1⟩
          · right
            unfold headG
            rw [if_neg e1, if_neg (by omega)]
            refine ⟨hnm z m, fun e => ?_⟩
            cases k : T z with
            | false => rfl
            | true => exact absurd ⟨by omega, hz, k, e⟩ m
    have one : ∀ x y, x < n → y < n → headG (upG up n i T) (i + 1) x = i → headG up i x = up i → T x = true → headG (upG up n i T) (i + 1) y = headG up i y → (headG up i y = up i → T y = false) → f x y ≤ f i (headG up i y) := fun x y hx hy _ h2 h3 _ h5 => by
      by_cases e : headG up i y = up i
      · rw [e, ← hcap]; exact hc.le h3 (h5 e)
      · have g1 := hmain x y hx hy h2 h3 e
        have g2 := h.i2 x y hx hy (by rw [h2]; exact Ne.symm e)
        rw [h2] at g2
        have g3 := (h.hd_lt hy (Nat.le_of_lt hin)).2
        have g4 := hc.tri (a := i) (b := headG up i y) (up i) (by omega)
        omega
    rcases hh x hx with ⟨x1, x2, x3⟩ | ⟨x1, x2⟩ <;> rcases hh y hy with ⟨y1, y2, y3⟩ | ⟨y1, y2⟩
    · exact absurd (x1.trans y1.symm) hne
    · rw [x1, y1]; exact one x y hx hy x1 x2 x3 y1 y2
    · have g := one y x hy hx y1 y2 y3 x1 x2
      have hxy : x ≠ y := fun e => hne (by rw [e])
      rw [x1, y1] at hne
      rw [x1, y1, hc.symm hxy, hc.symm hne]
      exact g
    · rw [x1, y1] at hne ⊢
      exact h.i2 x y hx hy hne

/-- In the end: what goes between two nodes is the least along the way between them. -/
theorem Gus.way (h : Gus cap f n n up cut S) (hc : Cuts cap f) (m : Nat) : ∀ k a b, a + b = k → a < n → b < n → a ≠ b → (m ≤ f a b ↔ ∀ p, 0 < p → ((Anc up p a ∧ ¬ Anc up p b) ∨ (Anc up p b ∧ ¬ Anc up p a)) → m ≤ cut p) := by
  intro k
  induction k using Nat.strongRecOn with
  | ind k ih =>
    have one : ∀ a b, a + b = k → a < n → b < n → b < a → (m ≤ f a b ↔ ∀ p, 0 < p → ((Anc up p a ∧ ¬ Anc up p b) ∨ (Anc up p b ∧ ¬ Anc up p a)) → m ≤ cut p) := by
      intro a b hk ha hb hlt
      have a0 : 0 < a := by omega
      have hua := h.up_lt a a0 ha
      have hab : ¬ Anc up a b := fun k => by have := k.le h.up_lt hb; omega
      have hself : ∀ p, Anc up p a ↔ p = a ∨ Anc up p (up a) := fun p => ⟨fun k => by
        rcases k.cases' with e | ⟨-, k⟩
        · exact Or.inl e
        · exact Or.inr k, fun k => by
        rcases k with rfl | k
        · exact .refl _
        · exact .step a0 k⟩
      by_cases e : b = up a
      · rw [e, ← h.val a a0 ha]
        constructor
        · intro hm p p0 hp
          rcases hp with ⟨h1, h2⟩ | ⟨h1, h2⟩
          · rcases (hself p).1 h1 with rfl | h1
            · exact hm
            · exact absurd h1 h2
          · exact absurd ((hself p).2 (Or.inr h1)) h2
        · intro hall
          exact hall a a0 (Or.inl ⟨.refl a, fun k => by have := k.le h.up_lt (show up a < n by omega); omega⟩)
      · rw [h.i1 a b hlt ha e]
        have hi := ih (up a + b) (by omega) (up a) b rfl (by omega) hb (Ne.symm e)
        constructor
        · intro hm p p0 hp
          have hm1 : m ≤ f (up a) b := by omega
          rcases hp with ⟨h1, h2⟩ | ⟨h1, h2⟩
          · rcases (hself p).1 h1 with rfl | h1
            · omega
            · exact hi.1 hm1 p p0 (Or.inl ⟨h1, h2⟩)
          · exact hi.1 hm1 p p0 (Or.inr ⟨h1, fun k => h2 ((hself p).2 (Or.inr k))⟩)
        · intro hall
          have h1 := hall a a0 (Or.inl ⟨.refl a, hab⟩)
          have h2 := hi.2 fun p p0 hp => by
            rcases hp with ⟨g1, g2⟩ | ⟨g1, g2⟩
            · exact hall p p0 (Or.inl ⟨(hself p).2 (Or.inr g1), g2⟩)
            · refine hall p p0 (Or.inr ⟨g1, fun k => ?_⟩)
              rcases (hself p).1 k with rfl | k
              · exact hab g1
              · exact g2 k
          omega
    intro a b hk ha hb hne
    rcases Nat.lt_or_gt_of_ne hne with hlt | hlt
    · rw [hc.symm hne]
      rw [one b a (by omega) hb ha hlt]
      constructor
      · intro hall p p0 hp; exact hall p p0 hp.symm
      · intro hall p p0 hp; exact hall p p0 hp.symm
    · exact one a b hk ha hb hlt

end

end Go.Proofs.Ytfflnpcbpcldeaa
