/- Kuhn's method, plain: what holds of rows' and columns' numbers before a row is added (Pre), while a way is looked for (Mid), while it is turned (Hole). No program in sight. -/
namespace Go.Proofs.Ytfccfmjamdpeaaa

theorem pigeon : ∀ (n m : Nat) (f : Nat → Nat), (∀ k, 1 ≤ k → k ≤ n → 1 ≤ f k ∧ f k ≤ m) → (∀ k k', 1 ≤ k → k ≤ n → 1 ≤ k' → k' ≤ n → f k = f k' → k = k') → n ≤ m
  | 0, m, _, _, _ => Nat.zero_le m
  | n + 1, m, f, hr, hi => by
    have h1 := hr (n + 1) (by omega) (Nat.le_refl _)
    have := pigeon n (m - 1) (fun k => if f k < f (n + 1) then f k else f k - 1) (fun k a b => by
      have := hr k a (by omega)
      have hne : f k ≠ f (n + 1) := fun e => by have := hi k (n + 1) a (by omega) (by omega) (Nat.le_refl _) e; omega
      split <;> omega) (fun k k' a b a' b' e => by
      have hne : f k ≠ f (n + 1) := fun e => by have := hi k (n + 1) a (by omega) (by omega) (Nat.le_refl _) e; omega
      have hne' : f k' ≠ f (n + 1) := fun e => by have := hi k' (n + 1) a' (by omega) (by omega) (Nat.le_refl _) e; omega
      refine hi k k' a (by omega) a' (by omega) ?_
      split at e <;> split at e <;> omega)
    omega

theorem inj_surj (n : Nat) (f : Nat → Nat) (hr : ∀ k, 1 ≤ k → k ≤ n → 1 ≤ f k ∧ f k ≤ n) (hi : ∀ k k', 1 ≤ k → k ≤ n → 1 ≤ k' → k' ≤ n → f k = f k' → k = k') (y : Nat) (h1 : 1 ≤ y) (hn : y ≤ n) : ∃ x, 1 ≤ x ∧ x ≤ n ∧ f x = y := by
  refine Classical.byContradiction fun hno => ?_
  have hy : ∀ k, 1 ≤ k → k ≤ n → f k ≠ y := fun k a b e => hno ⟨k, a, b, e⟩
  have := pigeon n (n - 1) (fun k => if f k = n then y else f k) (fun k a b => by
    have := hr k a b
    have := hy k a b
    split <;> omega) (fun k k' a b a' b' e => by
    have := hy k a b
    have := hy k' a' b'
    refine hi k k' a b a' b' ?_
    split at e <;> split at e <;> omega)
  omega

/-- Before row i is added: the rows below i have columns of their own. -/
structure Pre (n i : Nat) (c : Nat → Nat → Int) (U V : Nat → Int) (R : Nat → Nat) : Prop where
  hi : 1 ≤ i
  Rle : ∀ k, 1 ≤ k → k ≤ n → R k < i
  inj : ∀ k k', 1 ≤ k → k ≤ n → 1 ≤ k' → k' ≤ n → R k = R k' → R k ≠ 0 → k = k'
  sur : ∀ r, 1 ≤ r → r < i → ∃ k, 1 ≤ k ∧ k ≤ n ∧ R k = r
  fea : ∀ r k, 1 ≤ r → r < i → 1 ≤ k → k ≤ n → U r + V k ≤ c r k
  tig : ∀ k, 1 ≤ k → k ≤ n → R k ≠ 0 → U (R k) + V k = c (R k) k
  Vle : ∀ k, 1 ≤ k → k ≤ n → V k ≤ 0
  Vfr : ∀ k, 1 ≤ k → k ≤ n → R k = 0 → V k = 0
  Unew : ∀ r, i ≤ r → r ≤ n → U r = 0
  Ulo : ∀ r, 1 ≤ r → r < i → -1000000 ≤ U r
  Uhi : ∀ r, 1 ≤ r → r < i → U r ≤ 2000000 * i
  Vlo : ∀ k, 1 ≤ k → k ≤ n → -2000000 * i ≤ V k
  V0 : -1000000 * i ≤ V 0 ∧ V 0 ≤ 1000000 * i

theorem Pre.congr {n i : Nat} {c : Nat → Nat → Int} {U V : Nat → Int} {R R' : Nat → Nat} (h : Pre n i c U V R) (e : ∀ k, 1 ≤ k → k ≤ n → R' k = R k) : Pre n i c U V R' where
  hi := h.hi
  Rle := fun k a b => by rw [e k a b]; exact h.Rle k a b
  inj := fun k k' a b a' b' f g => h.inj k k' a b a' b' (by rw [← e k a b, ← e k' a' b']; exact f) (by rw [← e k a b]; exact g)
  sur := fun r a b => by obtain ⟨k, k1, k2, k3⟩ := h.sur r a b; exact ⟨k, k1, k2, by rw [e k k1 k2]; exact k3⟩
  fea := h.fea
  tig := fun k a b f => by rw [e k a b] at f ⊢; exact h.tig k a b f
  Vle := h.Vle
  Vfr := fun k a b f => h.Vfr k a b (by rw [← e k a b]; exact f)
  Unew := h.Unew
  Ulo := h.Ulo
  Uhi := h.Uhi
  Vlo := h.Vlo
  V0 := h.V0

/-- A cost is within its bounds. -/
def Bnd (n : Nat) (c : Nat → Nat → Int) : Prop := ∀ r k, 1 ≤ r → r ≤ n → 1 ≤ k → k ≤ n → -1000000 ≤ c r k ∧ c r k ≤ 1000000

def far : Int := 4611686018427387904

/-- While a way is looked for: R with R 0 = i; the numbers at the beginning: U0, V0. -/
structure Mid (n i : Nat) (c : Nat → Nat → Int) (U0 V0 : Nat → Int) (R : Nat → Nat) (U V B : Nat → Int) (F t : Nat → Nat) (s : Nat) (us : Nat → Bool) (j : Nat) : Prop where
  jn : j ≤ n
  uj : us j = false
  j0 : j = 0 → ∀ k, k ≤ n → us k = false
  jp : j ≠ 0 → us 0 = true
  uR : ∀ k, k ≤ n → us k = true → R k ≠ 0
  Fn : ∀ k, k ≤ n → F k ≤ n
  Fu : ∀ k, 1 ≤ k → k ≤ n → us 0 = true → us (F k) = true
  tF : ∀ k, 1 ≤ k → k ≤ n → us k = true → t (F k) < t k
  ts : ∀ k, k ≤ n → us k = true → t k < s
  eq : ∀ k, 1 ≤ k → k ≤ n → us 0 = true → U (R (F k)) + V k + (if us k then 0 else B k) = c (R (F k)) k
  le : ∀ k q, 1 ≤ k → k ≤ n → q ≤ n → us q = true → U (R q) + V k + (if us k then 0 else B k) ≤ c (R q) k
  Bnn : ∀ k, 1 ≤ k → k ≤ n → us 0 = true → us k = false → 0 ≤ B k
  Bj : j ≠ 0 → B j = 0
  Bfar : us 0 = false → ∀ k, k ≤ n → B k = far
  fea : ∀ r k, 1 ≤ r → r < i → 1 ≤ k → k ≤ n → U r + V k ≤ c r k
  tig : ∀ k, 1 ≤ k → k ≤ n → R k ≠ 0 → U (R k) + V k = c (R k) k
  Veq : ∀ k, 1 ≤ k → k ≤ n → us k = false → V k = V0 k
  Vle : ∀ k, 1 ≤ k → k ≤ n → V k ≤ V0 k
  U00 : us 0 = false → U i = 0 ∧ ∀ r, 1 ≤ r → r < i → U r = U0 r
  Ui : -1000000 ≤ U i
  Ub : ∀ r, 1 ≤ r → r < i → U0 r ≤ U r ∧ U r ≤ U0 r + (U i + 1000000)
  Vb : ∀ k, 1 ≤ k → k ≤ n → V0 k - (U i + 1000000) ≤ V k
  V00 : V 0 = V0 0 - U i
  Un : ∀ r, i < r → r ≤ n → U r = 0

section
variable {n i : Nat} {c : Nat → Nat → Int} {U0 V0 : Nat → Int} {R : Nat → Nat} {U V B : Nat → Int} {F t : Nat → Nat} {s : Nat} {us : Nat → Bool} {j : Nat}

/-- Some column is free, as long as a row is to be added. -/
theorem Pre.free (h : Pre n i c U0 V0 R) (hn : i ≤ n) : ∃ k, 1 ≤ k ∧ k ≤ n ∧ R k = 0 := by
  refine Classical.byContradiction fun hno => ?_
  have hR : ∀ k, 1 ≤ k → k ≤ n → R k ≠ 0 := fun k a b e => hno ⟨k, a, b, e⟩
  have := pigeon n (i - 1) R (fun k a b => by have := hR k a b; have := h.Rle k a b; omega) (fun k k' a b a' b' e => h.inj k k' a b a' b' e (hR k a b))
  have := h.hi
  omega

/-- The new row's number is bounded. -/
theorem Mid.Uhi (h : Pre n i c U0 V0 R) (hn : i ≤ n) (hb : Bnd n c) (h0 : R 0 = i) (m : Mid n i c U0 V0 R U V B F t s us j) : U i ≤ 1000000 := by
  cases hs : us 0 with
  | false => have := (m.U00 hs).1; omega
  | true =>
    obtain ⟨k, a, b, e⟩ := h.free hn
    have hu : us k = false := by
      cases hk : us k with
      | false => rfl
      | true => exact absurd e (m.uR k b hk)
    have h1 := m.le k 0 a b (by omega) hs
    have h2 := m.Bnn k a b hs hu
    have h3 := m.Veq k a b hu
    have h4 := h.Vfr k a b e
    have h5 := (hb i k h.hi hn a b).2
    rw [h0, hu] at h1
    simp only [Bool.false_eq_true, if_false] at h1
    omega

theorem Mid.start (h : Pre n i c U0 V0 R) (hn : i ≤ n) (hF : ∀ k, k ≤ n → F k ≤ n) : Mid n i c U0 V0 R U0 V0 (fun _ => far) F t 0 (fun _ => false) 0 where
  jn := Nat.zero_le _
  uj := rfl
  j0 := fun _ _ _ => rfl
  jp := fun h => absurd rfl h
  uR := fun _ _ h => by cases h
  Fn := hF
  Fu := fun _ _ _ h => by cases h
  tF := fun _ _ _ h => by cases h
  ts := fun _ _ h => by cases h
  eq := fun _ _ _ h => by cases h
  le := fun _ _ _ _ _ h => by cases h
  Bnn := fun _ _ _ h => by cases h
  Bj := fun h => absurd rfl h
  Bfar := fun _ _ _ => rfl
  fea := h.fea
  tig := h.tig
  Veq := fun _ _ _ _ => rfl
  Vle := fun _ _ _ => Int.le_refl _
  U00 := fun _ => ⟨h.Unew i (Nat.le_refl _) hn, fun _ _ _ => rfl⟩
  Ui := by have := h.Unew i (Nat.le_refl _) hn; omega
  Ub := fun r a b => by have := h.Unew i (Nat.le_refl _) hn; omega
  Vb := fun k a b => by have := h.Unew i (Nat.le_refl _) hn; omega
  V00 := by have := h.Unew i (Nat.le_refl _) hn; omega
  Un := fun r a b => h.Unew r (by omega) b


/-- Bounds by which nothing wraps. -/
theorem Mid.bounds (h : Pre n i c U0 V0 R) (hn : i ≤ n) (hn1 : n ≤ 100) (hb : Bnd n c) (h0 : R 0 = i) (m : Mid n i c U0 V0 R U V B F t s us j) :
    (∀ r, 1 ≤ r → r ≤ i → -1000000 ≤ U r ∧ U r ≤ 300000000) ∧ (∀ k, 1 ≤ k → k ≤ n → -300000000 ≤ V k ∧ V k ≤ 0) ∧ (-300000000 ≤ V 0 ∧ V 0 ≤ 300000000) := by
  have hU := m.Uhi h hn hb h0
  have hL := m.Ui
  refine ⟨fun r a b => ?_, fun k a b => ?_, ?_⟩
  · by_cases e : r = i
    · subst e; omega
    · have := m.Ub r a (by omega)
      have := h.Ulo r a (by omega)
      have := h.Uhi r a (by omega)
      omega
  · have := m.Vb k a b
    have := h.Vlo k a b
    have := m.Vle k a b
    have := h.Vle k a b
    omega
  · have := m.V00
    have := h.V0
    omega

/-- A row of the tree is a row. -/
theorem Mid.row (h : Pre n i c U0 V0 R) (_hn : i ≤ n) (h0 : R 0 = i) (k : Nat) (hk : k ≤ n) (hR : R k ≠ 0) : 1 ≤ R k ∧ R k ≤ i := by
  by_cases e : k = 0
  · subst e; have := h.hi; omega
  · have := h.Rle k (by omega) hk; omega

/-- Two columns that hold one row are one. -/
theorem Pre.inj0 (h : Pre n i c U0 V0 R) (h0 : R 0 = i) {k q : Nat} (hk : k ≤ n) (hq : q ≤ n) (e : R k = R q) (hR : R k ≠ 0) : k = q := by
  by_cases ek : k = 0
  · by_cases eq : q = 0
    · omega
    · subst ek; have := h.Rle q (by omega) hq; omega
  · by_cases eq : q = 0
    · subst eq; have := h.Rle k (by omega) hk; omega
    · exact h.inj k q (by omega) hk (by omega) hq e hR

/-- One column more is used. -/
def use (us : Nat → Bool) (j : Nat) : Nat → Bool := fun k => if k = j then true else us k
/-- What column j's row offers to column k. -/
def cur (c : Nat → Nat → Int) (R : Nat → Nat) (U V : Nat → Int) (j k : Nat) : Int := c (R j) k - U (R j) - V k
def best1 (c : Nat → Nat → Int) (R : Nat → Nat) (U V B : Nat → Int) (us : Nat → Bool) (j k : Nat) : Int := if use us j k then B k else if cur c R U V j k < B k then cur c R U V j k else B k
def from1 (c : Nat → Nat → Int) (R : Nat → Nat) (U V B : Nat → Int) (F : Nat → Nat) (us : Nat → Bool) (j k : Nat) : Nat := if use us j k then F k else if cur c R U V j k < B k then j else F k

/-- The least of what is offered to columns below k. -/
def Least (c : Nat → Nat → Int) (R : Nat → Nat) (U V B : Nat → Int) (us : Nat → Bool) (j k : Nat) (d : Int) (nx : Nat) : Prop :=
  (d = far ∧ nx = 0 ∧ ∀ q, 1 ≤ q → q < k → use us j q = true) ∨
  (1 ≤ nx ∧ nx < k ∧ use us j nx = false ∧ best1 c R U V B us j nx = d ∧ ∀ q, 1 ≤ q → q < k → use us j q = false → d ≤ best1 c R U V B us j q)

theorem Mid.cur_bd (h : Pre n i c U0 V0 R) (hn : i ≤ n) (hn1 : n ≤ 100) (hb : Bnd n c) (h0 : R 0 = i) (m : Mid n i c U0 V0 R U V B F t s us j) (hj : R j ≠ 0) {k : Nat} (h1 : 1 ≤ k) (h2 : k ≤ n) :
    -1000000000 ≤ cur c R U V j k ∧ cur c R U V j k ≤ 1000000000 := by
  obtain ⟨b1, b2, _⟩ := m.bounds h hn hn1 hb h0
  obtain ⟨r1, r2⟩ := Mid.row h hn h0 j m.jn hj
  have := b1 _ r1 r2
  have := b2 k h1 h2
  have := hb (R j) k r1 (by omega) h1 h2
  unfold cur
  omega

theorem Mid.best_bd (h : Pre n i c U0 V0 R) (hn : i ≤ n) (hn1 : n ≤ 100) (hb : Bnd n c) (h0 : R 0 = i) (m : Mid n i c U0 V0 R U V B F t s us j) (hj : R j ≠ 0) {k : Nat} (h1 : 1 ≤ k) (h2 : k ≤ n) (hu : use us j k = false) :
    -1000000000 ≤ best1 c R U V B us j k ∧ best1 c R U V B us j k ≤ 1000000000 := by
  have hc := m.cur_bd h hn hn1 hb h0 hj h1 h2
  have huk : us k = false := by unfold use at hu; split at hu <;> simp_all
  unfold best1
  rw [hu]
  simp only [Bool.false_eq_true, if_false]
  split
  · exact hc
  · rename_i hlt
    cases hs : us 0 with
    | false => have := m.Bfar hs k h2; unfold far at this; omega
    | true => have := m.Bnn k h1 h2 hs huk; omega

theorem Least.step {k : Nat} {d : Int} {nx : Nat} (hl : Least c R U V B us j k d nx) (h1 : 1 ≤ k) (hu : use us j k = false) (hb : best1 c R U V B us j k < far) :
    Least c R U V B us j (k + 1) (if best1 c R U V B us j k < d then best1 c R U V B us j k else d) (if best1 c R U V B us j k < d then k else nx) := by
  rcases hl with ⟨rfl, rfl, hq⟩ | ⟨a, b, e, f, g⟩
  · rw [if_pos hb, if_pos hb]
    refine Or.inr ⟨h1, by omega, hu, rfl, fun q q1 q2 q3 => ?_⟩
    by_cases e : q = k
    · subst e; exact Int.le_refl _
    · rw [hq q q1 (by omega)] at q3; cases q3
  · by_cases hlt : best1 c R U V B us j k < d
    · rw [if_pos hlt, if_pos hlt]
      refine Or.inr ⟨h1, by omega, hu, rfl, fun q q1 q2 q3 => ?_⟩
      by_cases e : q = k
      · subst e; exact Int.le_refl _
      · have := g q q1 (by omega) q3; omega
    · rw [if_neg hlt, if_neg hlt]
      refine Or.inr ⟨a, by omega, e, f, fun q q1 q2 q3 => ?_⟩
      by_cases e : q = k
      · subst e; omega
      · exact g q q1 (by omega) q3

theorem Least.skip {k : Nat} {d : Int} {nx : Nat} (hl : Least c R U V B us j k d nx) (hu : use us j k = true) : Least c R U V B us j (k + 1) d nx := by
  rcases hl with ⟨rfl, rfl, hq⟩ | ⟨a, b, e, f, g⟩
  · exact Or.inl ⟨rfl, rfl, fun q q1 q2 => by by_cases e : q = k; (subst e; exact hu); exact hq q q1 (by omega)⟩
  · exact Or.inr ⟨a, by omega, e, f, fun q q1 q2 q3 => by
      by_cases e : q = k
      · subst e; rw [hu] at q3; cases q3
      · exact g q q1 (by omega) q3⟩

/-- What the rows of the tree get and the columns lose. -/
structure Moved (n : Nat) (R : Nat → Nat) (U V B1 : Nat → Int) (us1 : Nat → Bool) (d : Int) (k : Nat) (U' V' B' : Nat → Int) : Prop where
  Ut : ∀ q, q < k → us1 q = true → U' (R q) = U (R q) + d
  Ur : ∀ r, (∀ q, q < k → us1 q = true → R q ≠ r) → U' r = U r
  Vu : ∀ q, q < k → us1 q = true → V' q = V q - d
  Vr : ∀ q, (q < k → us1 q = false) → V' q = V q
  Bu : ∀ q, q < k → us1 q = false → B' q = B1 q - d
  Br : ∀ q, (q < k → us1 q = true) → B' q = B1 q

theorem Moved.start (n : Nat) (R : Nat → Nat) (U V B1 : Nat → Int) (us1 : Nat → Bool) (d : Int) : Moved n R U V B1 us1 d 0 U V B1 where
  Ut := fun _ h => absurd h (Nat.not_lt_zero _)
  Ur := fun _ _ => rfl
  Vu := fun _ h => absurd h (Nat.not_lt_zero _)
  Vr := fun _ _ => rfl
  Bu := fun _ h => absurd h (Nat.not_lt_zero _)
  Br := fun _ _ => rfl

theorem Moved.used {B1 U' V' B' : Nat → Int} {us1 : Nat → Bool} {d : Int} {k : Nat} (h : Moved n R U V B1 us1 d k U' V' B') (hu : us1 k = true) (hinj : ∀ q, q < k → us1 q = true → R q ≠ R k) :
    U' (R k) = U (R k) ∧ V' k = V k ∧ Moved n R U V B1 us1 d (k + 1) (fun r => if r = R k then U (R k) + d else U' r) (fun q => if q = k then V k - d else V' q) B' := by
  have e1 : U' (R k) = U (R k) := h.Ur _ hinj
  have e2 : V' k = V k := h.Vr k (fun h => absurd h (Nat.lt_irrefl _))
  refine ⟨e1, e2, fun q q1 q2 => ?_, fun r hr => ?_, fun q q1 q2 => ?_, fun q q1 => ?_, fun q q1 q2 => ?_, fun q q1 => ?_⟩
  · by_cases e : q = k
    · subst e; simp
    · have := hinj q (by omega) q2
      rw [if_neg this]; exact h.Ut q (by omega) q2
  · have := hr k (by omega) hu
    rw [if_neg (fun e => this e.symm)]
    exact h.Ur r (fun q a b => hr q (by omega) b)
  · by_cases e : q = k
    · subst e; simp
    · rw [if_neg e]; exact h.Vu q (by omega) q2
  · have : q ≠ k := fun e => by subst e; rw [q1 (by omega)] at hu; cases hu
    rw [if_neg this]; exact h.Vr q (fun a => q1 (by omega))
  · have : q ≠ k := fun e => by subst e; rw [q2] at hu; cases hu
    exact h.Bu q (by omega) q2
  · exact h.Br q (fun a => q1 (by omega))

theorem Moved.unused {B1 U' V' B' : Nat → Int} {us1 : Nat → Bool} {d : Int} {k : Nat} (h : Moved n R U V B1 us1 d k U' V' B') (hu : us1 k = false) :
    B' k = B1 k ∧ Moved n R U V B1 us1 d (k + 1) U' V' (fun q => if q = k then B1 k - d else B' q) := by
  refine ⟨h.Br k (fun h => absurd h (Nat.lt_irrefl _)), fun q q1 q2 => ?_, fun r hr => ?_, fun q q1 q2 => ?_, fun q q1 => ?_, fun q q1 q2 => ?_, fun q q1 => ?_⟩
  · have : q ≠ k := fun e => by subst e; rw [q2] at hu; cases hu
    exact h.Ut q (by omega) q2
  · exact h.Ur r (fun q a b => hr q (by omega) b)
  · have : q ≠ k := fun e => by subst e; rw [q2] at hu; cases hu
    exact h.Vu q (by omega) q2
  · exact h.Vr q (fun a => q1 (by omega))
  · by_cases e : q = k
    · subst e; simp
    · rw [if_neg e]; exact h.Bu q (by omega) q2
  · have : q ≠ k := fun e => by subst e; rw [q1 (by omega)] at hu; cases hu
    rw [if_neg this]; exact h.Br q (fun a => q1 (by omega))


theorem use_self (us : Nat → Bool) (j : Nat) : use us j j = true := by simp [use]
theorem use_old {us : Nat → Bool} {j k : Nat} (h : us k = true) : use us j k = true := by simp [use, h]
theorem use_or {us : Nat → Bool} {j k : Nat} (h : use us j k = true) : k = j ∨ us k = true := by unfold use at h; split at h <;> simp_all
theorem use_not {us : Nat → Bool} {j k : Nat} (h : use us j k = false) : k ≠ j ∧ us k = false := by unfold use at h; split at h <;> simp_all
theorem Mid.use0 (m : Mid n i c U0 V0 R U V B F t s us j) : use us j 0 = true := by
  by_cases e : j = 0
  · subst e; exact use_self _ _
  · exact use_old (m.jp e)

/-- A round: column j is used, and what is least is taken off. -/
theorem Mid.step (h : Pre n i c U0 V0 R) (hn : i ≤ n) (hn1 : n ≤ 100) (hb : Bnd n c) (h0 : R 0 = i) (m : Mid n i c U0 V0 R U V B F t s us j) (hj : R j ≠ 0)
    {d : Int} {nx : Nat} (hl : Least c R U V B us j (n + 1) d nx) {U' V' B' : Nat → Int} (hm : Moved n R U V (best1 c R U V B us j) (use us j) d (n + 1) U' V' B') :
    Mid n i c U0 V0 R U' V' B' (from1 c R U V B F us j) (fun k => if k = j then s else t k) (s + 1) (use us j) nx := by
  obtain ⟨f, f1, f2, f3⟩ := h.free hn
  have fu : use us j f = false := by
    cases hf : use us j f with
    | false => rfl
    | true =>
      rcases use_or hf with e | e
      · subst e; exact absurd f3 hj
      · exact absurd f3 (m.uR f f2 e)
  rcases hl with ⟨_, _, hq⟩ | ⟨n1, n2, n3, n4, n5⟩
  · rw [hq f f1 (by omega)] at fu; cases fu
  have hu0 := m.use0
  obtain ⟨nj, nu⟩ := use_not n3
  have huR : ∀ q, q ≤ n → use us j q = true → R q ≠ 0 := fun q a b => by
    rcases use_or b with e | e
    · subst e; exact hj
    · exact m.uR q a e
  have hUt : ∀ q, q ≤ n → use us j q = true → U' (R q) = U (R q) + d := fun q a b => hm.Ut q (by omega) b
  have hUi : U' i = U i + d := by have := hUt 0 (by omega) hu0; rwa [h0] at this
  have hVu : ∀ q, q ≤ n → use us j q = true → V' q = V q - d := fun q a b => hm.Vu q (by omega) b
  have hVr : ∀ q, use us j q = false → V' q = V q := fun q a => hm.Vr q (fun _ => a)
  have hBu : ∀ q, q ≤ n → use us j q = false → B' q = best1 c R U V B us j q - d := fun q a b => hm.Bu q (by omega) b
  have hbest : ∀ q, use us j q = false → best1 c R U V B us j q ≤ cur c R U V j q ∧ best1 c R U V B us j q ≤ B q := fun q a => by
    unfold best1; rw [a]; simp only [Bool.false_eq_true, if_false]; split <;> omega
  have hd : ∀ q, 1 ≤ q → q ≤ n → use us j q = false → d ≤ best1 c R U V B us j q := fun q a b e => n5 q a (by omega) e
  -- the least is not below nought, once a column is used
  have hdn : us 0 = true → 0 ≤ d := fun hs => by
    have hj1 : j ≠ 0 := fun e => by subst e; rw [m.uj] at hs; cases hs
    have hr := Mid.row h hn h0 j m.jn hj
    have hrl := h.Rle j (by omega) m.jn
    have b1 := m.Bnn nx n1 (by omega) hs nu
    have b2 := m.fea (R j) nx (by omega) hrl n1 (by omega)
    rw [← n4]
    unfold best1; rw [n3]; simp only [Bool.false_eq_true, if_false]
    split
    · unfold cur; omega
    · exact b1
  have hdl : -1000000 ≤ U i + d := by
    cases hs : us 0 with
    | true => have := hdn hs; have := m.Ui; omega
    | false =>
      have hj0 : j = 0 := Classical.byContradiction fun e => by rw [m.jp e] at hs; cases hs
      subst hj0
      have b1 := (m.U00 hs).1
      have b2 := m.Vle nx n1 (by omega)
      have b3 := h.Vle nx n1 (by omega)
      have b4 := (hb i nx h.hi hn n1 (by omega)).1
      have b5 := m.Bfar hs nx (by omega)
      have : d = cur c R U V 0 nx := by
        have hc := m.cur_bd h hn hn1 hb h0 hj n1 (by omega)
        rw [← n4]; unfold best1; rw [n3]; simp only [Bool.false_eq_true, if_false]
        rw [if_pos]
        rw [b5]; unfold far; omega
      rw [this]; unfold cur; rw [h0]; omega
  -- a used column from 1 on says that there was one
  have hst : ∀ q, 1 ≤ q → q ≤ n → use us j q = true → us 0 = true := fun q a hqn b => by
    rcases use_or b with e | e
    · subst e; exact m.jp (by omega)
    · cases hs : us 0 with
      | true => rfl
      | false =>
        have hj0 : j = 0 := Classical.byContradiction fun e => by rw [m.jp e] at hs; cases hs
        rw [m.j0 hj0 q hqn] at e; cases e
  -- rows of the tree; other rows
  have hrt : ∀ r, (∃ q, q ≤ n ∧ use us j q = true ∧ R q = r) ∨ (∀ q, q ≤ n → use us j q = true → R q ≠ r) := fun r => by
    by_cases hx : ∃ q, q ≤ n ∧ use us j q = true ∧ R q = r
    · exact Or.inl hx
    · exact Or.inr fun q a b e => hx ⟨q, a, b, e⟩
  have hUo : ∀ r, (∀ q, q ≤ n → use us j q = true → R q ≠ r) → U' r = U r := fun r hr => hm.Ur r (fun q a b => hr q (by omega) b)
  -- one offer, for a column that is not used
  have hle0 : ∀ k q, 1 ≤ k → k ≤ n → q ≤ n → use us j q = true → use us j k = false → U (R q) + V k + best1 c R U V B us j k ≤ c (R q) k := fun k q a b e f g => by
    obtain ⟨g1, g2⟩ := use_not g
    have hbk := hbest k g
    rcases use_or f with x | x
    · subst x; have := hbk.1; unfold cur at this; omega
    · have := m.le k q a b e x
      rw [g2] at this; simp only [Bool.false_eq_true, if_false] at this
      omega
  -- .. for one that is
  have hle1 : ∀ k q, 1 ≤ k → k ≤ n → q ≤ n → use us j q = true → use us j k = true → U (R q) + V k ≤ c (R q) k := fun k q a b e f g => by
    have hs := hst k a b g
    by_cases q0 : q = 0
    · subst q0
      have := m.le k 0 a b (by omega) hs
      rcases use_or g with x | x
      · subst x; have hB := m.Bj (by omega); rw [m.uj, hB] at this; simp only [Bool.false_eq_true, if_false] at this; omega
      · rw [x] at this; simp only [if_true] at this; omega
    · have hr := Mid.row h hn h0 q e (huR q e f)
      exact m.fea _ k (by omega) (h.Rle q (by omega) e) a b
  constructor
  case jn => omega
  case uj => exact n3
  case j0 => intro e; omega
  case jp => intro _; exact hu0
  case uR => exact huR
  case Fn =>
    intro k a
    unfold from1
    split
    · exact m.Fn k a
    · split
      · exact m.jn
      · exact m.Fn k a
  case Fu =>
    intro k a b _
    unfold from1
    split
    · rename_i hk
      exact use_old (m.Fu k a b (hst k a b hk))
    · split
      · exact use_self _ _
      · rename_i hk hlt
        cases hs : us 0 with
        | true => exact use_old (m.Fu k a b hs)
        | false =>
          have hc := m.cur_bd h hn hn1 hb h0 hj a b
          rw [m.Bfar hs k b] at hlt
          unfold far at hlt; omega
  case tF =>
    intro k a b hk
    have hs := hst k a b hk
    have hF := m.Fu k a b hs
    have hFn := m.Fn k b
    have hFj : F k ≠ j := fun e => by rw [e, m.uj] at hF; cases hF
    have e1 : from1 c R U V B F us j k = F k := by unfold from1; rw [hk]; rfl
    rw [e1, if_neg hFj]
    rcases use_or hk with e | e
    · subst e; rw [if_pos rfl]; exact m.ts _ hFn hF
    · have hkj : k ≠ j := fun x => by rw [x, m.uj] at e; cases e
      rw [if_neg hkj]; exact m.tF k a b e
  case ts =>
    intro k a hk
    rcases use_or hk with e | e
    · subst e; rw [if_pos rfl]; omega
    · have hkj : k ≠ j := fun x => by rw [x, m.uj] at e; cases e
      rw [if_neg hkj]; have := m.ts k a e; omega
  case eq =>
    intro k a b _
    cases hk : use us j k with
    | true =>
      have hs := hst k a b hk
      have e1 : from1 c R U V B F us j k = F k := by unfold from1; rw [hk]; rfl
      have := m.eq k a b hs
      have hF := m.Fu k a b hs
      rw [e1, hUt _ (m.Fn k b) (use_old hF), hVu k b hk, if_pos rfl]
      rcases use_or hk with x | x
      · subst x; have hB := m.Bj (by omega); rw [m.uj, hB] at this; simp only [Bool.false_eq_true, if_false] at this; omega
      · rw [x] at this; simp only [if_true] at this; omega
    | false =>
      obtain ⟨g1, g2⟩ := use_not hk
      rw [hVr k hk, hBu k b hk]
      simp only [Bool.false_eq_true, if_false]
      unfold from1 best1
      rw [hk]
      simp only [Bool.false_eq_true, if_false]
      split
      · rw [hUt j m.jn (use_self _ _)]; unfold cur; omega
      · rename_i hlt
        cases hs : us 0 with
        | true =>
          have := m.eq k a b hs
          rw [g2] at this; simp only [Bool.false_eq_true, if_false] at this
          rw [hUt _ (m.Fn k b) (use_old (m.Fu k a b hs))]; omega
        | false =>
          have hc := m.cur_bd h hn hn1 hb h0 hj a b
          rw [m.Bfar hs k b] at hlt
          unfold far at hlt; omega
  case le =>
    intro k q a b e f
    cases hk : use us j k with
    | true =>
      rw [hUt q e f, hVu k b hk, if_pos rfl]
      have := hle1 k q a b e f hk
      omega
    | false =>
      rw [hUt q e f, hVr k hk, hBu k b hk]
      simp only [Bool.false_eq_true, if_false]
      have := hle0 k q a b e f hk
      omega
  case Bnn =>
    intro k a b _ hk
    rw [hBu k b hk]
    have := hd k a b hk
    omega
  case Bj =>
    intro _
    rw [hBu nx (by omega) n3, n4]; omega
  case Bfar => intro e; rw [hu0] at e; cases e
  case fea =>
    intro r k a b e f
    rcases hrt r with ⟨q, q1, q2, rfl⟩ | hr
    · rw [hUt q q1 q2]
      have q0 : 1 ≤ q := by
        by_cases x : q = 0
        · subst x; omega
        · omega
      cases hk : use us j k with
      | true => rw [hVu k f hk]; have := hle1 k q e f q1 q2 hk; omega
      | false => rw [hVr k hk]; have := hle0 k q e f q1 q2 hk; have := hd k e f hk; omega
    · rw [hUo r hr]
      have := m.fea r k a b e f
      cases hk : use us j k with
      | true => rw [hVu k f hk]; have := hdn (hst k e f hk); omega
      | false => rw [hVr k hk]; exact this
  case tig =>
    intro k a b hR
    have := m.tig k a b hR
    cases hk : use us j k with
    | true => rw [hUt k b hk, hVu k b hk]; omega
    | false =>
      rw [hUo (R k) (fun q q1 q2 e => by have := h.inj0 h0 b q1 e.symm hR; subst this; rw [q2] at hk; cases hk), hVr k hk]
      exact this
  case Veq =>
    intro k a b hk
    rw [hVr k hk]; exact m.Veq k a b (use_not hk).2
  case Vle =>
    intro k a b
    have := m.Vle k a b
    cases hk : use us j k with
    | true => rw [hVu k b hk]; have := hdn (hst k a b hk); omega
    | false => rw [hVr k hk]; exact this
  case U00 => intro e; rw [hu0] at e; cases e
  case Ui => rw [hUi]; exact hdl
  case Ub =>
    intro r a b
    rw [hUi]
    have hr2 := m.Ub r a b
    rcases hrt r with ⟨q, q1, q2, rfl⟩ | hr
    · rw [hUt q q1 q2]
      have q0 : 1 ≤ q := by
        by_cases x : q = 0
        · subst x; omega
        · omega
      have := hdn (hst q q0 q1 q2)
      omega
    · rw [hUo r hr]
      cases hs : us 0 with
      | true => have := hdn hs; omega
      | false => have := (m.U00 hs).2 r a b; omega
  case Vb =>
    intro k a b
    rw [hUi]
    have := m.Vb k a b
    cases hk : use us j k with
    | true => rw [hVu k b hk]; omega
    | false => rw [hVr k hk]; have := m.Veq k a b (use_not hk).2; omega
  case V00 => rw [hVu 0 (by omega) hu0, hUi]; have := m.V00; omega
  case Un =>
    intro r a b
    rw [hUo r (fun q q1 q2 e => by
      have := Mid.row h hn h0 q q1 (huR q q1 q2)
      omega)]
    exact m.Un r a b

/-- The way is turned: column j is open. -/
structure Hole (n i : Nat) (c : Nat → Nat → Int) (U V : Nat → Int) (R : Nat → Nat) (F t : Nat → Nat) (us : Nat → Bool) (Rc : Nat → Nat) (j : Nat) : Prop where
  jn : j ≤ n
  top : Rc 0 = i
  rle : ∀ k, 1 ≤ k → k ≤ n → k ≠ j → Rc k ≤ i
  rlt : j ≠ 0 → ∀ k, 1 ≤ k → k ≤ n → k ≠ j → Rc k < i
  inj : ∀ k k', 1 ≤ k → k ≤ n → 1 ≤ k' → k' ≤ n → k ≠ j → k' ≠ j → Rc k = Rc k' → Rc k ≠ 0 → k = k'
  tig : ∀ k, 1 ≤ k → k ≤ n → k ≠ j → Rc k ≠ 0 → U (Rc k) + V k = c (Rc k) k
  fr : ∀ k, 1 ≤ k → k ≤ n → k ≠ j → Rc k = 0 → R k = 0
  sur : ∀ r, 1 ≤ r → r < i → ∃ k, 1 ≤ k ∧ k ≤ n ∧ k ≠ j ∧ Rc k = r
  sur0 : j = 0 → ∃ k, 1 ≤ k ∧ k ≤ n ∧ Rc k = i
  old : ∀ k, k ≤ n → us k = true → (us j = false ∨ t k ≤ t j) → Rc k = R k

theorem Hole.start (h : Pre n i c U0 V0 R) (h0 : R 0 = i) (m : Mid n i c U0 V0 R U V B F t s us j) (hj : R j = 0) : Hole n i c U V R F t us R j where
  jn := m.jn
  top := h0
  rle := fun k a b _ => by have := h.Rle k a b; omega
  rlt := fun _ k a b _ => h.Rle k a b
  inj := fun k k' a b a' b' _ _ e f => h.inj k k' a b a' b' e f
  tig := fun k a b _ f => m.tig k a b f
  fr := fun _ _ _ _ f => f
  sur := fun r a b => by
    obtain ⟨k, k1, k2, k3⟩ := h.sur r a b
    exact ⟨k, k1, k2, fun e => by subst e; omega, k3⟩
  sur0 := fun e => by subst e; have := h.hi; omega
  old := fun _ _ _ _ => rfl

theorem Hole.step (h : Pre n i c U0 V0 R) (h0 : R 0 = i) {j0 : Nat} (m : Mid n i c U0 V0 R U V B F t s us j0) {Rc : Nat → Nat} (hh : Hole n i c U V R F t us Rc j) (hj : j ≠ 0) (hju : us j = true ∨ j = j0) :
    Hole n i c U V R F t us (fun k => if k = j then Rc (F j) else Rc k) (F j) ∧ us (F j) = true ∧ F j ≤ n ∧ (us j = true → t (F j) < t j) ∧ t (F j) < s := by
  have hj1 : 1 ≤ j := by omega
  have hs : us 0 = true := by
    rcases hju with e | e
    · cases hs : us 0 with
      | true => rfl
      | false =>
        have hj0 : j0 = 0 := Classical.byContradiction fun e => by rw [m.jp e] at hs; cases hs
        rw [m.j0 hj0 j hh.jn] at e; cases e
    · subst e; exact m.jp hj
  have hFu := m.Fu j hj1 hh.jn hs
  have hFn := m.Fn j hh.jn
  have htF : us j = true → t (F j) < t j := fun e => m.tF j hj1 hh.jn e
  have hts := m.ts _ hFn hFu
  have hFj : F j ≠ j := fun e => by
    cases hx : us j with
    | true => have := htF hx; rw [e] at this; omega
    | false => rw [e] at hFu; rw [hFu] at hx; cases hx
  have hRF : Rc (F j) = R (F j) := hh.old _ hFn hFu (by
    cases hx : us j with
    | true => exact Or.inr (Nat.le_of_lt (htF hx))
    | false => exact Or.inl rfl)
  have hR0 : R (F j) ≠ 0 := m.uR _ hFn hFu
  have htig : U (R (F j)) + V j = c (R (F j)) j := by
    have := m.eq j hj1 hh.jn hs
    rcases hju with e | e
    · rw [e] at this; simp only [if_true] at this; omega
    · subst e; rw [m.uj, m.Bj hj] at this; simp only [Bool.false_eq_true, if_false] at this; omega
  refine ⟨?_, hFu, hFn, htF, hts⟩
  constructor
  case jn => exact hFn
  case top => rw [if_neg (Ne.symm hj)]; exact hh.top
  case rle =>
    intro k a b _
    by_cases ek : k = j
    · rw [if_pos ek, hRF]
      by_cases e0 : F j = 0
      · rw [e0, h0]; exact Nat.le_refl _
      · have := h.Rle (F j) (by omega) hFn; omega
    · rw [if_neg ek]; exact hh.rle k a b ek
  case rlt =>
    intro e0 k a b _
    by_cases ek : k = j
    · rw [if_pos ek, hRF]; exact h.Rle (F j) (by omega) hFn
    · rw [if_neg ek]; exact hh.rlt hj k a b ek
  case inj =>
    intro k k' a b a' b' f f' e g
    by_cases ek : k = j
    · by_cases ek' : k' = j
      · omega
      · rw [if_pos ek, if_neg ek'] at e
        exfalso
        by_cases e0 : F j = 0
        · rw [e0, hh.top] at e; have := hh.rlt hj k' a' b' ek'; omega
        · exact f' ((hh.inj (F j) k' (by omega) hFn a' b' hFj ek' e (by rw [hRF]; exact hR0)).symm)
    · by_cases ek' : k' = j
      · rw [if_neg ek, if_pos ek'] at e
        exfalso
        by_cases e0 : F j = 0
        · rw [e0, hh.top] at e; have := hh.rlt hj k a b ek; omega
        · exact f (hh.inj k (F j) a b (by omega) hFn ek hFj e (by rw [if_neg ek] at g; exact g))
      · rw [if_neg ek, if_neg ek'] at e
        rw [if_neg ek] at g
        exact hh.inj k k' a b a' b' ek ek' e g
  case tig =>
    intro k a b _ g
    by_cases ek : k = j
    · subst ek; rw [if_pos rfl, hRF]; exact htig
    · rw [if_neg ek] at g ⊢; exact hh.tig k a b ek g
  case fr =>
    intro k a b _ g
    by_cases ek : k = j
    · rw [if_pos ek, hRF] at g; exact absurd g hR0
    · rw [if_neg ek] at g; exact hh.fr k a b ek g
  case sur =>
    intro r a b
    obtain ⟨k, k1, k2, k3, k4⟩ := hh.sur r a b
    by_cases ek : k = F j
    · exact ⟨j, hj1, hh.jn, fun e => hFj e.symm, by rw [if_pos rfl, ← ek]; exact k4⟩
    · exact ⟨k, k1, k2, ek, by rw [if_neg k3]; exact k4⟩
  case sur0 =>
    intro e0
    exact ⟨j, hj1, hh.jn, by rw [if_pos rfl, e0]; exact hh.top⟩
  case old =>
    intro k a b e
    have hkj : k ≠ j := fun x => by
      subst x
      rcases e with e | e
      · rw [hFu] at e; cases e
      · have := htF b; omega
    rw [if_neg hkj]
    refine hh.old k a b ?_
    cases hx : us j with
    | false => exact Or.inl rfl
    | true =>
      refine Or.inr ?_
      rcases e with e | e
      · rw [hFu] at e; cases e
      · have := htF hx; omega

/-- The row is added. -/
theorem Hole.done (h : Pre n i c U0 V0 R) (hn : i ≤ n) (hb : Bnd n c) (h0 : R 0 = i) {j0 : Nat} (m : Mid n i c U0 V0 R U V B F t s us j0) (hj0 : j0 ≠ 0) {Rc : Nat → Nat} (hh : Hole n i c U V R F t us Rc 0) :
    Pre n (i + 1) c U V Rc := by
  have hU := m.Uhi h hn hb h0
  have hL := m.Ui
  have hs := m.jp hj0
  have hi := h.hi
  constructor
  case hi => omega
  case Rle => intro k a b; have := hh.rle k a b (by omega); omega
  case inj => intro k k' a b a' b' e f; exact hh.inj k k' a b a' b' (by omega) (by omega) e f
  case sur =>
    intro r a b
    by_cases e : r = i
    · subst e; exact hh.sur0 rfl
    · obtain ⟨k, k1, k2, _, k4⟩ := hh.sur r a (by omega)
      exact ⟨k, k1, k2, k4⟩
  case fea =>
    intro r k a b e f
    by_cases er : r = i
    · subst er
      have h1 := m.le k 0 e f (by omega) hs
      rw [h0] at h1
      cases hk : us k with
      | true => rw [hk] at h1; simp only [if_true] at h1; omega
      | false => rw [hk] at h1; simp only [Bool.false_eq_true, if_false] at h1; have := m.Bnn k e f hs hk; omega
    · exact m.fea r k a (by omega) e f
  case tig => intro k a b e; exact hh.tig k a b (by omega) e
  case Vle => intro k a b; have := m.Vle k a b; have := h.Vle k a b; omega
  case Vfr =>
    intro k a b e
    have hR := hh.fr k a b (by omega) e
    have hu : us k = false := by
      cases hk : us k with
      | false => rfl
      | true => exact absurd hR (m.uR k b hk)
    rw [m.Veq k a b hu]; exact h.Vfr k a b hR
  case Unew => intro r a b; exact m.Un r (by omega) b
  case Ulo =>
    intro r a b
    by_cases er : r = i
    · subst er; exact hL
    · have := m.Ub r a (by omega); have := h.Ulo r a (by omega); omega
  case Uhi =>
    intro r a b
    by_cases er : r = i
    · subst er; omega
    · have := m.Ub r a (by omega); have := h.Uhi r a (by omega); omega
  case Vlo => intro k a b; have := m.Vb k a b; have := h.Vlo k a b; omega
  case V0 => have := m.V00; have := h.V0; omega

/-- Nothing is assigned at first. -/
theorem Pre.start (n : Nat) (c : Nat → Nat → Int) : Pre n 1 c (fun _ => 0) (fun _ => 0) (fun _ => 0) where
  hi := Nat.le_refl _
  Rle := fun _ _ _ => Nat.zero_lt_one
  inj := fun _ _ _ _ _ _ _ f => absurd rfl f
  sur := fun r a b => by omega
  fea := fun r k a b => by omega
  tig := fun _ _ _ f => absurd rfl f
  Vle := fun _ _ _ => Int.le_refl _
  Vfr := fun _ _ _ _ => rfl
  Unew := fun _ _ _ => rfl
  Ulo := fun r a b => by omega
  Uhi := fun r a b => by omega
  Vlo := fun k a b => by omega
  V0 := by omega

/-- At the end each column has a row. -/
theorem Pre.full (h : Pre n (n + 1) c U V R) : (∀ k, 1 ≤ k → k ≤ n → 1 ≤ R k ∧ R k ≤ n) ∧ (∀ k k', 1 ≤ k → k ≤ n → 1 ≤ k' → k' ≤ n → R k = R k' → k = k') := by
  have hQ : ∀ r, ∃ k, 1 ≤ r → r ≤ n → 1 ≤ k ∧ k ≤ n ∧ R k = r := fun r => by
    by_cases hr : 1 ≤ r ∧ r ≤ n
    · obtain ⟨k, a, b, e⟩ := h.sur r hr.1 (by omega)
      exact ⟨k, fun _ _ => ⟨a, b, e⟩⟩
    · exact ⟨0, fun a b => absurd ⟨a, b⟩ hr⟩
  have hne : ∀ k, 1 ≤ k → k ≤ n → R k ≠ 0 := fun k a b e => by
    obtain ⟨r, r1, r2, r3⟩ := inj_surj n (fun r => Classical.choose (hQ r)) (fun r a b => by have := Classical.choose_spec (hQ r) a b; exact ⟨this.1, this.2.1⟩)
      (fun r r' a b a' b' e => by
        have h1 := (Classical.choose_spec (hQ r) a b).2.2
        have h2 := (Classical.choose_spec (hQ r') a' b').2.2
        rw [← h1, ← h2]; exact congrArg R e) k a b
    have := (Classical.choose_spec (hQ r) r1 r2).2.2
    rw [show Classical.choose (hQ r) = k from r3] at this
    omega
  exact ⟨fun k a b => by have := hne k a b; have := h.Rle k a b; omega, fun k k' a b a' b' e => h.inj k k' a b a' b' e (hne k a b)⟩


/-- How many columns below k are not used. -/
def cntF (us : Nat → Bool) : Nat → Nat
  | 0 => 0
  | k + 1 => cntF us k + if us k then 0 else 1
theorem cntF_congr {us us' : Nat → Bool} : ∀ {k : Nat}, (∀ q, q < k → us q = us' q) → cntF us k = cntF us' k
  | 0, _ => rfl
  | k + 1, h => by rw [cntF, cntF, cntF_congr (fun q hq => h q (by omega)), h k (by omega)]
theorem cntF_use {us : Nat → Bool} {j : Nat} (hu : us j = false) : ∀ {k : Nat}, j < k → cntF (use us j) k + 1 = cntF us k
  | 0, h => by omega
  | k + 1, h => by
    rw [cntF, cntF]
    by_cases e : j = k
    · subst e
      have h1 : cntF (use us j) j = cntF us j := cntF_congr fun q hq => by unfold use; rw [if_neg (by omega)]
      rw [h1, hu, use_self]; simp
    · have := cntF_use hu (k := k) (by omega)
      have h2 : use us j k = us k := by unfold use; rw [if_neg (by omega)]
      rw [h2]; omega

theorem Mid.least_bd (h : Pre n i c U0 V0 R) (hn : i ≤ n) (hn1 : n ≤ 100) (hb : Bnd n c) (h0 : R 0 = i) (m : Mid n i c U0 V0 R U V B F t s us j) (hj : R j ≠ 0) {d : Int} {nx : Nat} (hl : Least c R U V B us j (n + 1) d nx) :
    -1000000000 ≤ d ∧ d ≤ 1000000000 ∧ 1 ≤ nx ∧ nx ≤ n := by
  obtain ⟨f, f1, f2, f3⟩ := h.free hn
  have fu : use us j f = false := by
    cases hf : use us j f with
    | false => rfl
    | true =>
      rcases use_or hf with e | e
      · subst e; exact absurd f3 hj
      · exact absurd f3 (m.uR f f2 e)
  rcases hl with ⟨_, _, hq⟩ | ⟨n1, n2, n3, n4, n5⟩
  · rw [hq f f1 (by omega)] at fu; cases fu
  · have := m.best_bd h hn hn1 hb h0 hj n1 (by omega) n3
    omega

/-- f below k, g from k on. -/
def upto {α : Type} (k : Nat) (f g : Nat → α) : Nat → α := fun q => if q < k then f q else g q
theorem upto_lt {α : Type} {k q : Nat} {f g : Nat → α} (h : q < k) : upto k f g q = f q := if_pos h
theorem upto_ge {α : Type} {k q : Nat} {f g : Nat → α} (h : k ≤ q) : upto k f g q = g q := if_neg (by omega)
theorem upto_step {α : Type} {k q : Nat} {f g : Nat → α} : (if q = k then f k else upto k f g q) = upto (k + 1) f g q := by
  unfold upto
  by_cases e : q = k
  · subst e; simp
  · rw [if_neg e]
    by_cases h : q < k
    · rw [if_pos h, if_pos (by omega)]
    · rw [if_neg h, if_neg (by omega)]
theorem upto_same {α : Type} {k q : Nat} {f g : Nat → α} (h : f k = g k) : upto k f g q = upto (k + 1) f g q := by
  unfold upto
  by_cases e : q = k
  · subst e; simp [h]
  · by_cases h : q < k
    · rw [if_pos h, if_pos (by omega)]
    · rw [if_neg h, if_neg (by omega)]

end
end Go.Proofs.Ytfccfmjamdpeaaa
