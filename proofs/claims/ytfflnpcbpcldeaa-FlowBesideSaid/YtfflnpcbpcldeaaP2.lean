/- Ways along arcs that carry a flow: the plain law. No program in sight. What lies between two visits of a node is left away: the plain law. No program in sight. GOMORY AND HU, by Gusfield's way: a tree of least cuts. The plain law. No program in sight. Flows along edges, both ways, and the least cuts: the plain law. No program in sight. MENGER: ways that share no node: the plain law. No program in sight. The flow along which the ways of flow.Beside go: the plain law. No program in sight. MENGER: the nodes without which there is no way: the plain law. No program in sight. -/
import Derived.Test.YtfflnpcbpcldeaaP3
import Derived.Test.YtfflnpcbpcldeaaFBoth
import Derived.Test.YtfflnpcbpcldeaaReach
namespace Go.Proofs.Ytfflnpcbpcldeaa

section
variable {l : List (Int × Int × Int)} {m : Nat}
theorem out_exists {F : Nat → Nat} {v : Nat} (h : 0 < outL l F v m) : ∃ k, k < m ∧ fromL l k = v ∧ 0 < F k := by
  refine Classical.byContradiction fun hc => ?_
  have h1 : outL l F v m ≤ m * 0 := sumZ_le fun k hk => by
    by_cases e : fromL l k = v
    · have : F k = 0 := by
        rcases Nat.eq_zero_or_pos (F k) with h0 | h0
        · exact h0
        · exact absurd ⟨k, hk, e, h0⟩ hc
      rw [this]
      split <;> split <;> omega
    · rw [if_neg e]
      split <;> omega
  omega
/-- One unit less along arc k. -/
def lessF (F : Nat → Nat) (k : Nat) : Nat → Nat := fun q => if q = k then F k - 1 else F q
theorem out_less {F : Nat → Nat} {k : Nat} (hk : k < m) (h0 : 0 < F k) (u : Nat) : outL l (lessF F k) u m = outL l F u m + ((if toL l k = u then 1 else 0) - (if fromL l k = u then 1 else 0)) := by
  refine sumZ_one hk (fun q _ hne => ?_) ?_
  · simp only [lessF, if_neg hne]
  · simp only [lessF, if_true]
    by_cases e1 : fromL l k = u <;> by_cases e2 : toL l k = u <;> simp only [e1, e2, if_true, if_false] <;> omega
/-- All that flows. -/
def allF (F : Nat → Nat) : Nat → Nat
  | 0 => 0
  | n + 1 => allF F n + F n
theorem allF_congr {F G : Nat → Nat} : ∀ n, (∀ k, k < n → F k = G k) → allF F n = allF G n
  | 0, _ => rfl
  | n + 1, h => by rw [allF, allF, allF_congr n fun k hk => h k (by omega), h n (by omega)]
theorem allF_less {F : Nat → Nat} {k : Nat} (h0 : 0 < F k) : ∀ n, k < n → allF (lessF F k) n + 1 = allF F n
  | n + 1, hk => by
    rw [allF, allF]
    by_cases e : n = k
    · subst e
      rw [allF_congr (F := lessF F n) (G := F) n fun q hq => by simp only [lessF, if_neg (show ¬ q = n by omega)]]
      simp only [lessF, if_true]
      omega
    · have := allF_less h0 n (by omega)
      have e2 : lessF F k n = F n := by simp only [lessF, if_neg e]
      rw [e2]
      omega
end

/-- A way P along arcs K, not yet at t before its end; F is what is left of F0. -/
structure Trail (l : List (Int × Int × Int)) (m s t : Nat) (F0 F : Nat → Nat) (P K : List Nat) : Prop where
  len : P.length = K.length + 1
  head : P.getD 0 0 = s
  step : ∀ j, j < K.length → K.getD j 0 < m ∧ fromL l (K.getD j 0) = P.getD j 0 ∧ toL l (K.getD j 0) = P.getD (j + 1) 0 ∧ P.getD j 0 ≠ t
  left : ∀ k, F k + K.count k = F0 k

section
variable {l : List (Int × Int × Int)} {m s t : Nat} {F0 F : Nat → Nat} {P K : List Nat}
theorem Trail.start : Trail l m s t F0 F0 [s] [] := ⟨rfl, rfl, fun j hj => absurd hj (Nat.not_lt_zero _), fun k => by simp⟩
theorem getD_app_lt {L : List Nat} {x j : Nat} (h : j < L.length) : (L ++ [x]).getD j 0 = L.getD j 0 := by simp [List.getD, List.getElem?_append_left h]
theorem getD_app_eq {L : List Nat} {x : Nat} : (L ++ [x]).getD L.length 0 = x := by simp [List.getD]
theorem Trail.more (h : Trail l m s t F0 F P K) {k : Nat} (hk : k < m) (hf : fromL l k = P.getD K.length 0) (h0 : 0 < F k) (hne : P.getD K.length 0 ≠ t) : Trail l m s t F0 (lessF F k) (P ++ [toL l k]) (K ++ [k]) := by
  have hl := h.len
  refine ⟨by simp [hl], by rw [getD_app_lt (by omega)]; exact h.head, fun j hj => ?_, fun q => ?_⟩
  · by_cases e : j = K.length
    · subst e
      rw [getD_app_eq, getD_app_lt (by omega), ← hl, getD_app_eq]
      exact ⟨hk, hf, rfl, hne⟩
    · have hj' : j < K.length := by simp at hj; omega
      rw [getD_app_lt hj', getD_app_lt (by omega), getD_app_lt (by omega)]
      exact h.step j hj'
  · have := h.left q
    rw [List.count_append, List.count_singleton]
    unfold lessF
    by_cases e : q = k
    · subst e; simp; omega
    · have : ¬ (k == q) = true := by simp; exact fun e2 => e e2.symm
      simp only [if_neg e, this, if_false]
      simpa using h.left q
/-- Where a unit is under way to t, it goes on. -/
theorem Trail.on {n : Nat} {v : Nat} (hout : ∀ u, outL l F u m = (n : Int) * ((if s = u then 1 else 0) - (if t = u then 1 else 0)) + ((if v = u then 1 else 0) - (if t = u then 1 else 0))) (hvt : v ≠ t) (hst : s ≠ t) : ∃ k, k < m ∧ fromL l k = v ∧ 0 < F k := by
  refine out_exists ?_
  rw [hout v, if_pos rfl, if_neg (Ne.symm hvt)]
  by_cases e : s = v
  · rw [if_pos e]
    omega
  · rw [if_neg e]
    omega
theorem out_step {n v k : Nat} (hout : ∀ u, outL l F u m = (n : Int) * ((if s = u then 1 else 0) - (if t = u then 1 else 0)) + ((if v = u then 1 else 0) - (if t = u then 1 else 0))) (hk : k < m) (hf : fromL l k = v) (h0 : 0 < F k) :
    ∀ u, outL l (lessF F k) u m = (n : Int) * ((if s = u then 1 else 0) - (if t = u then 1 else 0)) + ((if toL l k = u then 1 else 0) - (if t = u then 1 else 0)) := fun u => by
  rw [out_less hk h0, hout u, hf]
  omega
end

end Go.Proofs.Ytfflnpcbpcldeaa
namespace Go.Proofs.Ytfflnpcbpcldeaa

/-- What has been kept of the first k of l. -/
structure StrOk (l : List Nat) (k : Nat) (o : List Nat) : Prop where
  none : k = 0 → o = []
  some : 0 < k → 0 < o.length
  dif : ∀ i j, i < j → j < o.length → o.getD i 0 ≠ o.getD j 0
  head : 0 < k → o.getD 0 0 = l.getD 0 0
  last : 0 < k → o.getD (o.length - 1) 0 = l.getD (k - 1) 0
  pair : ∀ j, j + 1 < o.length → ∃ i, i + 1 < k ∧ l.getD i 0 = o.getD j 0 ∧ l.getD (i + 1) 0 = o.getD (j + 1) 0
theorem getD_take {L : List Nat} {n j : Nat} (h : j < n) : (L.take n).getD j 0 = L.getD j 0 := by simp [List.getD, List.getElem?_take, h]

section
variable {l o : List Nat} {k : Nat}
theorem StrOk.start (l : List Nat) : StrOk l 0 [] := ⟨fun _ => rfl, fun h => absurd h (Nat.lt_irrefl _), fun i j _ h => absurd h (Nat.not_lt_zero _), fun h => absurd h (Nat.lt_irrefl _), fun h => absurd h (Nat.lt_irrefl _), fun j h => absurd h (Nat.not_lt_zero _)⟩
theorem StrOk.pos (h : StrOk l k o) (ho : 0 < o.length) : 0 < k := by
  rcases Nat.eq_zero_or_pos k with e | e
  · rw [h.none e] at ho; exact absurd ho (Nat.lt_irrefl _)
  · exact e
theorem StrOk.cut (h : StrOk l k o) {j : Nat} (hj : j < o.length) (e : o.getD j 0 = l.getD k 0) : StrOk l (k + 1) (o.take (j + 1)) := by
  have hk := h.pos (by omega)
  have hlen : (o.take (j + 1)).length = j + 1 := by rw [List.length_take]; omega
  refine ⟨fun h => by omega, fun _ => by omega, fun i q hi hq => ?_, fun _ => ?_, fun _ => ?_, fun q hq => ?_⟩
  · rw [hlen] at hq
    rw [getD_take (by omega), getD_take (by omega)]
    exact h.dif i q hi (by omega)
  · rw [getD_take (by omega)]; exact h.head hk
  · rw [hlen, getD_take (by omega), Nat.add_sub_cancel, Nat.add_sub_cancel]; exact e
  · rw [hlen] at hq
    obtain ⟨i, h1, h2, h3⟩ := h.pair q (by omega)
    rw [getD_take (by omega), getD_take (by omega)]
    exact ⟨i, by omega, h2, h3⟩
theorem StrOk.app (h : StrOk l k o) (hn : ∀ j, j < o.length → o.getD j 0 ≠ l.getD k 0) : StrOk l (k + 1) (o ++ [l.getD k 0]) := by
  have hlen : (o ++ [l.getD k 0]).length = o.length + 1 := by simp
  refine ⟨fun h => by omega, fun _ => by omega, fun i q hi hq => ?_, fun _ => ?_, fun _ => ?_, fun q hq => ?_⟩
  · rw [hlen] at hq
    rw [getD_app_lt (by omega)]
    by_cases e : q = o.length
    · subst e; rw [getD_app_eq]; exact hn i hi
    · rw [getD_app_lt (by omega)]; exact h.dif i q hi (by omega)
  · rcases Nat.eq_zero_or_pos k with e | e
    · subst e; rw [h.none rfl]; rfl
    · rw [getD_app_lt (h.some e)]; exact h.head e
  · rw [hlen, Nat.add_sub_cancel, getD_app_eq, Nat.add_sub_cancel]
  · rw [hlen] at hq
    rw [getD_app_lt (by omega)]
    by_cases e : q + 1 = o.length
    · rw [e, getD_app_eq]
      have hk := h.pos (by omega)
      have hl := h.last hk
      rw [show o.length - 1 = q by omega] at hl
      exact ⟨k - 1, by omega, hl.symm, by rw [show k - 1 + 1 = k by omega]⟩
    · rw [getD_app_lt (by omega)]
      obtain ⟨i, h1, h2, h3⟩ := h.pair q (by omega)
      exact ⟨i, by omega, h2, h3⟩
end

end Go.Proofs.Ytfflnpcbpcldeaa
namespace Go.Proofs.Ytfflnpcbpcldeaa

/-- The least cut between a and b holds m. -/
def LeastC (cap : (Nat → Bool) → Nat) (a b m : Nat) : Prop := (∃ S : Nat → Bool, S a = true ∧ S b = false ∧ cap S = m) ∧ ∀ S : Nat → Bool, S a = true → S b = false → m ≤ cap S

theorem leastC_ex (cap : (Nat → Bool) → Nat) {a b : Nat} (h : a ≠ b) : ∃ m, LeastC cap a b m := by
  have key : ∀ k, ∀ S : Nat → Bool, S a = true → S b = false → cap S ≤ k → ∃ m, LeastC cap a b m := by
    intro k
    induction k with
    | zero => intro S h1 h2 h3; exact ⟨0, ⟨S, h1, h2, by omega⟩, fun _ _ _ => Nat.zero_le _⟩
    | succ k ih =>
      intro S h1 h2 h3
      by_cases e : ∃ T : Nat → Bool, T a = true ∧ T b = false ∧ cap T ≤ k
      · obtain ⟨T, t1, t2, t3⟩ := e
        exact ih T t1 t2 t3
      · exact ⟨cap S, ⟨S, h1, h2, rfl⟩, fun T t1 t2 => by
          rcases Nat.lt_or_ge (cap T) (cap S) with h | h
          · exact absurd ⟨T, t1, t2, by omega⟩ e
          · exact h⟩
  exact key _ (fun v => decide (v = a)) (by simp) (by simp [Ne.symm h]) (Nat.le_refl _)
theorem LeastC.uniq {cap : (Nat → Bool) → Nat} {a b m m' : Nat} (h : LeastC cap a b m) (h' : LeastC cap a b m') : m = m' := by
  obtain ⟨⟨S, s1, s2, s3⟩, h1⟩ := h
  obtain ⟨⟨T, t1, t2, t3⟩, h2⟩ := h'
  have := h1 T t1 t2
  have := h2 S s1 s2
  omega

/-- What cuts hold, and the least of them. -/
structure Cuts (cap : (Nat → Bool) → Nat) (f : Nat → Nat → Nat) : Prop where
  least : ∀ a b, a ≠ b → LeastC cap a b (f a b)
  sub : ∀ S T : Nat → Bool, cap (fun v => S v && T v) + cap (fun v => S v || T v) ≤ cap S + cap T
  pos : ∀ S T : Nat → Bool, cap (fun v => S v && !T v) + cap (fun v => T v && !S v) ≤ cap S + cap T
  sym : ∀ S : Nat → Bool, cap (fun v => !S v) = cap S
theorem cuts_ex {cap : (Nat → Bool) → Nat} (sub : ∀ S T : Nat → Bool, cap (fun v => S v && T v) + cap (fun v => S v || T v) ≤ cap S + cap T) (sym : ∀ S : Nat → Bool, cap (fun v => !S v) = cap S) : ∃ f, Cuts cap f := by
  have h : ∀ p : Nat × Nat, ∃ m, p.1 ≠ p.2 → LeastC cap p.1 p.2 m := fun p => by
    by_cases e : p.1 = p.2
    · exact ⟨0, fun h => absurd e h⟩
    · obtain ⟨m, hm⟩ := leastC_ex cap e
      exact ⟨m, fun _ => hm⟩
  refine ⟨fun a b => (h (a, b)).choose, fun a b hab => (h (a, b)).choose_spec hab, sub, fun S T => ?_, sym⟩
  have h1 := sub S (fun v => !T v)
  have h2 := sym T
  have h3 := sym (fun v => T v && !S v)
  have e : (fun v => S v || !T v) = (fun v => !(T v && !S v)) := by funext v; cases S v <;> cases T v <;> rfl
  simp only [e] at h1
  rw [h2, h3] at h1
  exact h1

section
variable {cap : (Nat → Bool) → Nat} {f : Nat → Nat → Nat}
theorem Cuts.le (h : Cuts cap f) {S : Nat → Bool} {a b : Nat} (ha : S a = true) (hb : S b = false) : f a b ≤ cap S :=
  (h.least a b (fun e => by rw [e, hb] at ha; cases ha)).2 S ha hb
theorem Cuts.symm (h : Cuts cap f) {a b : Nat} (hne : a ≠ b) : f a b = f b a := by
  have key : ∀ {a b : Nat}, a ≠ b → f a b ≤ f b a := fun {a b} hne => by
    obtain ⟨⟨S, s1, s2, s3⟩, -⟩ := h.least b a (Ne.symm hne)
    have := h.le (S := fun v => !S v) (a := a) (b := b) (by simp [s2]) (by simp [s1])
    rw [h.sym] at this
    omega
  have := key hne
  have := key (Ne.symm hne)
  omega
theorem Cuts.tri (h : Cuts cap f) {a b : Nat} (z : Nat) (hab : a ≠ b) : f a z ≤ f a b ∨ f z b ≤ f a b := by
  obtain ⟨⟨S, s1, s2, s3⟩, -⟩ := h.least a b hab
  cases e : S z with
  | false => left; have := h.le s1 e; omega
  | true => right; have := h.le e s2; omega
end

/-- p lies on the way up from a. -/
inductive Anc (up : Nat → Nat) : Nat → Nat → Prop
  | refl (a : Nat) : Anc up a a
  | step {p a : Nat} : 0 < a → Anc up p (up a) → Anc up p a
section
variable {up : Nat → Nat}
theorem Anc.trans {p q a : Nat} (h : Anc up p q) (k : Anc up q a) : Anc up p a := by
  induction k with
  | refl => exact h
  | step h0 _ ih => exact .step h0 ih
theorem Anc.cases' {p a : Nat} (h : Anc up p a) : p = a ∨ (0 < a ∧ Anc up p (up a)) := by
  cases h with
  | refl => exact Or.inl rfl
  | step h0 h => exact Or.inr ⟨h0, h⟩
theorem Anc.le {n p a : Nat} (hup : ∀ v, 0 < v → v < n → up v < v) (h : Anc up p a) (ha : a < n) : p ≤ a := by
  induction h with
  | refl => exact Nat.le_refl _
  | step h0 _ ih => have := hup _ h0 ha; have := ih (by omega); omega
end

/-- Where the ways up from t and from u part: the later branch is c. -/
theorem anc_split {up : Nat → Nat} {n : Nat} (hup : ∀ v, 0 < v → v < n → up v < v) : ∀ k t u, t + u = k → t < n → u < n → t ≠ u →
    ∃ c, 0 < c ∧ c < n ∧ ((Anc up c u ∧ (t = up c ∨ ∃ c', c < c' ∧ c' < n ∧ up c' = up c ∧ Anc up c' t)) ∨ (Anc up c t ∧ (u = up c ∨ ∃ c', c < c' ∧ c' < n ∧ up c' = up c ∧ Anc up c' u))) := by
  intro k
  induction k using Nat.strongRecOn with
  | ind k ih =>
    have one : ∀ t u, t + u = k → t < n → u < n → t < u → ∃ c, 0 < c ∧ c < n ∧ ((Anc up c u ∧ (t = up c ∨ ∃ c', c < c' ∧ c' < n ∧ up c' = up c ∧ Anc up c' t)) ∨ (Anc up c t ∧ (u = up c ∨ ∃ c', c < c' ∧ c' < n ∧ up c' = up c ∧ Anc up c' u))) := by
      intro t u hk ht hu hlt
      have h0 : 0 < u := by omega
      have h1 := hup u h0 hu
      by_cases e : t = up u
      · exact ⟨u, h0, hu, Or.inl ⟨.refl u, Or.inl e⟩⟩
      · obtain ⟨c, c0, cn, h | ⟨h, h2⟩⟩ := ih (t + up u) (by omega) t (up u) rfl ht (by omega) e
        · exact ⟨c, c0, cn, Or.inl ⟨.step h0 h.1, h.2⟩⟩
        · rcases h2 with h2 | ⟨c', h2, h3, h4, h5⟩
          · have := h.le hup ht
            exact ⟨c, c0, cn, Or.inr ⟨h, Or.inr ⟨u, by omega, hu, h2, .refl u⟩⟩⟩
          · exact ⟨c, c0, cn, Or.inr ⟨h, Or.inr ⟨c', h2, h3, h4, .step h0 h5⟩⟩⟩
    intro t u hk ht hu hne
    rcases Nat.lt_or_gt_of_ne hne with h | h
    · exact one t u hk ht hu h
    · obtain ⟨c, c0, cn, h | h⟩ := one u t (by omega) hu ht h
      · exact ⟨c, c0, cn, Or.inr h⟩
      · exact ⟨c, c0, cn, Or.inl h⟩

/-- The node at which a node hangs: itself once it has been looked at. -/
def headG (up : Nat → Nat) (i x : Nat) : Nat := if x < i then x else up x

/-- The tree under way: nodes below i have been looked at. -/
structure Gus (cap : (Nat → Bool) → Nat) (f : Nat → Nat → Nat) (n i : Nat) (up cut : Nat → Nat) (S : Nat → Nat → Bool) : Prop where
  pos : 0 < i
  up_lt : ∀ v, 0 < v → v < n → up v < v
  up_hd : ∀ v, 0 < v → v < n → up v < i
  val : ∀ c, 0 < c → c < i → cut c = f c (up c)
  capS : ∀ c, 0 < c → c < i → cap (S c) = cut c
  outS : ∀ c, 0 < c → c < i → S c (up c) = false
  j1 : ∀ c z, 0 < c → c < i → z < n → Anc up c z → S c z = true
  j2 : ∀ c c' z, 0 < c → c < i → c < c' → c' < n → z < n → up c' = up c → Anc up c' z → S c z = false
  i1 : ∀ p q, q < p → p < i → q ≠ up p → f p q = min (cut p) (f (up p) q)
  i2 : ∀ x y, x < n → y < n → headG up i x ≠ headG up i y → f x y ≤ f (headG up i x) (headG up i y)

section
variable {cap : (Nat → Bool) → Nat} {f : Nat → Nat → Nat} {n i : Nat} {up cut : Nat → Nat} {S : Nat → Nat → Bool}

theorem Gus.start (n : Nat) (cut : Nat → Nat) (S : Nat → Nat → Bool) : Gus cap f n 1 (fun _ => 0) cut S where
  pos := Nat.one_pos
  up_lt v h _ := h
  up_hd _ _ _ := Nat.one_pos
  val c h1 h2 := by omega
  capS c h1 h2 := by omega
  outS c h1 h2 := by omega
  j1 c z h1 h2 := by omega
  j2 c c' z h1 h2 := by omega
  i1 p q h1 h2 := by omega
  i2 x y _ _ h := by
    refine absurd ?_ h
    have e : ∀ z, headG (fun _ => 0) 1 z = 0 := fun z => by
      unfold headG
      by_cases e : z < 1
      · rw [if_pos e]; omega
      · rw [if_neg e]
    rw [e, e]

section
variable (h : Gus cap f n i up cut S)
include h
theorem Gus.hd_anc (x : Nat) : Anc up (headG up i x) x := by
  have := h.pos
  unfold headG
  by_cases e : x < i
  · rw [if_pos e]; exact .refl x
  · rw [if_neg e]; exact .step (by omega) (.refl _)
theorem Gus.hd_lt {x : Nat} (hx : x < n) (hi : i ≤ n) : headG up i x < n ∧ headG up i x < i := by
  have := h.pos
  unfold headG
  by_cases e : x < i
  · rw [if_pos e]; omega
  · rw [if_neg e]
    have := h.up_hd x (by omega) hx
    omega
theorem Gus.far_a (hc : Cuts cap f) : ∀ k t u c, t + u = k → t < i → u < i → i ≤ n → Anc up c u → ¬ Anc up c t → f t u ≤ f t c := by
  intro k
  induction k using Nat.strongRecOn with
  | ind k ih =>
    intro t u c hk ht hu hin hcu hct
    have hne : t ≠ u := fun e => hct (e ▸ hcu)
    have htc : t ≠ c := fun e => hct (by rw [e]; exact .refl c)
    rcases hcu.cases' with rfl | ⟨u0, hcu'⟩
    · exact Nat.le_refl _
    have hcle := hcu'.le h.up_lt (show up u < n by have := h.up_lt u u0 (by omega); omega)
    have hul := h.up_lt u u0 (by omega)
    rcases Nat.lt_or_gt_of_ne hne with hlt | hlt
    · have e : t ≠ up u := fun e => hct (e ▸ hcu')
      have h1 := h.i1 u t hlt hu e
      have h2 := ih (t + up u) (by omega) t (up u) c rfl ht (by omega) hin hcu' hct
      rw [hc.symm hne, h1]
      rw [hc.symm e] at h2
      omega
    · have t0 : 0 < t := by omega
      have htl := h.up_lt t t0 (by omega)
      have hct' : ¬ Anc up c (up t) := fun k => hct (.step t0 k)
      have e : u ≠ up t := fun e => hct' (e ▸ .step u0 hcu')
      have e' : c ≠ up t := fun e => hct' (by rw [← e]; exact .refl c)
      have h1 := h.i1 t u hlt ht e
      have h2 := h.i1 t c (by omega) ht e'
      have h3 := ih (up t + u) (by omega) (up t) u c rfl (by omega) hu hin (.step u0 hcu') hct'
      omega
theorem Gus.far_b (hc : Cuts cap f) : ∀ k t u c, t + u = k → t < i → u < i → i ≤ n → 0 < c → Anc up c t → ¬ Anc up c u → u ≠ up c → f t u ≤ f t (up c) := by
  intro k
  induction k using Nat.strongRecOn with
  | ind k ih =>
    intro t u c hk ht hu hin c0 hct hcu huc
    have hne : t ≠ u := fun e => hcu (e ▸ hct)
    have hle := hct.le h.up_lt (show t < n by omega)
    have hcl := h.up_lt c c0 (by omega)
    have t0 : 0 < t := by omega
    rcases Nat.lt_or_gt_of_ne hne with hlt | hlt
    · have u0 : 0 < u := by omega
      have hul := h.up_lt u u0 (by omega)
      have hcu' : ¬ Anc up c (up u) := fun k => hcu (.step u0 k)
      have e : t ≠ up u := fun e => hcu' (e ▸ hct)
      have h1 := h.i1 u t hlt hu e
      rw [hc.symm hne, h1]
      by_cases e2 : up u = up c
      · rw [e2, hc.symm (show t ≠ up c by omega)]; omega
      · have h2 := ih (t + up u) (by omega) t (up u) c rfl ht (by omega) hin c0 hct hcu' e2
        rw [hc.symm e] at h2
        omega
    · rcases hct.cases' with rfl | ⟨-, hct'⟩
      · have h1 := h.i1 c u hlt ht huc
        have h2 := h.val c c0 ht
        omega
      · have htl := h.up_lt t t0 (by omega)
        have hle' := hct'.le h.up_lt (show up t < n by omega)
        have e : u ≠ up t := fun e => hcu (e ▸ hct')
        have h1 := h.i1 t u hlt ht e
        have h2 := h.i1 t (up c) (by omega) ht (by omega)
        have h3 := ih (up t + u) (by omega) (up t) u c rfl (by omega) hu hin c0 hct' hcu huc
        omega
end

/-- The least cut that parts v from where it hangs holds what goes between any two that it parts so. -/
theorem Gus.main (h : Gus cap f n i up cut S) (hc : Cuts cap f) (hin : i < n) {T : Nat → Bool} (hT : T i = true) (hTt : T (up i) = false) (hcap : cap T = f i (up i)) {x y : Nat} (hx : x < n) (hy : y < n) (hrx : headG up i x = up i) (hTx : T x = true) (hry : headG up i y ≠ up i) : f x y ≤ f i (up i) := by
  rw [← hcap]
  cases hTy : T y with
  | false => exact hc.le hTx hTy
  | true =>
    have hxy : x ≠ y := fun e => hry (e ▸ hrx)
    have h2 := h.i2 x y hx hy (by rw [hrx]; exact Ne.symm hry)
    rw [hrx] at h2
    obtain ⟨hu1, hu2⟩ := h.hd_lt hy (Nat.le_of_lt hin)
    obtain ⟨ht1, ht2⟩ := h.hd_lt hx (Nat.le_of_lt hin)
    have ax := h.hd_anc x
    have ay := h.hd_anc y
    rw [hrx] at ht1 ht2 ax
    have hyu : y ≠ headG up i y → ¬ y < i ∧ headG up i y = up y := fun e => by
      unfold headG at e ⊢
      by_cases k : y < i
      · rw [if_pos k] at e; exact absurd rfl e
      · rw [if_neg k]; exact ⟨k, rfl⟩
    have hxt : ¬ x < i ∧ up x = up i := by
      unfold headG at hrx
      by_cases k : x < i
      · rw [if_pos k] at hrx; rw [hrx, hTt] at hTx; cases hTx
      · rw [if_neg k] at hrx; exact ⟨k, hrx⟩
    generalize headG up i y = u at *
    generalize ht : up i = t at *
    cases hTu : T u with
    | true =>
      have := hc.le hTu hTt
      rw [hc.symm hry] at this
      omega
    | false =>
      have hyu' := hyu (fun e => by rw [e, hTu] at hTy; cases hTy)
      obtain ⟨c, c0, cn, hs⟩ := anc_split (n := i) (fun v h0 hv => h.up_lt v h0 (by omega)) _ t u rfl ht2 hu2 (Ne.symm hry)
      rcases hs with ⟨hcu, htc⟩ | ⟨hct, huc⟩
      · have sy := h.j1 c y c0 cn hy (hcu.trans ay)
        have sx : S c x = false := by
          rcases htc with e | ⟨c', h1, h3, h4, h5⟩
          · exact h.j2 c x x c0 cn (by omega) hx hx (by rw [hxt.2, e]) (.refl x)
          · exact h.j2 c c' x c0 cn h1 (by omega) hx h4 (h5.trans ax)
        have nct : ¬ Anc up c t := fun k => by
          have := h.j1 c x c0 cn hx (k.trans ax)
          rw [sx] at this; cases this
        cases hTc : T c with
        | true =>
          have h3 := h.far_a hc _ t u c rfl ht2 hu2 (Nat.le_of_lt hin) hcu nct
          have h4 := hc.le hTc hTt
          rw [hc.symm (show c ≠ t from fun e => by rw [e, hTt] at hTc; cases hTc)] at h4
          omega
        | false =>
          have h3 := hc.pos (S c) T
          have h4 := hc.le (S := fun v => S c v && !T v) (a := c) (b := up c) (by simp [hTc, h.j1 c c c0 cn (by omega) (.refl c)]) (by simp [h.outS c c0 cn])
          have h5 := h.capS c c0 cn
          have h6 := h.val c c0 cn
          have h7 := hc.le (S := fun v => T v && !S c v) (a := x) (b := y) (by simp [hTx, sx]) (by simp [sy])
          omega
      · have sx := h.j1 c x c0 cn hx (hct.trans ax)
        have sy : S c y = false := by
          rcases huc with e | ⟨c', h1, h3, h4, h5⟩
          · exact h.j2 c y y c0 cn (by omega) hy hy (by rw [← hyu'.2, e]) (.refl y)
          · exact h.j2 c c' y c0 cn h1 (by omega) hy h4 (h5.trans ay)
        have ncu : ¬ Anc up c u := fun k => by
          have := h.j1 c y c0 cn hy (k.trans ay)
          rw [sy] at this; cases this
        cases hTc : T (up c) with
        | true =>
          have h3 := h.far_b hc _ t u c rfl ht2 hu2 (Nat.le_of_lt hin) c0 hct ncu (fun e => by rw [← e, hTu] at hTc; cases hTc)
          have h4 := hc.le hTc hTt
          rw [hc.symm (show up c ≠ t from fun e => by rw [e, hTt] at hTc; cases hTc)] at h4
          omega
        | false =>
          have h3 := hc.sub (S c) T
          have h4 := hc.le (S := fun v => S c v || T v) (a := c) (b := up c) (by simp [h.j1 c c c0 cn (by omega) (.refl c)]) (by simp [h.outS c c0 cn, hTc])
          have h5 := h.capS c c0 cn
          have h6 := h.val c c0 cn
          have h7 := hc.le (S := fun v => S c v && T v) (a := x) (b := y) (by simp [hTx, sx]) (by simp [sy])
          omega

/-- Those that hang where i hangs and lie on its side hang at i now. -/
def upG (up : Nat → Nat) (n i : Nat) (T : Nat → Bool) (w : Nat) : Nat := if i < w ∧ w < n ∧ T w = true ∧ up w = up i then i else up w

theorem Gus.next (h : Gus cap f n i up cut S) (hc : Cuts cap f) (hin : i < n) {T : Nat → Bool} (hT : T i = true) (hTt : T (up i) = false) (hcap : cap T = f i (up i)) :
    Gus cap f n (i + 1) (upG up n i T) (fun c => if c = i then f i (up i) else cut c) (fun c => if c = i then T else S c) := by
  have hlow : ∀ p, p ≤ i → upG up n i T p = up p := fun p hp => by
    unfold upG
    rw [if_neg (by omega)]
  have hi0 := h.pos
  have hti := h.up_lt i hi0 hin
  have hmv : ∀ w, (i < w ∧ w < n ∧ T w = true ∧ up w = up i) → upG up n i T w = i := fun w hw => if_pos hw
  have hnm : ∀ w, ¬ (i < w ∧ w < n ∧ T w = true ∧ up w = up i) → upG up n i T w = up w := fun w hw => if_neg hw
  have a1 : ∀ c p, Anc (upG up n i T) c p → p ≤ i → Anc up c p := by
    intro c p hA
    induction hA with
    | refl => intro _; exact .refl _
    | step h0 _ ih =>
      intro hp
      rw [hlow _ hp] at ih
      have := h.up_lt _ h0 (by omega)
      exact .step h0 (ih (by omega))
  have a2 : ∀ c z, z < n → Anc (upG up n i T) c z → (c = i ∧ i < z ∧ T z = true ∧ up z = up i) ∨ Anc up c z := by
    intro c z hz hA
    rcases hA.cases' with rfl | ⟨z0, hA⟩
    · exact Or.inr (.refl _)
    · by_cases m : i < z ∧ z < n ∧ T z = true ∧ up z = up i
      · rw [hmv z m] at hA
        rcases (a1 c i hA (Nat.le_refl _)).cases' with e | ⟨-, hA'⟩
        · exact Or.inl ⟨e, m.1, m.2.2⟩
        · exact Or.inr (.step z0 (by rw [m.2.2.2]; exact hA'))
      · rw [hnm z m] at hA
        have := h.up_hd z z0 hz
        exact Or.inr (.step z0 (a1 c _ hA (by omega)))
  have hno : ∀ z, z < n → Anc up i z → z = i := fun z hz hA => by
    rcases hA.cases' with e | ⟨z0, hA⟩
    · exact e.symm
    · have h1 := h.up_hd z z0 hz
      have := hA.le h.up_lt (by omega)
      omega
  have hmain : ∀ x y, x < n → y < n → headG up i x = up i → T x = true → headG up i y ≠ up i → f x y ≤ f i (up i) := fun x y hx hy h1 h2 h3 => h.main hc hin hT hTt hcap hx hy h1 h2 h3
  have hdi : headG up i i = up i := if_neg (by omega)
  have hdl : ∀ q, q < i → headG up i q = q := fun q hq => if_pos hq
  refine ⟨by omega, fun v h0 hv => ?_, fun v h0 hv => ?_, fun c c0 hci => ?_, fun c c0 hci => ?_, fun c c0 hci => ?_, fun c z c0 hci hz hA => ?_, fun c c' z c0 hci hcc hc' hz he hA => ?_, fun p q hq hp hne => ?_, fun x y hx hy hne => ?_⟩
  · by_cases m : i < v ∧ v < n ∧ T v = true ∧ up v = up i
    · rw [hmv v m]; omega
    · rw [hnm v m]; exact h.up_lt v h0 hv
  · by_cases m : i < v ∧ v < n ∧ T v = true ∧ up v = up i
    · rw [hmv v m]; omega
    · rw [hnm v m]; have := h.up_hd v h0 hv; omega
  · rw [hlow c (by omega)]
    by_cases e : c = i
    · rw [if_pos e, e]
    · rw [if_neg e]; exact h.val c c0 (by omega)
  · by_cases e : c = i
    · simp only [if_pos e]; exact hcap
    · simp only [if_neg e]; exact h.capS c c0 (by omega)
  · rw [hlow c (by omega)]
    by_cases e : c = i
    · simp only [if_pos e]; rw [e]; exact hTt
    · simp only [if_neg e]; exact h.outS c c0 (by omega)
  · by_cases e : c = i
    · simp only [if_pos e]
      rcases a2 c z hz hA with ⟨-, -, hTz, -⟩ | hA
      · exact hTz
      · rw [e] at hA
        rw [hno z hz hA]; exact hT
    · simp only [if_neg e]
      rcases a2 c z hz hA with ⟨h1, -⟩ | hA
      · exact absurd h1 e
      · exact h.j1 c z c0 (by omega) hz hA
  · by_cases m : i < c' ∧ c' < n ∧ T c' = true ∧ up c' = up i
    · exfalso
      rw [hmv c' m, hlow c (by omega)] at he
      have := h.up_lt c c0 (by omega)
      omega
    · rw [hnm c' m, hlow c (by omega)] at he
      by_cases e : c = i
      · simp only [if_pos e]
        subst e
        have hTc : T c' = false := by
          cases k : T c' with
          | false => rfl
          | true => exact absurd ⟨hcc, hc', k, he⟩ m
        rcases a2 c' z hz hA with ⟨h1, -⟩ | hA
        · omega
        · rcases hA.cases' with e | ⟨z0, hA⟩
          · rw [← e]; exact hTc
          · have h1 := h.up_hd z z0 hz
            have := hA.le h.up_lt (by omega)
            omega
      · simp only [if_neg e]
        rcases a2 c' z hz hA with ⟨h1, h2, -, h3⟩ | hA
        · subst h1
          exact h.j2 c z z c0 (by omega) (by omega) hz hz (by rw [h3, he]) (.refl z)
        · exact h.j2 c c' z c0 (by omega) hcc hc' hz he hA
  · rw [hlow p (by omega)] at hne ⊢
    by_cases e : p = i
    · rw [if_pos e]
      subst e
      have h1 := hmain p q hin (by omega) hdi hT (by rw [hdl q hq]; exact hne)
      have h2 := h.i2 p q hin (by omega) (by rw [hdi, hdl q hq]; exact Ne.symm hne)
      rw [hdi, hdl q hq] at h2
      have h3 := hc.tri (a := p) (b := q) (up p) (by omega)
      omega
    · rw [if_neg e]; exact h.i1 p q hq (by omega) hne
  · have hh : ∀ z, z < n → (headG (upG up n i T) (i + 1) z = i ∧ headG up i z = up i ∧ T z = true) ∨ (headG (upG up n i T) (i + 1) z = headG up i z ∧ (headG up i z = up i → T z = false)) := fun z hz => by
      by_cases e1 : z < i
      · right
        unfold headG
        rw [if_pos e1, if_pos (by omega)]
        exact ⟨rfl, fun e => by rw [e]; exact hTt⟩
      · by_cases e2 : z = i
        · left
          subst e2
          exact ⟨if_pos (by omega), hdi, hT⟩
        · by_cases m : i < z ∧ z < n ∧ T z = true ∧ up z = up i
          · left
            unfold headG
            rw [if_neg e1, if_neg (by omega)]
            exact ⟨hmv z m, m.2.2.2, m.2.2.1⟩
          · right
            unfold headG
            rw [if_neg e1, if_neg (by omega)]
            refine ⟨hnm z m, fun e => ?_⟩
            cases k : T z with
            | false => rfl
            | true => exact absurd ⟨by omega, hz, k, e⟩ m
    have one : ∀ x y, x < n → y < n → headG (upG up n i T) (i + 1) x = i → headG up i x = up i → T x = true → headG (upG up n i T) (i + 1) y = headG up i y → (headG up i y = up i → T y = false) → f x y ≤ f i (headG up i y) := fun x y hx hy _ h2 h3 _ h5 => by
      by_cases e : headG up i y = up i
      · rw [e, ← hcap]; exact hc.le h3 (h5 e)
      · have g1 := hmain x y hx hy h2 h3 e
        have g2 := h.i2 x y hx hy (by rw [h2]; exact Ne.symm e)
        rw [h2] at g2
        have g3 := (h.hd_lt hy (Nat.le_of_lt hin)).2
        have g4 := hc.tri (a := i) (b := headG up i y) (up i) (by omega)
        omega
    rcases hh x hx with ⟨x1, x2, x3⟩ | ⟨x1, x2⟩ <;> rcases hh y hy with ⟨y1, y2, y3⟩ | ⟨y1, y2⟩
    · exact absurd (x1.trans y1.symm) hne
    · rw [x1, y1]; exact one x y hx hy x1 x2 x3 y1 y2
    · have g := one y x hy hx y1 y2 y3 x1 x2
      have hxy : x ≠ y := fun e => hne (by rw [e])
      rw [x1, y1] at hne
      rw [x1, y1, hc.symm hxy, hc.symm hne]
      exact g
    · rw [x1, y1] at hne ⊢
      exact h.i2 x y hx hy hne

/-- In the end: what goes between two nodes is the least along the way between them. -/
theorem Gus.way (h : Gus cap f n n up cut S) (hc : Cuts cap f) (m : Nat) : ∀ k a b, a + b = k → a < n → b < n → a ≠ b → (m ≤ f a b ↔ ∀ p, 0 < p → ((Anc up p a ∧ ¬ Anc up p b) ∨ (Anc up p b ∧ ¬ Anc up p a)) → m ≤ cut p) := by
  intro k
  induction k using Nat.strongRecOn with
  | ind k ih =>
    have one : ∀ a b, a + b = k → a < n → b < n → b < a → (m ≤ f a b ↔ ∀ p, 0 < p → ((Anc up p a ∧ ¬ Anc up p b) ∨ (Anc up p b ∧ ¬ Anc up p a)) → m ≤ cut p) := by
      intro a b hk ha hb hlt
      have a0 : 0 < a := by omega
      have hua := h.up_lt a a0 ha
      have hab : ¬ Anc up a b := fun k => by have := k.le h.up_lt hb; omega
      have hself : ∀ p, Anc up p a ↔ p = a ∨ Anc up p (up a) := fun p => ⟨fun k => by
        rcases k.cases' with e | ⟨-, k⟩
        · exact Or.inl e
        · exact Or.inr k, fun k => by
        rcases k with rfl | k
        · exact .refl _
        · exact .step a0 k⟩
      by_cases e : b = up a
      · rw [e, ← h.val a a0 ha]
        constructor
        · intro hm p p0 hp
          rcases hp with ⟨h1, h2⟩ | ⟨h1, h2⟩
          · rcases (hself p).1 h1 with rfl | h1
            · exact hm
            · exact absurd h1 h2
          · exact absurd ((hself p).2 (Or.inr h1)) h2
        · intro hall
          exact hall a a0 (Or.inl ⟨.refl a, fun k => by have := k.le h.up_lt (show up a < n by omega); omega⟩)
      · rw [h.i1 a b hlt ha e]
        have hi := ih (up a + b) (by omega) (up a) b rfl (by omega) hb (Ne.symm e)
        constructor
        · intro hm p p0 hp
          have hm1 : m ≤ f (up a) b := by omega
          rcases hp with ⟨h1, h2⟩ | ⟨h1, h2⟩
          · rcases (hself p).1 h1 with rfl | h1
            · omega
            · exact hi.1 hm1 p p0 (Or.inl ⟨h1, h2⟩)
          · exact hi.1 hm1 p p0 (Or.inr ⟨h1, fun k => h2 ((hself p).2 (Or.inr k))⟩)
        · intro hall
          have h1 := hall a a0 (Or.inl ⟨.refl a, hab⟩)
          have h2 := hi.2 fun p p0 hp => by
            rcases hp with ⟨g1, g2⟩ | ⟨g1, g2⟩
            · exact hall p p0 (Or.inl ⟨(hself p).2 (Or.inr g1), g2⟩)
            · refine hall p p0 (Or.inr ⟨g1, fun k => ?_⟩)
              rcases (hself p).1 k with rfl | k
              · exact hab g1
              · exact g2 k
          omega
    intro a b hk ha hb hne
    rcases Nat.lt_or_gt_of_ne hne with hlt | hlt
    · rw [hc.symm hne]
      rw [one b a (by omega) hb ha hlt]
      constructor
      · intro hall p p0 hp; exact hall p p0 hp.symm
      · intro hall p p0 hp; exact hall p p0 hp.symm
    · exact one a b hk ha hb hlt

end

end Go.Proofs.Ytfflnpcbpcldeaa
namespace Go.Proofs.Ytfflnpcbpcldeaa

/-- What the first k edges hold that lead from S to what is not S. -/
def capE (l : List (Int × Int)) (ws : List Int) (S : Nat → Bool) : Nat → Nat
  | 0 => 0
  | k + 1 => capE l ws S k + (if S (l.getD k (0, 0)).1.toNat = S (l.getD k (0, 0)).2.toNat then 0 else (ws.getD k 0).toNat)
/-- What a cut holds. -/
abbrev capG (l : List (Int × Int)) (ws : List Int) (S : Nat → Bool) : Nat := capE l ws S l.length

theorem capE_sub (l : List (Int × Int)) (ws : List Int) (S T : Nat → Bool) : ∀ k, capE l ws (fun v => S v && T v) k + capE l ws (fun v => S v || T v) k ≤ capE l ws S k + capE l ws T k
  | 0 => Nat.le_refl _
  | k + 1 => by
    have h := capE_sub l ws S T k
    simp only [capE]
    generalize (l.getD k (0, 0)).1.toNat = a
    generalize (l.getD k (0, 0)).2.toNat = b
    generalize (ws.getD k 0).toNat = z
    rcases Bool.eq_false_or_eq_true (S a) with e1 | e1 <;> rcases Bool.eq_false_or_eq_true (S b) with e2 | e2 <;> rcases Bool.eq_false_or_eq_true (T a) with e3 | e3 <;> rcases Bool.eq_false_or_eq_true (T b) with e4 | e4 <;> simp [e1, e2, e3, e4] <;> omega
theorem capE_not (l : List (Int × Int)) (ws : List Int) (S : Nat → Bool) : ∀ k, capE l ws (fun v => !S v) k = capE l ws S k
  | 0 => rfl
  | k + 1 => by
    simp only [capE]
    rw [capE_not l ws S k]
    generalize (l.getD k (0, 0)).1.toNat = a
    generalize (l.getD k (0, 0)).2.toNat = b
    rcases Bool.eq_false_or_eq_true (S a) with e1 | e1 <;> rcases Bool.eq_false_or_eq_true (S b) with e2 | e2 <;> simp [e1, e2]
theorem capE_congr {l : List (Int × Int)} {ws : List Int} {N : Nat} {S T : Nat → Bool} (hok : ∀ j, j < l.length → EndsOk N (l.getD j (0, 0))) (h : ∀ v, v < N → S v = T v) : ∀ k, k ≤ l.length → capE l ws S k = capE l ws T k
  | 0, _ => rfl
  | k + 1, hk => by
    obtain ⟨a1, a2, a3, a4⟩ := hok k (by omega)
    simp only [capE]
    rw [capE_congr hok h k (by omega), h _ (by omega), h _ (by omega)]
theorem capE_few' {l : List (Int × Int)} {ws : List Int} {C : Nat} (hz : ∀ j, j < l.length → (ws.getD j 0).toNat ≤ C) (S : Nat → Bool) : ∀ k, k ≤ l.length → capE l ws S k ≤ k * C := by
  intro k
  induction k with
  | zero => intro _; exact Nat.zero_le _
  | succ k ih =>
    intro hk
    have h := ih (by omega)
    have h2 := hz k (by omega)
    rw [Nat.succ_mul]
    simp only [capE]
    split <;> omega
theorem capE_few {l : List (Int × Int)} {ws : List Int} (hz : ∀ j, j < l.length → 0 ≤ ws.getD j 0 ∧ ws.getD j 0 ≤ 1000000) (S : Nat → Bool) (k : Nat) (hk : k ≤ l.length) : capE l ws S k ≤ k * 1000000 :=
  capE_few' (fun j hj => by have := hz j hj; omega) S k hk

theorem capG_cuts (l : List (Int × Int)) (ws : List Int) : ∃ f, Cuts (capG l ws) f := cuts_ex (fun S T => capE_sub l ws S T _) (fun S => capE_not l ws S _)

/-- The cut of the arcs is that of the edges. -/
theorem cutL_both (l : List (Int × Int)) (ws : List Int) (n : Nat) (lev : Nat → Int) : ∀ k, k ≤ n → cutL (bothN l ws n) lev (2 * k) = (capE l ws (fun v => decide (0 ≤ lev v)) k : Int)
  | 0, _ => rfl
  | k + 1, hk => by
    have h := cutL_both l ws n lev k (by omega)
    obtain ⟨h1, h2⟩ := bothN_get l ws n k (by omega)
    rw [show 2 * (k + 1) = 2 * k + 1 + 1 by omega]
    unfold cutL at h ⊢
    rw [sumZ, sumZ, h]
    simp only [fromL, toL, capL]
    rw [h1, h2]
    simp only [capE]
    generalize (l.getD k (0, 0)).1.toNat = a
    generalize (l.getD k (0, 0)).2.toNat = b
    generalize (ws.getD k 0).toNat = z
    by_cases ha : 0 ≤ lev a <;> by_cases hb : 0 ≤ lev b <;> simp [ha, hb] <;> omega

theorem sumZ_mono {f g : Nat → Int} : ∀ {n}, (∀ k, k < n → f k ≤ g k) → sumZ f n ≤ sumZ g n
  | 0, _ => Int.le_refl _
  | n + 1, h => by
    have h1 := sumZ_mono (n := n) fun k hk => h k (by omega)
    have h2 := h n (by omega)
    rw [sumZ, sumZ]
    omega

/-- No cut holds less than what is sent. -/
theorem MostOk.weak {N : Nat} {l : List (Int × Int × Int)} {s t sum : Nat} {X : Nat → List Nat} {lev lev' : Nat → Int} (h : MostOk N (2 * l.length) l s t sum X lev) (hs : s < N) (h1 : 0 ≤ lev' s) (h2 : lev' t < 0) : (sum : Int) ≤ cutL l lev' l.length := by
  obtain ⟨hS, hl, ht⟩ := h
  have hto : ∀ i, toX X i = toX (netX l) i := fun i => by show (X 0).getD i 0 = _; rw [hS.same 0 (by omega)]
  have hcap : ∀ k, k < l.length → leftX X (2 * k) + leftX X (2 * k + 1) = capL l k := fun k hk => by
    have := hS.sums (2 * k) (by omega)
    rw [xor_one_even (i := 2 * k) rfl] at this
    rw [this, net_caps hk]
  have hM : 2 * l.length / 2 = l.length := by omega
  have hst : t ≠ s := fun e => by subst e; omega
  have e1 : sumZ (fun u => if 0 ≤ lev' u then outX (2 * l.length) X u else 0) N = sum := by
    rw [sumZ_only hs (fun u _ hne => by
      by_cases e : 0 ≤ lev' u
      · have hut : t ≠ u := fun e2 => by subst e2; omega
        rw [if_pos e, hS.out u, net_out0, if_neg (fun e2 => hne e2.symm), if_neg hut]; rfl
      · rw [if_neg e])]
    rw [if_pos h1, hS.out s, net_out0, if_pos rfl, if_neg hst]
    omega
  rw [← e1, sumZ_reached hS.ok, hM]
  refine sumZ_mono fun k hk => ?_
  obtain ⟨a1, a2, -⟩ := (net_whole l).arc k hk
  have hc := hcap k hk
  rw [hto, hto, a1, a2]
  show _ ≤ (if 0 ≤ lev' (fromL l k) ∧ lev' (toL l k) < 0 then (capL l k : Int) else 0)
  by_cases ra : 0 ≤ lev' (fromL l k) <;> by_cases rb : 0 ≤ lev' (toL l k)
  · rw [if_pos ra, if_pos rb, if_neg (by omega)]; omega
  · rw [if_pos ra, if_neg rb, if_pos (by omega)]; omega
  · rw [if_neg ra, if_pos rb, if_neg (by omega)]; omega
  · rw [if_neg ra, if_neg rb, if_neg (by omega)]; omega

/-- What most sends along edges is the least cut. -/
theorem MostOk.least {N : Nat} {l : List (Int × Int)} {ws : List Int} {s t sum : Nat} {X : Nat → List Nat} {lev : Nat → Int} (h : MostOk N (2 * (bothN l ws l.length).length) (bothN l ws l.length) s t sum X lev) (hs : s < N) :
    capG l ws (fun v => decide (0 ≤ lev v)) = sum ∧ LeastC (capG l ws) s t sum := by
  have hL := h.law hs
  have hn := bothN_length l ws l.length
  have hc : capG l ws (fun v => decide (0 ≤ lev v)) = sum := by
    have h1 := hL.cut
    rw [hn, cutL_both l ws _ lev _ (Nat.le_refl _)] at h1
    exact Int.ofNat.inj h1
  refine ⟨hc, ⟨_, decide_eq_true hL.src, decide_eq_false (by have := hL.snk; omega), hc⟩, fun S h1 h2 => ?_⟩
  have h3 := h.weak (lev' := fun v => if S v = true then 0 else -1) hs (by simp [h1]) (by simp [h2])
  rw [hn, cutL_both l ws _ _ _ (Nat.le_refl _)] at h3
  have e : (fun v => decide (0 ≤ (if S v = true then (0 : Int) else -1))) = S := by
    funext v
    cases S v <;> simp
  rw [e] at h3
  exact Int.ofNat_le.1 h3

end Go.Proofs.Ytfflnpcbpcldeaa
namespace Go.Proofs.Ytfflnpcbpcldeaa

/-- The arcs of the nodes: node v is v, where one comes in, and N + v, where one goes out. -/
def nodeN (N s t : Nat) : Nat → List (Int × Int × Int)
  | 0 => []
  | v + 1 => nodeN N s t v ++ [((v : Int), ((N + v : Nat) : Int), if v = s ∨ v = t then (N : Int) else 1)]
/-- And those of the first k edges, there and back. -/
def besN (N s t : Nat) (l : List (Int × Int)) : Nat → List (Int × Int × Int)
  | 0 => nodeN N s t N
  | k + 1 => besN N s t l k ++ [(((N : Int) + (l.getD k (0, 0)).1), (l.getD k (0, 0)).2, (N : Int)), (((N : Int) + (l.getD k (0, 0)).2), (l.getD k (0, 0)).1, (N : Int))]
theorem nodeN_length (N s t : Nat) : ∀ v, (nodeN N s t v).length = v
  | 0 => rfl
  | v + 1 => by rw [nodeN, List.length_append, nodeN_length N s t v]; simp
theorem besN_length (N s t : Nat) (l : List (Int × Int)) : ∀ k, (besN N s t l k).length = N + 2 * k
  | 0 => nodeN_length N s t N
  | k + 1 => by rw [besN, List.length_append, besN_length N s t l k]; simp; omega
theorem nodeN_get (N s t : Nat) : ∀ n v, v < n → (nodeN N s t n).getD v (0, 0, 0) = ((v : Int), ((N + v : Nat) : Int), if v = s ∨ v = t then (N : Int) else 1)
  | 0, v, h => absurd h (Nat.not_lt_zero _)
  | n + 1, v, h => by
    have hl := nodeN_length N s t n
    rw [nodeN]
    by_cases e : v = n
    · subst e
      rw [List.getD, List.getElem?_append_right (by omega), hl]; simp
    · have := nodeN_get N s t n v (by omega)
      rw [List.getD] at this
      rw [List.getD, List.getElem?_append_left (by omega)]; exact this
theorem besN_node (N s t : Nat) (l : List (Int × Int)) : ∀ k v, v < N → (besN N s t l k).getD v (0, 0, 0) = ((v : Int), ((N + v : Nat) : Int), if v = s ∨ v = t then (N : Int) else 1)
  | 0, v, h => nodeN_get N s t N v h
  | k + 1, v, h => by
    have := besN_node N s t l k v h
    have hl := besN_length N s t l k
    rw [List.getD] at this
    rw [besN, List.getD, List.getElem?_append_left (by omega)]; exact this
theorem besN_edge (N s t : Nat) (l : List (Int × Int)) : ∀ n k, k < n → (besN N s t l n).getD (N + 2 * k) (0, 0, 0) = (((N : Int) + (l.getD k (0, 0)).1), (l.getD k (0, 0)).2, (N : Int)) ∧ (besN N s t l n).getD (N + 2 * k + 1) (0, 0, 0) = (((N : Int) + (l.getD k (0, 0)).2), (l.getD k (0, 0)).1, (N : Int))
  | 0, k, h => absurd h (Nat.not_lt_zero _)
  | n + 1, k, h => by
    have hl := besN_length N s t l n
    rw [besN]
    by_cases e : k = n
    · subst e
      constructor
      · rw [List.getD, List.getElem?_append_right (by omega), hl]; simp
      · rw [List.getD, List.getElem?_append_right (by omega), hl, show N + 2 * k + 1 - (N + 2 * k) = 1 by omega]; rfl
    · obtain ⟨h1, h2⟩ := besN_edge N s t l n k (by omega)
      rw [List.getD] at h1 h2
      constructor
      · rw [List.getD, List.getElem?_append_left (by omega)]; exact h1
      · rw [List.getD, List.getElem?_append_left (by omega)]; exact h2

/-- The net of a graph. -/
abbrev besL (N s t : Nat) (l : List (Int × Int)) : List (Int × Int × Int) := besN N s t l l.length

section
variable {N s t : Nat} {l : List (Int × Int)}
theorem bes_ok (hN : N ≤ 100) (hok : ∀ j, j < l.length → EndsOk N (l.getD j (0, 0))) : ∀ j, j < (besL N s t l).length → ArcOk ((2 * N : Nat) : Int) ((besL N s t l).getD j (0, 0, 0)) := fun j hj => by
  rw [besN_length] at hj
  by_cases e : j < N
  · rw [besN_node N s t l _ j e]
    refine ⟨by show (0 : Int) ≤ (j : Int); omega, by show (j : Int) < _; omega, by show (0 : Int) ≤ ((N + j : Nat) : Int); omega, by show ((N + j : Nat) : Int) < _; omega, ?_, ?_⟩
    · show (0 : Int) ≤ if _ then _ else _
      split <;> omega
    · show (if _ then _ else _) ≤ (1000000 : Int)
      split <;> omega
  · obtain ⟨h1, h2⟩ := besN_edge N s t l l.length ((j - N) / 2) (by omega)
    obtain ⟨a1, a2, a3, a4⟩ := hok ((j - N) / 2) (by omega)
    rcases (show j = N + 2 * ((j - N) / 2) ∨ j = N + 2 * ((j - N) / 2) + 1 by omega) with e | e
    · rw [e, h1]
      exact ⟨by show 0 ≤ (N : Int) + _; omega, by show (N : Int) + _ < _; omega, a2, Int.lt_of_lt_of_le a4 (by omega), by show (0 : Int) ≤ (N : Int); omega, by show (N : Int) ≤ 1000000; omega⟩
    · rw [e, h2]
      exact ⟨by show 0 ≤ (N : Int) + _; omega, by show (N : Int) + _ < _; omega, a1, Int.lt_of_lt_of_le a3 (by omega), by show (0 : Int) ≤ (N : Int); omega, by show (N : Int) ≤ 1000000; omega⟩

/-- An arc that comes from an inner node is that node's own. -/
theorem bes_in (hok : ∀ j, j < l.length → EndsOk N (l.getD j (0, 0))) {k v : Nat} (hk : k < (besL N s t l).length) (hv : v < N) (hf : fromL (besL N s t l) k = v) : k = v ∧ toL (besL N s t l) k = N + v := by
  rw [besN_length] at hk
  unfold fromL at hf
  unfold toL
  by_cases e : k < N
  · rw [besN_node N s t l _ k e] at hf ⊢
    simp only [Int.toNat_natCast] at hf ⊢
    omega
  · obtain ⟨h1, h2⟩ := besN_edge N s t l l.length ((k - N) / 2) (by omega)
    obtain ⟨a1, a2, a3, a4⟩ := hok ((k - N) / 2) (by omega)
    rcases (show k = N + 2 * ((k - N) / 2) ∨ k = N + 2 * ((k - N) / 2) + 1 by omega) with e | e
    · rw [e, h1] at hf; simp only at hf; omega
    · rw [e, h2] at hf; simp only at hf; omega
/-- An arc that comes from an outer node is one of its edges. -/
theorem bes_out (hok : ∀ j, j < l.length → EndsOk N (l.getD j (0, 0))) {k v : Nat} (hk : k < (besL N s t l).length) (hf : fromL (besL N s t l) k = N + v) : N ≤ k ∧ toL (besL N s t l) k < N ∧ adj l v (toL (besL N s t l) k) = true := by
  rw [besN_length] at hk
  unfold fromL at hf
  unfold toL
  by_cases e : k < N
  · rw [besN_node N s t l _ k e] at hf
    simp only [Int.toNat_natCast] at hf
    omega
  · obtain ⟨h1, h2⟩ := besN_edge N s t l l.length ((k - N) / 2) (by omega)
    obtain ⟨a1, a2, a3, a4⟩ := hok ((k - N) / 2) (by omega)
    refine ⟨by omega, ?_⟩
    rcases (show k = N + 2 * ((k - N) / 2) ∨ k = N + 2 * ((k - N) / 2) + 1 by omega) with e | e
    · rw [e, h1] at hf ⊢
      simp only at hf ⊢
      refine ⟨by omega, hasE_yes (k := (k - N) / 2) (by omega) ?_⟩
      unfold Meets
      omega
    · rw [e, h2] at hf ⊢
      simp only at hf ⊢
      refine ⟨by omega, hasE_yes (k := (k - N) / 2) (by omega) ?_⟩
      unfold Meets
      omega

/-- The nodes of a way through the net. -/
def besV (N t : Nat) (P : List Nat) : List Nat := P.filterMap fun v => if N ≤ v then some (v - N) else if v = t then some v else none
theorem besV_snoc (N t : Nat) (P : List Nat) (v : Nat) : besV N t (P ++ [v]) = besV N t P ++ (if N ≤ v then [v - N] else if v = t then [v] else []) := by
  unfold besV
  rw [List.filterMap_append]
  congr 1
  by_cases e : N ≤ v
  · simp [e]
  · by_cases e2 : v = t
    · simp only [List.filterMap_cons, List.filterMap_nil, if_neg e, if_pos e2]
    · simp only [List.filterMap_cons, List.filterMap_nil, if_neg e, if_neg e2]
theorem take_snocN {L : List Nat} {i : Nat} (h : i < L.length) : L.take (i + 1) = L.take i ++ [L.getD i 0] := by
  rw [List.take_succ_eq_append_getElem h]
  simp [List.getD, h]

/-- The nodes so far: v is where the way stands. -/
structure BesI (N s t : Nat) (l : List (Int × Int)) (K : List Nat) (v : Nat) (q : List Nat) : Prop where
  ne : 0 < q.length
  head : q.getD 0 0 = s
  adj : ∀ j, j + 1 < q.length → adj l (q.getD j 0) (q.getD (j + 1) 0) = true
  inn : ∀ j, j < q.length → q.getD j 0 < N
  used : ∀ j, j < q.length → q.getD j 0 ≠ s → q.getD j 0 ≠ t → q.getD j 0 ∈ K
  out : N ≤ v → q.getD (q.length - 1) 0 = v - N
  fin : v < N → v = t → q.getD (q.length - 1) 0 = t ∧ 2 ≤ q.length
  mid : v < N → v ≠ t → Go.Proofs.Ytfflnpcbpcldeaa.adj l (q.getD (q.length - 1) 0) v = true
theorem BesI.app {K : List Nat} {v w x : Nat} {q : List Nat} (h : BesI N s t l K v q) (hx : x < N) (ha : Go.Proofs.Ytfflnpcbpcldeaa.adj l (q.getD (q.length - 1) 0) x = true) {K' : List Nat} (hK : ∀ y, y ∈ K → y ∈ K') (hu : x ≠ s → x ≠ t → x ∈ K') (hw : (N ≤ w ∧ x = w - N) ∨ (w < N ∧ w = t ∧ x = t)) : BesI N s t l K' w (q ++ [x]) := by
  have hne := h.ne
  have hlen : (q ++ [x]).length = q.length + 1 := by simp
  refine ⟨by omega, by rw [getD_app_lt hne]; exact h.head, fun j hj => ?_, fun j hj => ?_, fun j hj h1 h2 => ?_, fun hw2 => ?_, fun hw2 hw3 => ?_, fun hw2 hw3 => ?_⟩
  · rw [hlen] at hj
    rw [getD_app_lt (by omega)]
    by_cases e : j + 1 = q.length
    · rw [e, getD_app_eq, show j = q.length - 1 by omega]; exact ha
    · rw [getD_app_lt (by omega)]; exact h.adj j (by omega)
  · rw [hlen] at hj
    by_cases e : j = q.length
    · rw [e, getD_app_eq]; exact hx
    · rw [getD_app_lt (by omega)]; exact h.inn j (by omega)
  · rw [hlen] at hj
    by_cases e : j = q.length
    · rw [e, getD_app_eq] at h1 h2 ⊢; exact hu h1 h2
    · rw [getD_app_lt (by omega)] at h1 h2 ⊢; exact hK _ (h.used j (by omega) h1 h2)
  · rw [hlen, Nat.add_sub_cancel, getD_app_eq]; omega
  · rw [hlen, Nat.add_sub_cancel, getD_app_eq]; omega
  · omega

theorem bes_way (hok : ∀ j, j < l.length → EndsOk N (l.getD j (0, 0))) (htN : t < N) (hsN : s < N) {F0 F : Nat → Nat} {P K : List Nat} (h : Trail (besL N s t l) (besL N s t l).length (N + s) t F0 F P K) : ∀ i, i < P.length → BesI N s t l (K.take i) (P.getD i 0) (besV N t (P.take (i + 1))) := by
  intro i
  induction i with
  | zero =>
    intro hi
    have e : P.take (0 + 1) = [N + s] := by
      rw [take_snocN hi, h.head]; rfl
    rw [e, h.head]
    have e2 : besV N t [N + s] = [s] := by simp [besV]
    rw [e2]
    refine ⟨by simp, rfl, fun j hj => by simp at hj, fun j hj => ?_, fun j hj h1 _ => ?_, fun _ => ?_, fun h => by omega, fun h => by omega⟩
    · have : j = 0 := by simpa using hj
      subst this; exact hsN
    · have : j = 0 := by simpa using hj
      subst this; exact absurd rfl h1
    · show s = N + s - N
      omega
  | succ i ih =>
    intro hi
    have hl := h.len
    have hI := ih (by omega)
    obtain ⟨k1, k2, k3, k4⟩ := h.step i (by omega)
    rw [take_snocN hi, besV_snoc]
    have hKs : K.take (i + 1) = K.take i ++ [K.getD i 0] := take_snocN (by omega)
    have hK : ∀ y, y ∈ K.take i → y ∈ K.take (i + 1) := fun y hy => by rw [hKs]; exact List.mem_append_left _ hy
    by_cases hv : N ≤ P.getD i 0
    · have ho := hI.out hv
      obtain ⟨o1, o2, o3⟩ := bes_out hok k1 (v := P.getD i 0 - N) (by rw [k2]; omega)
      rw [k3] at o2 o3
      rw [if_neg (by omega)]
      by_cases e : P.getD (i + 1) 0 = t
      · rw [if_pos e]
        exact hI.app o2 (by rw [ho]; exact o3) hK (fun _ h2 => absurd e h2) (Or.inr ⟨o2, e, e⟩)
      · rw [if_neg e, List.append_nil]
        exact ⟨hI.ne, hI.head, hI.adj, hI.inn, fun j hj h1 h2 => hK _ (hI.used j hj h1 h2), fun h => by omega, fun _ h => absurd h e, fun _ _ => by rw [ho]; exact o3⟩
    · have hv' : P.getD i 0 < N := by omega
      have hm := hI.mid hv' k4
      obtain ⟨b1, b2⟩ := bes_in hok k1 hv' k2
      rw [k3] at b2
      rw [if_pos (by omega), show P.getD (i + 1) 0 - N = P.getD i 0 by omega]
      exact hI.app hv' hm hK (fun _ _ => by rw [hKs, b1]; exact List.mem_append_right _ (by simp)) (Or.inl ⟨by omega, by omega⟩)

/-- A way from s to t, no node twice. -/
structure WayP (l : List (Int × Int)) (N s t : Nat) (o : List Nat) : Prop where
  len : 2 ≤ o.length
  head : o.getD 0 0 = s
  last : o.getD (o.length - 1) 0 = t
  lt : ∀ j, j < o.length → o.getD j 0 < N
  adj : ∀ j, j + 1 < o.length → adj l (o.getD j 0) (o.getD (j + 1) 0) = true
  dif : ∀ i j, i < j → j < o.length → o.getD i 0 ≠ o.getD j 0

/-- What has been left of a way through the net is a way, and its inner nodes are the net's. -/
theorem way_of (hok : ∀ j, j < l.length → EndsOk N (l.getD j (0, 0))) (htN : t < N) (hsN : s < N) (hst : s ≠ t) {F0 F : Nat → Nat} {P K o : List Nat} (h : Trail (besL N s t l) (besL N s t l).length (N + s) t F0 F P K) (hend : P.getD K.length 0 = t) (ho : StrOk (besV N t P) (besV N t P).length o) :
    WayP l N s t o ∧ ∀ j, 0 < j → j + 1 < o.length → o.getD j 0 ∈ K ∧ o.getD j 0 ≠ s ∧ o.getD j 0 ≠ t := by
  have hl := h.len
  have hI := bes_way hok htN hsN h K.length (by omega)
  rw [hend, List.take_length, ← hl, List.take_length] at hI
  obtain ⟨f1, f2⟩ := hI.fin htN rfl
  have hk : 0 < (besV N t P).length := hI.ne
  have h1 := ho.head hk
  have h2 := ho.last hk
  have h3 := ho.some hk
  rw [hI.head] at h1
  rw [f1] at h2
  have hlen : 2 ≤ o.length := by
    rcases Nat.lt_or_ge 1 o.length with e | e
    · omega
    · have e1 : o.length - 1 = 0 := by omega
      rw [e1, h1] at h2
      exact absurd h2 hst
  have hmem : ∀ j, j < o.length → ∃ i, i < (besV N t P).length ∧ (besV N t P).getD i 0 = o.getD j 0 := fun j hj => by
    by_cases e : j + 1 < o.length
    · obtain ⟨i, i1, i2, -⟩ := ho.pair j e
      exact ⟨i, by omega, i2⟩
    · have : j = o.length - 1 := by omega
      subst this
      exact ⟨(besV N t P).length - 1, by omega, by rw [h2, f1]⟩
  refine ⟨⟨hlen, h1, h2, fun j hj => ?_, fun j hj => ?_, ho.dif⟩, fun j h0 hj => ?_⟩
  · obtain ⟨i, i1, i2⟩ := hmem j hj
    rw [← i2]; exact hI.inn i i1
  · obtain ⟨i, i1, i2, i3⟩ := ho.pair j hj
    rw [← i2, ← i3]; exact hI.adj i (by omega)
  · have n1 : o.getD j 0 ≠ s := fun e => ho.dif 0 j h0 (by omega) (by rw [h1, e])
    have n2 : o.getD j 0 ≠ t := fun e => ho.dif j (o.length - 1) (by omega) (by omega) (by rw [h2, e])
    obtain ⟨i, i1, i2⟩ := hmem j (by omega)
    refine ⟨?_, n1, n2⟩
    rw [← i2] at n1 n2 ⊢
    exact hI.used i i1 n1 n2
end

end Go.Proofs.Ytfflnpcbpcldeaa
namespace Go.Proofs.Ytfflnpcbpcldeaa

/-- What flows out of u less what flows in, where numbers may be below zero. -/
def outZ (l : List (Int × Int × Int)) (Z : Nat → Int) (u m : Nat) : Int := sumZ (fun k => (if fromL l k = u then Z k else 0) - (if toL l k = u then Z k else 0)) m
/-- d more along arc k. -/
def addZ (Z : Nat → Int) (k : Nat) (d : Int) : Nat → Int := fun q => if q = k then Z k + d else Z q
section
variable {l : List (Int × Int × Int)} {m : Nat}
theorem outZ_add (Z : Nat → Int) {k : Nat} (hk : k < m) (d : Int) (u : Nat) : outZ l (addZ Z k d) u m = outZ l Z u m + ((if fromL l k = u then d else 0) - (if toL l k = u then d else 0)) := by
  refine sumZ_one hk (fun q _ hne => ?_) ?_
  · simp only [addZ, if_neg hne]
  · simp only [addZ, if_true]
    by_cases e1 : fromL l k = u <;> by_cases e2 : toL l k = u <;> simp only [e1, e2, if_true, if_false] <;> omega
theorem outZ_congr {Z Y : Nat → Int} (u : Nat) (h : ∀ k, k < m → Z k = Y k) : outZ l Z u m = outZ l Y u m := sumZ_congr fun k hk => by rw [h k hk]
end
theorem sumZ_term {f : Nat → Int} {x : Nat} : ∀ {n}, (∀ k, k < n → 0 ≤ f k) → x < n → f x ≤ sumZ f n
  | n + 1, h, hx => by
    rw [sumZ]
    by_cases e : x = n
    · subst e
      have : 0 ≤ sumZ f x := by
        have := sumZ_mono (f := fun _ => 0) (g := f) (n := x) fun k hk => h k (by omega)
        rwa [sumZ_zero (fun _ _ => rfl)] at this
      omega
    · have := sumZ_term (n := n) (fun k hk => h k (by omega)) (by omega : x < n)
      have := h n (by omega)
      omega

/-- One at u. -/
abbrev at1 (x u : Nat) : Int := if x = u then 1 else 0

section
variable {N s t : Nat} {l : List (Int × Int)}
/-- A flow, all of whose nodes let through what comes, but for n from s to t, and one from v. -/
structure BFlow (N s t : Nat) (l : List (Int × Int)) (n : Int) (v : Nat) (d : Int) (F : Nat → Nat) (Z : Nat → Int) : Prop where
  edge : ∀ k, N ≤ k → Z k = F k
  node : ∀ k, k < N → Z k ≤ F k
  out : ∀ u, outZ (besL N s t l) Z u (besL N s t l).length = n * (at1 (N + s) u - at1 t u) + d * (at1 v u - at1 t u)

/-- There is a way on. -/
theorem BFlow.on {n : Nat} {v : Nat} {F : Nat → Nat} {Z : Nat → Int} (h : BFlow N s t l n v 1 F Z) (hok : ∀ j, j < l.length → EndsOk N (l.getD j (0, 0))) (htN : t < N) (hv : v < 2 * N) (hvt : v ≠ t) (hvT : v ≠ N + t) : ∃ k, k < (besL N s t l).length ∧ fromL (besL N s t l) k = v ∧ 0 < F k := by
  refine Classical.byContradiction fun hc => ?_
  have hF : ∀ k, k < (besL N s t l).length → fromL (besL N s t l) k = v → F k = 0 := fun k hk e => by
    rcases Nat.eq_zero_or_pos (F k) with h0 | h0
    · exact h0
    · exact absurd ⟨k, hk, e, h0⟩ hc
  have hin : ∀ u, u < N → ∀ k, k < (besL N s t l).length → toL (besL N s t l) k = u → 0 ≤ Z k := fun u hu k hk e => by
    rw [h.edge k (by
      rcases Nat.lt_or_ge k N with e2 | e2
      · unfold toL at e
        rw [besN_node N s t l _ k e2] at e
        simp only [Int.toNat_natCast] at e
        omega
      · exact e2)]
    omega
  by_cases hvN : v < N
  · have h1 := h.out v
    have h2 : outZ (besL N s t l) Z v (besL N s t l).length ≤ (besL N s t l).length * 0 := sumZ_le fun k hk => by
      by_cases e : fromL (besL N s t l) k = v
      · obtain ⟨b1, b2⟩ := bes_in hok hk hvN e
        have := hF k hk e
        have := h.node k (by omega)
        rw [if_pos e, if_neg (by omega)]
        omega
      · rw [if_neg e]
        by_cases e2 : toL (besL N s t l) k = v
        · have := hin v hvN k hk e2
          rw [if_pos e2]; omega
        · rw [if_neg e2]; omega
    unfold at1 at h1
    rw [if_neg (show ¬ N + s = v by omega), if_neg (Ne.symm hvt), if_pos rfl] at h1
    omega
  · have ha : v - N < N := by omega
    have h0 := h.out (v - N)
    have h0' : 0 ≤ Z (v - N) := by
      have e0 : outZ (besL N s t l) Z (v - N) (besL N s t l).length = 0 := by
        rw [h0]
        unfold at1
        rw [if_neg (show ¬ N + s = v - N by omega), if_neg (show ¬ t = v - N by omega), if_neg (show ¬ v = v - N by omega)]
        omega
      refine Classical.byContradiction fun hneg => ?_
      have hlt : outZ (besL N s t l) Z (v - N) (besL N s t l).length < 0 := by
        have hsum : outZ (besL N s t l) (addZ Z (v - N) (-(Z (v - N)))) (v - N) (besL N s t l).length ≤ (besL N s t l).length * 0 := sumZ_le fun k hk => by
          by_cases e : fromL (besL N s t l) k = v - N
          · obtain ⟨b1, b2⟩ := bes_in hok hk ha e
            rw [if_pos e, if_neg (by omega)]
            unfold addZ
            rw [if_pos b1]
            omega
          · rw [if_neg e]
            by_cases e2 : toL (besL N s t l) k = v - N
            · have hz := hin (v - N) ha k hk e2
              have hkN : k ≠ v - N := fun e3 => by
                unfold toL at e2
                rw [e3, besN_node N s t l _ (v - N) ha] at e2
                simp only [Int.toNat_natCast] at e2
                omega
              rw [if_pos e2]
              unfold addZ
              rw [if_neg hkN]
              omega
            · rw [if_neg e2]; omega
        have hk : v - N < (besL N s t l).length := by rw [besN_length]; omega
        rw [outZ_add Z hk] at hsum
        have e1 : fromL (besL N s t l) (v - N) = v - N := by
          unfold fromL
          rw [besN_node N s t l _ (v - N) ha]
          simp
        have e2 : toL (besL N s t l) (v - N) ≠ v - N := by
          unfold toL
          rw [besN_node N s t l _ (v - N) ha]
          simp only [Int.toNat_natCast]
          omega
        rw [if_pos e1, if_neg e2] at hsum
        omega
      omega
    have h1 := h.out v
    have h2 : outZ (besL N s t l) Z v (besL N s t l).length ≤ (besL N s t l).length * 0 := sumZ_le fun k hk => by
      by_cases e : fromL (besL N s t l) k = v
      · obtain ⟨b1, b2, -⟩ := bes_out hok (v := v - N) hk (by rw [e]; omega)
        have := hF k hk e
        have := h.edge k b1
        rw [if_pos e, if_neg (by omega)]
        omega
      · rw [if_neg e]
        by_cases e2 : toL (besL N s t l) k = v
        · have hkv : k = v - N := by
            rcases Nat.lt_or_ge k N with e3 | e3
            · unfold toL at e2
              rw [besN_node N s t l _ k e3] at e2
              simp only [Int.toNat_natCast] at e2
              omega
            · exfalso
              rw [besN_length] at hk
              obtain ⟨g1, g2⟩ := besN_edge N s t l l.length ((k - N) / 2) (by omega)
              obtain ⟨a1, a2, a3, a4⟩ := hok ((k - N) / 2) (by omega)
              unfold toL at e2
              rcases (show k = N + 2 * ((k - N) / 2) ∨ k = N + 2 * ((k - N) / 2) + 1 by omega) with e4 | e4
              · rw [e4, g1] at e2; simp only at e2; omega
              · rw [e4, g2] at e2; simp only at e2; omega
          rw [if_pos e2, hkv]; omega
        · rw [if_neg e2]; omega
    unfold at1 at h1
    rw [if_neg (show ¬ t = v by omega), if_pos rfl] at h1
    by_cases e : N + s = v
    · rw [if_pos e] at h1; omega
    · rw [if_neg e] at h1; omega
theorem BFlow.step {n : Int} {v k : Nat} {F : Nat → Nat} {Z : Nat → Int} (h : BFlow N s t l n v 1 F Z) (hk : k < (besL N s t l).length) (hf : fromL (besL N s t l) k = v) (h0 : 0 < F k) : BFlow N s t l n (toL (besL N s t l) k) 1 (lessF F k) (addZ Z k (-1)) := by
  refine ⟨fun q hq => ?_, fun q hq => ?_, fun u => ?_⟩
  · unfold addZ lessF
    by_cases e : q = k
    · subst e
      have := h.edge q hq
      rw [if_pos rfl, if_pos rfl]; omega
    · rw [if_neg e, if_neg e]; exact h.edge q hq
  · unfold addZ lessF
    by_cases e : q = k
    · subst e
      have := h.node q hq
      rw [if_pos rfl, if_pos rfl]; omega
    · rw [if_neg e, if_neg e]; exact h.node q hq
  · rw [outZ_add Z hk, h.out u, hf]
    unfold at1
    by_cases e1 : v = u <;> by_cases e2 : toL (besL N s t l) k = u <;> simp only [e1, e2, if_true, if_false] <;> omega
/-- A way begins; it has come to its end. -/
theorem BFlow.begin {n : Int} {v : Nat} {F : Nat → Nat} {Z : Nat → Int} (h : BFlow N s t l (n + 1) v 0 F Z) : BFlow N s t l n (N + s) 1 F Z := ⟨h.edge, h.node, fun u => by
  rw [h.out u, Int.add_mul]; omega⟩
theorem BFlow.fin {n : Int} {F : Nat → Nat} {Z : Nat → Int} (h : BFlow N s t l n t 1 F Z) : BFlow N s t l n t 0 F Z := ⟨h.edge, h.node, fun u => by
  rw [h.out u]; omega⟩
end

end Go.Proofs.Ytfflnpcbpcldeaa
namespace Go.Proofs.Ytfflnpcbpcldeaa

theorem sumZ_miss {f : Nat → Int} {x : Nat} : ∀ {n}, (∀ k, k < n → f k ≤ 1) → x < n → f x ≤ 0 → sumZ f n + 1 ≤ n
  | n + 1, h, hx, h0 => by
    rw [sumZ]
    by_cases e : x = n
    · subst e
      have := sumZ_le (n := x) (c := 1) fun k hk => h k (by omega)
      omega
    · have := sumZ_miss (n := n) (fun k hk => h k (by omega)) (by omega) h0
      have := h n (by omega)
      omega
theorem cutL_succ' (l : List (Int × Int × Int)) (lev : Nat → Int) (k : Nat) : cutL l lev (k + 1) = cutL l lev k + (if 0 ≤ lev (fromL l k) ∧ lev (toL l k) < 0 then (capL l k : Int) else 0) := rfl
theorem hasE_ex {l : List (Int × Int)} {a b : Int} (h : hasE l a b = true) : ∃ k, k < l.length ∧ Meets (l.getD k (0, 0)) a b := by
  refine Classical.byContradiction fun hc => ?_
  rw [hasE_no fun k hk hm => hc ⟨k, hk, hm⟩] at h
  cases h

/-- The nodes at which the cut lies. -/
def cutS (lev : Nat → Int) (N k : Nat) : List Nat := (List.range k).filter fun v => decide (0 ≤ lev v ∧ lev (N + v) < 0)
theorem cutS_yes {lev : Nat → Int} {N k : Nat} (h : 0 ≤ lev k ∧ lev (N + k) < 0) : cutS lev N (k + 1) = cutS lev N k ++ [k] := by
  unfold cutS
  rw [List.range_succ, List.filter_append]
  simp [h.1, h.2]
theorem cutS_no {lev : Nat → Int} {N k : Nat} (h : ¬ (0 ≤ lev k ∧ lev (N + k) < 0)) : cutS lev N (k + 1) = cutS lev N k := by
  unfold cutS
  rw [List.range_succ, List.filter_append]
  simp only [List.filter_cons, List.filter_nil]
  rw [if_neg (by simpa using h), List.append_nil]
theorem cutS_mem {lev : Nat → Int} {N k v : Nat} : v ∈ cutS lev N k ↔ v < k ∧ 0 ≤ lev v ∧ lev (N + v) < 0 := by
  unfold cutS
  rw [List.mem_filter, List.mem_range, decide_eq_true_iff]
theorem cutS_length (lev : Nat → Int) (N k : Nat) : (cutS lev N k).length ≤ k := by
  unfold cutS
  have := List.length_filter_le (fun v => decide (0 ≤ lev v ∧ lev (N + v) < 0)) (List.range k)
  rwa [List.length_range] at this
theorem cutS_at {lev : Nat → Int} {N k i : Nat} (hi : i < (cutS lev N k).length) : (cutS lev N k).getD i 0 < k ∧ 0 ≤ lev ((cutS lev N k).getD i 0) ∧ lev (N + (cutS lev N k).getD i 0) < 0 := by
  have e : (cutS lev N k).getD i 0 = (cutS lev N k)[i] := by simp [List.getD, hi]
  rw [e]
  exact cutS_mem.1 (List.getElem_mem hi)
theorem cutS_up (lev : Nat → Int) (N k : Nat) : ∀ i, i + 1 < (cutS lev N k).length → (cutS lev N k).getD i 0 < (cutS lev N k).getD (i + 1) 0 := fun i hi => by
  have hp : (cutS lev N k).Pairwise (· < ·) := List.Pairwise.filter _ List.pairwise_lt_range
  have e0 : (cutS lev N k).getD i 0 = (cutS lev N k)[i] := by simp [List.getD, show i < (cutS lev N k).length by omega]
  have e1 : (cutS lev N k).getD (i + 1) 0 = (cutS lev N k)[i + 1] := by simp [List.getD, hi]
  rw [e0, e1]
  exact List.pairwise_iff_getElem.1 hp i (i + 1) (by omega) hi (by omega)

section
variable {N s t : Nat} {l : List (Int × Int)}
/-- The arcs of a node and of an edge. -/
theorem bes_node_arc {v : Nat} (hv : v < N) : fromL (besL N s t l) v = v ∧ toL (besL N s t l) v = N + v ∧ capL (besL N s t l) v = if v = s ∨ v = t then N else 1 := by
  unfold fromL toL capL
  rw [besN_node N s t l _ v hv]
  refine ⟨rfl, rfl, ?_⟩
  show (if v = s ∨ v = t then (N : Int) else 1).toNat = _
  split <;> rfl
theorem bes_edge_arc (hok : ∀ j, j < l.length → EndsOk N (l.getD j (0, 0))) {e : Nat} (he : e < l.length) : ∃ a b : Nat, a < N ∧ b < N ∧ l.getD e (0, 0) = ((a : Int), (b : Int)) ∧
    fromL (besL N s t l) (N + 2 * e) = N + a ∧ toL (besL N s t l) (N + 2 * e) = b ∧ capL (besL N s t l) (N + 2 * e) = N ∧
    fromL (besL N s t l) (N + 2 * e + 1) = N + b ∧ toL (besL N s t l) (N + 2 * e + 1) = a ∧ capL (besL N s t l) (N + 2 * e + 1) = N := by
  obtain ⟨a1, a2, a3, a4⟩ := hok e he
  obtain ⟨h1, h2⟩ := besN_edge N s t l l.length e he
  obtain ⟨x, y, hxy⟩ : ∃ x y, l.getD e (0, 0) = (x, y) := ⟨_, _, rfl⟩
  rw [hxy] at a1 a2 a3 a4 h1 h2
  simp only at a1 a2 a3 a4 h1 h2
  refine ⟨x.toNat, y.toNat, by omega, by omega, ?_, ?_⟩
  · rw [hxy, Int.toNat_of_nonneg a1, Int.toNat_of_nonneg a2]
  · unfold fromL toL capL
    rw [h1, h2]
    simp only [Int.toNat_natCast]
    refine ⟨by omega, trivial, trivial, by omega, trivial, trivial⟩

/-- All nodes but t, and where s goes out. -/
def levS (N s t v : Nat) : Int := if v = t then -1 else if N ≤ v ∧ v ≠ N + s then -1 else 0
theorem levS_t : levS N s t t = -1 := if_pos rfl
theorem levS_in {v : Nat} (hv : v < N) (h : v ≠ t) : levS N s t v = 0 := by unfold levS; rw [if_neg h, if_neg (by omega)]
theorem levS_src (ht : t < N) : levS N s t (N + s) = 0 := by unfold levS; rw [if_neg (by omega), if_neg (by omega)]
theorem levS_out {v : Nat} (ht : t < N) (h : v ≠ s) : levS N s t (N + v) = -1 := by unfold levS; rw [if_neg (by omega), if_pos (by omega)]

/-- No more can be sent than there are other nodes. -/
theorem bes_few {sum : Nat} {X : Nat → List Nat} {lev : Nat → Int} (hok : ∀ j, j < l.length → EndsOk N (l.getD j (0, 0))) (hs : s < N) (ht : t < N) (hst : s ≠ t) (hadj : adj l s t = false)
    (h : MostOk (2 * N) (2 * (besL N s t l).length) (besL N s t l) (N + s) t sum X lev) : sum < N := by
  have h1 := h.weak (lev' := levS N s t) (by omega) (by rw [levS_src ht]; omega) (by rw [levS_t]; omega)
  have h2 : cutL (besL N s t l) (levS N s t) N + 1 ≤ N := by
    refine sumZ_miss (x := s) (fun v hv => ?_) hs ?_
    · obtain ⟨e1, e2, e3⟩ := bes_node_arc (s := s) (t := t) (l := l) hv
      rw [e1, e2, e3]
      by_cases hvt : v = t
      · subst hvt
        rw [levS_t, if_neg (by omega)]; omega
      · by_cases hvs : v = s
        · subst hvs
          rw [levS_src ht, if_neg (by omega)]; omega
        · rw [if_neg (show ¬ (v = s ∨ v = t) by omega)]
          split <;> simp
    · obtain ⟨e1, e2, e3⟩ := bes_node_arc (s := s) (t := t) (l := l) hs
      rw [e1, e2, levS_src ht, if_neg (by omega)]
      omega
  have h3 : ∀ k, k ≤ l.length → cutL (besL N s t l) (levS N s t) (N + 2 * k) = cutL (besL N s t l) (levS N s t) N := by
    intro k
    induction k with
    | zero => intro _; rfl
    | succ k ih =>
      intro hk
      obtain ⟨a, b, ha, hb, hab, f1, t1, -, f2, t2, -⟩ := bes_edge_arc (s := s) (t := t) hok (e := k) (by omega)
      have hno : ∀ x y : Nat, x < N → y < N → Meets (l.getD k (0, 0)) x y → ¬ (0 ≤ levS N s t (N + x) ∧ levS N s t y < 0) := fun x y hx hy hm hc => by
        have e1 : x = s := by
          refine Classical.byContradiction fun e => ?_
          have := hc.1
          rw [levS_out ht e] at this
          omega
        have e2 : y = t := by
          refine Classical.byContradiction fun e => ?_
          have := hc.2
          rw [levS_in hy e] at this
          omega
        rw [e1, e2] at hm
        have : adj l s t = true := hasE_yes (k := k) (by omega) hm
        rw [hadj] at this; cases this
      have := ih (by omega)
      rw [show N + 2 * (k + 1) = N + 2 * k + 1 + 1 by omega, cutL_succ', cutL_succ', this, f1, t1, f2, t2, if_neg (hno a b ha hb (Or.inl (by rw [hab]; exact ⟨rfl, rfl⟩))), if_neg (hno b a hb ha (Or.inr (by rw [hab]; exact ⟨rfl, rfl⟩)))]
      omega
  have h4 := h3 l.length (Nat.le_refl _)
  rw [besN_length] at h1
  omega

/-- The cut lies at nodes alone, at as many as is sent; without them there is no way. -/
theorem bes_cut {sum : Nat} {X : Nat → List Nat} {lev : Nat → Int} (hok : ∀ j, j < l.length → EndsOk N (l.getD j (0, 0))) (hs : s < N) (ht : t < N) (hst : s ≠ t) (hadj : adj l s t = false)
    (h : MostOk (2 * N) (2 * (besL N s t l).length) (besL N s t l) (N + s) t sum X lev) : (cutS lev N N).length = sum ∧ s ∉ cutS lev N N ∧ t ∉ cutS lev N N ∧ ∀ S : Nat → Bool, (∀ v, v < N → (S v = true ↔ v ∈ cutS lev N N)) → ¬ Rch N (adj l) S s t := by
  have hfew := bes_few hok hs ht hst hadj h
  have hL := h.law (by omega)
  have hsrc : 0 ≤ lev (N + s) := hL.src
  have hsnk : lev t < 0 := hL.snk
  have hcut := hL.cut
  have hpos : ∀ k, k < (besL N s t l).length → (0 : Int) ≤ (if 0 ≤ lev (fromL (besL N s t l) k) ∧ lev (toL (besL N s t l) k) < 0 then (capL (besL N s t l) k : Int) else 0) := fun k _ => by split <;> omega
  have hno : ∀ k, k < (besL N s t l).length → capL (besL N s t l) k = N → ¬ (0 ≤ lev (fromL (besL N s t l) k) ∧ lev (toL (besL N s t l) k) < 0) := fun k hk hc hcr => by
    have := sumZ_term hpos hk
    rw [if_pos hcr, hc] at this
    unfold cutL at hcut
    omega
  have hlen : (besL N s t l).length = N + 2 * l.length := besN_length N s t l l.length
  have hcross : ∀ e, e < l.length → ∀ x y : Nat, x < N → y < N → Meets (l.getD e (0, 0)) x y → 0 ≤ lev (N + x) → 0 ≤ lev y := fun e he x y hx hy hm h0 => by
    obtain ⟨a, b, ha, hb, hab, f1, t1, c1, f2, t2, c2⟩ := bes_edge_arc (s := s) (t := t) hok he
    have n1 := hno (N + 2 * e) (by omega) c1
    have n2 := hno (N + 2 * e + 1) (by omega) c2
    rw [f1, t1] at n1
    rw [f2, t2] at n2
    rw [hab] at hm
    unfold Meets at hm
    simp only at hm
    rcases hm with ⟨g1, g2⟩ | ⟨g1, g2⟩
    · obtain rfl : a = x := by omega
      obtain rfl : b = y := by omega
      omega
    · obtain rfl : a = y := by omega
      obtain rfl : b = x := by omega
      omega
  have hnode : ∀ v, v ≤ N → cutL (besL N s t l) lev v = ((cutS lev N v).length : Int) := by
    intro v
    induction v with
    | zero => intro _; rfl
    | succ v ih =>
      intro hv
      obtain ⟨e1, e2, e3⟩ := bes_node_arc (s := s) (t := t) (l := l) (show v < N by omega)
      rw [cutL_succ', ih (by omega), e1, e2, e3]
      by_cases hc : 0 ≤ lev v ∧ lev (N + v) < 0
      · have hvs : v ≠ s := fun e => by rw [e] at hc; omega
        have hvt : v ≠ t := fun e => by rw [e] at hc; omega
        rw [if_pos hc, cutS_yes hc, if_neg (by omega), List.length_append]
        simp
      · rw [if_neg hc, cutS_no hc]; omega
  have hrest : ∀ k, k ≤ l.length → cutL (besL N s t l) lev (N + 2 * k) = cutL (besL N s t l) lev N := by
    intro k
    induction k with
    | zero => intro _; rfl
    | succ k ih =>
      intro hk
      obtain ⟨a, b, ha, hb, hab, f1, t1, c1, f2, t2, c2⟩ := bes_edge_arc (s := s) (t := t) hok (e := k) (by omega)
      rw [show N + 2 * (k + 1) = N + 2 * k + 1 + 1 by omega, cutL_succ', cutL_succ', ih (by omega), if_neg (hno _ (by omega) c1), if_neg (hno _ (by omega) c2)]
      omega
  refine ⟨?_, fun hm => ?_, fun hm => ?_, fun S hS hr => ?_⟩
  · have h1 := hrest l.length (Nat.le_refl _)
    rw [hnode N (Nat.le_refl _)] at h1
    rw [hlen] at hcut
    omega
  · have := (cutS_mem.1 hm).2.2; omega
  · have := (cutS_mem.1 hm).2.1; omega
  · have key : ∀ v, Rch N (adj l) S s v → 0 ≤ lev (N + v) ∧ (v = s ∨ 0 ≤ lev v) := by
      intro v hv
      induction hv with
      | refl => exact ⟨hsrc, Or.inl rfl⟩
      | @step b c _ hb hc hg hsh ih =>
        obtain ⟨e, he, hm⟩ := hasE_ex hg
        have h1 := hcross e he b c hb hc hm ih.1
        refine ⟨?_, Or.inr h1⟩
        refine Classical.byContradiction fun hn => ?_
        have := (hS c hc).2 (cutS_mem.2 ⟨hc, h1, by omega⟩)
        rw [hsh] at this; cases this
    rcases (key t hr).2 with e | e
    · exact hst e.symm
    · omega
end

end Go.Proofs.Ytfflnpcbpcldeaa
