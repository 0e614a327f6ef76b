/- Tutte's polynomial by taking away and melting is the sum over all sets of edges: plain. No program in sight. -/
namespace Go.Proofs.Ytmhcnekbfngafaa

/-- Edges, each two nodes. -/
abbrev EL := List (Nat × Nat)
/-- What a node was melted into, behind one more melting. -/
def meltN (c : Nat → Nat) (a b v : Nat) : Nat := if c v = c a then c b else c v
def foldN (c : Nat → Nat) : EL → Nat → Nat
  | [] => c
  | e :: l => foldN (meltN c e.1 e.2) l
theorem melt_same {c : Nat → Nat} {a b : Nat} (h : c a = c b) : meltN c a b = c := by
  funext v; unfold meltN; split
  · rw [← h]; exact (by assumption : c v = c a).symm
  · rfl

/-- A map from nodes that keeps together what another one, and edges, keep together. -/
def Keeps (c f : Nat → Nat) : Prop := ∀ u v, c u = c v → f u = f v
theorem keeps_melt {c f : Nat → Nat} {a b : Nat} (h : Keeps c f) (hab : f a = f b) : Keeps (meltN c a b) f := fun u v e => by
  unfold meltN at e
  split at e <;> split at e <;> rename_i h1 h2
  · exact h u v (h1.trans h2.symm)
  · rw [h u a h1, hab]; exact h b v e
  · rw [h v a h2, hab]; exact h u b e
  · exact h u v e
theorem keeps_fold {f : Nat → Nat} : ∀ (l : EL) (c : Nat → Nat), Keeps c f → (∀ e ∈ l, f e.1 = f e.2) → Keeps (foldN c l) f
  | [], _, h, _ => h
  | e :: l, c, h, he => keeps_fold l _ (keeps_melt h (he e (by simp))) fun x hx => he x (by simp [hx])
theorem melt_keeps (c : Nat → Nat) (a b : Nat) : Keeps c (meltN c a b) := fun u v e => by unfold meltN; rw [e]
theorem melt_ab (c : Nat → Nat) (a b : Nat) : meltN c a b a = meltN c a b b := by unfold meltN; rw [if_pos rfl]; split <;> rfl
theorem fold_keeps : ∀ (l : EL) (c : Nat → Nat), Keeps c (foldN c l)
  | [], _ => fun _ _ e => e
  | e :: l, c => fun u v h => fold_keeps l _ u v (melt_keeps c e.1 e.2 u v h)
theorem fold_edge : ∀ (l : EL) (c : Nat → Nat), ∀ e ∈ l, foldN c l e.1 = foldN c l e.2
  | [], _, e, he => by cases he
  | x :: l, c, e, he => by
    rcases List.mem_cons.1 he with rfl | he
    · exact fold_keeps l _ _ _ (melt_ab c _ _)
    · exact fold_edge l _ e he
/-- Fewer edges keep together less. -/
theorem fold_mono {S L : EL} {c : Nat → Nat} (h : S.Sublist L) : Keeps (foldN c S) (foldN c L) :=
  keeps_fold S c (fold_keeps L c) fun e he => fold_edge L c e (h.subset he)

/-! How many parts there are: nodes that were not melted into another one. -/
structure Canon (N : Nat) (c : Nat → Nat) : Prop where
  lt : ∀ v, v < N → c v < N
  top : ∀ v, v < N → c (c v) = c v
def kN (N : Nat) (c : Nat → Nat) : Nat := ((List.range N).filter fun v => decide (c v = v)).length
theorem mem_roots {N : Nat} {c : Nat → Nat} {v : Nat} : v ∈ (List.range N).filter (fun v => decide (c v = v)) ↔ v < N ∧ c v = v := by simp
theorem roots_nodup (N : Nat) (c : Nat → Nat) : ((List.range N).filter fun v => decide (c v = v)).Nodup := List.Nodup.sublist List.filter_sublist List.nodup_range
theorem len_le_of_inj {A B : List Nat} (f : Nat → Nat) (hA : A.Nodup) (hm : ∀ a ∈ A, f a ∈ B) (hi : ∀ a ∈ A, ∀ b ∈ A, f a = f b → a = b) : A.length ≤ B.length := by
  have h1 : (A.map f).Nodup := by
    rw [List.nodup_iff_pairwise_ne, List.pairwise_map]
    rw [List.nodup_iff_pairwise_ne] at hA
    exact hA.imp_of_mem fun ha hb hne e => hne (hi _ ha _ hb e)
  have h2 : A.map f ⊆ B := fun x hx => by
    obtain ⟨a, ha, rfl⟩ := List.mem_map.1 hx
    exact hm a ha
  have := h1.length_le_of_subset h2
  simpa using this
theorem Canon.melt {N : Nat} {c : Nat → Nat} (h : Canon N c) {a b : Nat} (hb : b < N) : Canon N (meltN c a b) where
  lt := fun v hv => by unfold meltN; split; exact h.lt b hb; exact h.lt v hv
  top := fun v hv => by
    unfold meltN
    by_cases e : c v = c a
    · rw [if_pos e]
      split
      · rfl
      · exact h.top b hb
    · rw [if_neg e, if_neg (by rw [h.top v hv]; exact e), h.top v hv]
theorem Canon.fold {N : Nat} : ∀ (l : EL) {c : Nat → Nat}, Canon N c → (∀ e ∈ l, e.2 < N) → Canon N (foldN c l)
  | [], _, h, _ => h
  | e :: l, _, h, he => Canon.fold l (h.melt (he e (by simp))) fun x hx => he x (by simp [hx])
/-- What keeps together more has fewer parts. -/
theorem k_mono {N : Nat} {c c' : Nat → Nat} (h : Canon N c) (h' : Canon N c') (hk : Keeps c c') : kN N c' ≤ kN N c := by
  refine len_le_of_inj c (roots_nodup N c') (fun v hv => ?_) fun u hu v hv e => ?_
  · rw [mem_roots] at hv ⊢
    exact ⟨h.lt v hv.1, h.top v hv.1⟩
  · rw [mem_roots] at hu hv
    rw [← hu.2, ← hv.2]
    exact hk u v e
theorem k_same {N : Nat} {c c' : Nat → Nat} (h : Canon N c) (h' : Canon N c') (hk : Keeps c c') (hk' : Keeps c' c) : kN N c = kN N c' :=
  Nat.le_antisymm (k_mono h' h hk') (k_mono h h' hk)
theorem count_but {N : Nat} {p q : Nat → Bool} {x : Nat} (hx : x < N) (hp : p x = true) (hq : q x = false) (he : ∀ v, v ≠ x → q v = p v) : ((List.range N).filter q).length + 1 = ((List.range N).filter p).length := by
  induction N with
  | zero => omega
  | succ N ih =>
    rw [List.range_succ, List.filter_append, List.filter_append, List.length_append, List.length_append]
    by_cases e : x = N
    · subst e
      have : ∀ M, M ≤ x → ((List.range M).filter q) = ((List.range M).filter p) := fun M hM => List.filter_congr fun v hv => he v (by have := List.mem_range.1 hv; omega)
      rw [this x (Nat.le_refl _)]
      simp [hp, hq]
    · have := ih (by omega)
      have hN := he N (fun h => e h.symm)
      simp only [List.filter_cons, List.filter_nil, hN]
      omega
theorem k_melt {N : Nat} {c : Nat → Nat} (h : Canon N c) {a b : Nat} (ha : a < N) (hb : b < N) (hab : c a ≠ c b) : kN N (meltN c a b) + 1 = kN N c := by
  unfold kN
  refine count_but (x := c a) (h.lt a ha) (by simp [h.top a ha]) ?_ fun v hv => ?_
  · unfold meltN; rw [if_pos (h.top a ha)]; simp; exact fun e => hab e.symm
  · unfold meltN
    by_cases e : c v = c a
    · rw [if_pos e]
      have h1 : c b ≠ v := fun e2 => hab (by rw [← e2, h.top b hb] at e; exact e.symm)
      have h2 : c v ≠ v := fun e2 => hv (by rw [← e, e2])
      simp [h1, h2]
    · rw [if_neg e]
theorem k_le (N : Nat) (c : Nat → Nat) : kN N c ≤ N := by
  have := List.length_filter_le (fun v => decide (c v = v)) (List.range N)
  simpa [kN] using this
/-- Edges by which an edge's ends hang together. -/
def Hang (c : Nat → Nat) (S : EL) (e : Nat × Nat) : Prop := foldN c S e.1 = foldN c S e.2
instance (c : Nat → Nat) (S : EL) (e : Nat × Nat) : Decidable (Hang c S e) := by unfold Hang; infer_instance
theorem k_first {N : Nat} {c : Nat → Nat} (h : Canon N c) {e : Nat × Nat} {S : EL} (he : e.1 < N ∧ e.2 < N) (hS : ∀ x ∈ S, x.2 < N) :
    kN N (foldN (meltN c e.1 e.2) S) + (if Hang c S e then 0 else 1) = kN N (foldN c S) := by
  have hc1 := Canon.fold S (h.melt (a := e.1) he.2) hS
  have hc2 := Canon.fold S h hS
  have k1 : Keeps (foldN (meltN c e.1 e.2) S) (meltN (foldN c S) e.1 e.2) := by
    refine keeps_fold S _ (keeps_melt (fun u v hu => melt_keeps _ _ _ _ _ (fold_keeps S c u v hu)) (melt_ab _ _ _)) fun x hx => melt_keeps _ _ _ _ _ (fold_edge S c x hx)
  have k2 : Keeps (meltN (foldN c S) e.1 e.2) (foldN (meltN c e.1 e.2) S) := by
    refine keeps_melt (keeps_fold S c (fun u v hu => fold_keeps S _ u v (melt_keeps _ _ _ _ _ hu)) fun x hx => fold_edge S _ x hx) ?_
    exact fold_keeps S _ _ _ (melt_ab _ _ _)
  have e1 := k_same hc1 (hc2.melt (a := e.1) he.2) k1 k2
  by_cases hh : Hang c S e
  · rw [if_pos hh, e1]
    rw [melt_same hh]; rfl
  · rw [if_neg hh, e1]
    exact k_melt hc2 he.1 he.2 hh

/-! Sums over all sets of edges. -/
def setSum (f : EL → Int) : EL → Int
  | [] => f []
  | e :: l => setSum f l + setSum (fun S => f (e :: S)) l
theorem setSum_congr : ∀ (l : EL) {f g : EL → Int}, (∀ S, S.Sublist l → f S = g S) → setSum f l = setSum g l
  | [], f, g, h => h [] (List.Sublist.refl _)
  | e :: l, f, g, h => by
    rw [setSum, setSum, setSum_congr l fun S hS => h S (hS.cons e), setSum_congr l fun S hS => h (e :: S) (hS.cons_cons e)]
theorem setSum_add : ∀ (l : EL) (f g : EL → Int), setSum (fun S => f S + g S) l = setSum f l + setSum g l
  | [], _, _ => rfl
  | e :: l, f, g => by
    rw [setSum, setSum, setSum, setSum_add l, setSum_add l]; omega
theorem setSum_zero : ∀ (l : EL), setSum (fun _ => 0) l = 0
  | [] => rfl
  | e :: l => by rw [setSum, setSum_zero l]; rfl

/-- (v - 1)^n's coefficients. -/
def pw : Nat → Nat → Int
  | 0, i => if i = 0 then 1 else 0
  | n + 1, 0 => - pw n 0
  | n + 1, i + 1 => pw n i - pw n (i + 1)
theorem pw_up (n i : Nat) : pw (n + 1) i + pw n i = if i = 0 then 0 else pw n (i - 1) := by
  cases i with
  | zero => simp [pw]; omega
  | succ i => rw [pw, if_neg (by omega), Nat.add_sub_cancel]; omega
theorem pw_far : ∀ (n i : Nat), n < i → pw n i = 0
  | 0, i, h => by rw [pw, if_neg (by omega)]
  | n + 1, 0, h => by omega
  | n + 1, i + 1, h => by rw [pw, pw_far n i (by omega), pw_far n (i + 1) (by omega)]; rfl

/-- By taking away and melting. -/
def tutN (c : Nat → Nat) : EL → Nat → Nat → Int
  | [], i, j => if i = 0 ∧ j = 0 then 1 else 0
  | e :: l, i, j =>
    if c e.1 = c e.2 then (if j = 0 then 0 else tutN c l i (j - 1))
    else if Hang c l e then tutN c l i j + tutN (meltN c e.1 e.2) l i j
    else (if i = 0 then 0 else tutN (meltN c e.1 e.2) l (i - 1) j)
/-- Of one set. -/
def termN (N : Nat) (c : Nat → Nat) (L S : EL) (i j : Nat) : Int := pw (kN N (foldN c S) - kN N (foldN c L)) i * pw (S.length + kN N (foldN c S) - kN N c) j
theorem k_many {N : Nat} : ∀ (S : EL) {c : Nat → Nat}, Canon N c → (∀ x ∈ S, x.1 < N ∧ x.2 < N) → kN N c ≤ S.length + kN N (foldN c S)
  | [], c, _, _ => by simp [foldN]
  | e :: S, c, h, hS => by
    have he := hS e (by simp)
    have ih := k_many S (h.melt (a := e.1) he.2) fun x hx => hS x (by simp [hx])
    rw [foldN, List.length_cons]
    by_cases e2 : c e.1 = c e.2
    · rw [melt_same e2] at ih ⊢; omega
    · have := k_melt h he.1 he.2 e2; omega
theorem tut_sets {N : Nat} : ∀ (L : EL) {c : Nat → Nat}, Canon N c → (∀ x ∈ L, x.1 < N ∧ x.2 < N) → ∀ i j, tutN c L i j = setSum (fun S => termN N c L S i j) L
  | [], c, _, _, i, j => by
    unfold tutN setSum termN foldN
    simp only [Nat.sub_self, List.length_nil, Nat.zero_add]
    by_cases h1 : i = 0 <;> by_cases h2 : j = 0 <;> simp [pw, h1, h2]
  | e :: l, c, h, hL, i, j => by
    have he := hL e (by simp)
    have hl : ∀ x ∈ l, x.1 < N ∧ x.2 < N := fun x hx => hL x (by simp [hx])
    have hm := h.melt (a := e.1) he.2
    have ih1 := tut_sets l h hl
    have ih2 := tut_sets l hm hl
    have sub : ∀ {S : EL}, S.Sublist l → ∀ x ∈ S, x.1 < N ∧ x.2 < N := fun hS x hx => hl x (hS.subset hx)
    rw [tutN, setSum]
    by_cases e1 : c e.1 = c e.2
    · rw [if_pos e1, ← setSum_add]
      have : ∀ S, S.Sublist l → termN N c (e :: l) S i j + termN N c (e :: l) (e :: S) i j = if j = 0 then 0 else termN N c l S i (j - 1) := fun S hS => by
        have hk := k_many S h (sub hS)
        unfold termN
        rw [foldN, foldN, melt_same e1, List.length_cons, show S.length + 1 + kN N (foldN c S) - kN N c = (S.length + kN N (foldN c S) - kN N c) + 1 by omega, ← Int.mul_add, Int.add_comm (pw _ j), pw_up]
        split
        · simp
        · rfl
      rw [setSum_congr l this]
      split
      · rw [setSum_zero]
      · exact ih1 i (j - 1)
    · rw [if_neg e1]
      have hk0 := k_melt h he.1 he.2 e1
      have hfirst : ∀ S, S.Sublist l → termN N c (e :: l) (e :: S) i j = termN N (meltN c e.1 e.2) l S i j := fun S hS => by
        unfold termN
        rw [foldN, foldN, List.length_cons, show S.length + 1 + kN N (foldN (meltN c e.1 e.2) S) - kN N c = S.length + kN N (foldN (meltN c e.1 e.2) S) - kN N (meltN c e.1 e.2) by omega]
      rw [setSum_congr l hfirst, ← ih2 i j]
      have kl := k_first h (S := l) he (fun x hx => (hl x hx).2)
      by_cases hh : Hang c l e
      · rw [if_pos hh]
        rw [if_pos hh] at kl
        congr 1
        rw [ih1 i j]
        refine setSum_congr l fun S hS => ?_
        unfold termN
        rw [foldN, ← kl, Nat.add_zero]
      · rw [if_neg hh]
        rw [if_neg hh] at kl
        have : ∀ S, S.Sublist l → termN N c (e :: l) S i j = pw (kN N (foldN (meltN c e.1 e.2) S) - kN N (foldN (meltN c e.1 e.2) l) + 1) i * pw (S.length + kN N (foldN (meltN c e.1 e.2) S) - kN N (meltN c e.1 e.2)) j := fun S hS => by
          have ks := k_first h (S := S) he (fun x hx => (sub hS x hx).2)
          rw [if_neg (show ¬ Hang c S e from fun hs => hh (fold_mono hS _ _ hs))] at ks
          have kmn := k_mono (Canon.fold S hm fun x hx => (sub hS x hx).2) (Canon.fold l hm fun x hx => (hl x hx).2) (fold_mono hS)
          unfold termN
          rw [foldN, show kN N (foldN c S) = kN N (foldN (meltN c e.1 e.2) S) + 1 from ks.symm, show kN N (foldN (meltN c e.1 e.2) S) + 1 - kN N (foldN (meltN c e.1 e.2) l) = kN N (foldN (meltN c e.1 e.2) S) - kN N (foldN (meltN c e.1 e.2) l) + 1 by omega,
            ← hk0, show S.length + (kN N (foldN (meltN c e.1 e.2) S) + 1) - (kN N (meltN c e.1 e.2) + 1) = S.length + kN N (foldN (meltN c e.1 e.2) S) - kN N (meltN c e.1 e.2) by omega]
        rw [setSum_congr l this, ih2 i j, ← setSum_add]
        have h2 : ∀ S, S.Sublist l → pw (kN N (foldN (meltN c e.1 e.2) S) - kN N (foldN (meltN c e.1 e.2) l) + 1) i * pw (S.length + kN N (foldN (meltN c e.1 e.2) S) - kN N (meltN c e.1 e.2)) j + termN N (meltN c e.1 e.2) l S i j = if i = 0 then 0 else termN N (meltN c e.1 e.2) l S (i - 1) j := fun S _ => by
          unfold termN
          rw [← Int.add_mul, pw_up]
          split
          · simp
          · rfl
        rw [setSum_congr l h2]
        split
        · rw [setSum_zero]
        · exact ih2 (i - 1) j
/-- How great the coefficients are. -/
theorem tut_few : ∀ (L : EL) (c : Nat → Nat) (i j : Nat), 0 ≤ tutN c L i j ∧ tutN c L i j ≤ (2 ^ L.length : Nat)
  | [], c, i, j => by rw [tutN]; split <;> simp
  | e :: l, c, i, j => by
    have h1 := tut_few l c
    have h2 := tut_few l (meltN c e.1 e.2)
    have hp : ((2 ^ (l.length + 1) : Nat) : Int) = 2 * ((2 ^ l.length : Nat) : Int) := by rw [Nat.pow_succ]; push_cast; omega
    rw [tutN, List.length_cons, hp]
    have hpos : (0 : Int) ≤ ((2 ^ l.length : Nat) : Int) := Int.natCast_nonneg _
    split
    · split
      · omega
      · have := h1 i (j - 1); omega
    · split
      · have := h1 i j; have := h2 i j; omega
      · split
        · omega
        · have := h2 (i - 1) j; omega
theorem tut_far : ∀ (L : EL) (c : Nat → Nat) (i j : Nat), L.length < i ∨ L.length < j → tutN c L i j = 0
  | [], c, i, j, h => by rw [tutN, if_neg (by simp at h; omega)]
  | e :: l, c, i, j, h => by
    rw [List.length_cons] at h
    rw [tutN]
    split
    · split
      · rfl
      · exact tut_far l c i (j - 1) (by omega)
    · split
      · rw [tut_far l c i j (by omega), tut_far l _ i j (by omega)]; rfl
      · split
        · rfl
        · exact tut_far l _ (i - 1) j (by omega)

end Go.Proofs.Ytmhcnekbfngafaa
