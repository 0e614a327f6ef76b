/- How many parts a set of edges leaves; the sum over all sets by numbers: plain. No program in sight. -/
import Derived.Test.YtmhcnekbfngafaaTutP
import Derived.Test.YtmhcnekbfngafaaRch
import Derived.Test.YtmhcnekbfngafaaSums
namespace Go.Proofs.Ytmhcnekbfngafaa
open Go Go.RowKit

theorem cnt_filter (I : Nat → Bool) : ∀ n, cnt I n = ((List.range n).filter I).length
  | 0 => rfl
  | n + 1 => by
    rw [cnt, cnt_filter I n, List.range_succ, List.filter_append, List.length_append]
    cases e : I n <;> simp [e]
theorem canon_id (N : Nat) : Canon N id := ⟨fun _ h => h, fun _ _ => rfl⟩
/-- A table of edges. -/
def TabE (N : Nat) (G : Nat → Nat → Bool) (S : EL) : Prop := ∀ u v, u < N → v < N → (G u v = true ↔ (u, v) ∈ S ∨ (v, u) ∈ S)
theorem rch_fold {N : Nat} {G : Nat → Nat → Bool} {S : EL} (hG : TabE N G S) (hS : ∀ x ∈ S, x.1 < N ∧ x.2 < N) {a b : Nat} (ha : a < N) :
    Rch N G (fun _ => false) a b → foldN id S a = foldN id S b := fun h => by
  induction h with
  | refl => rfl
  | @step b c h1 h2 h3 h4 _ ih =>
    rw [ih]
    rcases (hG b c h2 h3).1 h4 with h | h
    · exact fold_edge S id _ h
    · exact (fold_edge S id _ h).symm
theorem fold_rch {N : Nat} {G : Nat → Nat → Bool} {S : EL} (hG : TabE N G S) (hS : ∀ x ∈ S, x.1 < N ∧ x.2 < N) {a b : Nat} (ha : a < N) (h : foldN id S a = foldN id S b) : Rch N G (fun _ => false) a b := by
  have hk : Keeps (foldN id S) (fun v => (rchB N G (fun _ => false) a v).toNat) := keeps_fold S id (fun u v e => by have : u = v := e; rw [this]) fun e he => by
    obtain ⟨h1, h2⟩ := hS e he
    have e1 : Rch N G (fun _ => false) a e.1 ↔ Rch N G (fun _ => false) a e.2 :=
      ⟨fun h => .step h h1 h2 ((hG _ _ h1 h2).2 (Or.inl he)) rfl, fun h => .step h h2 h1 ((hG _ _ h2 h1).2 (Or.inr he)) rfl⟩
    have : rchB N G (fun _ => false) a e.1 = rchB N G (fun _ => false) a e.2 := by rw [Bool.eq_iff_iff, rchB_iff, rchB_iff]; exact e1
    simp only [this]
  have e := hk a b h
  simp only [rchB_iff.2 (Rch.refl (N := N) (G := G) (S := fun _ => false) (a := a))] at e
  cases hb : rchB N G (fun _ => false) a b
  · rw [hb] at e; cases e
  · exact rchB_iff.1 hb
theorem least_of (p : Nat → Prop) : ∀ n, p n → ∃ i, i ≤ n ∧ p i ∧ ∀ j, j < i → ¬ p j := by
  intro n
  induction n using Nat.strongRecOn with
  | _ n ih =>
    intro hn
    by_cases h : ∃ m, m < n ∧ p m
    · obtain ⟨m, hm, hp⟩ := h
      obtain ⟨i, hi, h1, h2⟩ := ih m hm hp
      exact ⟨i, by omega, h1, h2⟩
    · exact ⟨n, Nat.le_refl _, hn, fun j hj hp => h ⟨j, hj, hp⟩⟩
open Classical in
theorem parts_k {N : Nat} {G : Nat → Nat → Bool} {S : EL} (hG : TabE N G S) (hS : ∀ x ∈ S, x.1 < N ∧ x.2 < N) : partsF N G (fun _ => false) = kN N (foldN id S) := by
  have hc := Canon.fold S (canon_id N) fun x hx => (hS x hx).2
  have ml : ∀ v, v ∈ (List.range N).filter (leadB N G fun _ => false) ↔ v < N ∧ Lead N G (fun _ => false) v := fun v => by simp [leadB_iff]
  have key : ∀ a b, a < N → b < N → (Rch N G (fun _ => false) a b ↔ foldN id S a = foldN id S b) := fun a b ha hb => ⟨rch_fold hG hS ha, fold_rch hG hS ha⟩
  have first : ∀ v, v < N → ∃ u, u ≤ v ∧ u < N ∧ foldN id S u = foldN id S v ∧ Lead N G (fun _ => false) u := fun v hv => by
    obtain ⟨u, h1, h2, h3⟩ := least_of (fun u => u < N ∧ foldN id S u = foldN id S v) v ⟨hv, rfl⟩
    refine ⟨u, h1, h2.1, h2.2, rfl, fun x hx _ hr => h3 x hx ⟨by omega, ?_⟩⟩
    rw [← h2.2]
    exact (key x u (by omega) h2.1).1 hr
  unfold partsF
  rw [cnt_filter]
  refine Nat.le_antisymm ?_ ?_
  · refine len_le_of_inj (foldN id S) (List.Nodup.sublist List.filter_sublist List.nodup_range) (fun v hv => ?_) fun u hu v hv e => ?_
    · rw [ml] at hv
      rw [mem_roots]
      exact ⟨hc.lt v hv.1, hc.top v hv.1⟩
    · rw [ml] at hu hv
      rcases Nat.lt_trichotomy u v with h | h | h
      · exact absurd ((key u v hu.1 hv.1).2 e) (hv.2.2 u h rfl)
      · exact h
      · exact absurd ((key v u hv.1 hu.1).2 e.symm) (hu.2.2 v h rfl)
  · refine len_le_of_inj (fun v => if h : v < N then Classical.choose (first v h) else v) (roots_nodup N _) (fun v hv => ?_) fun u hu v hv e => ?_
    · rw [mem_roots] at hv
      rw [ml]
      simp only [dif_pos hv.1]
      obtain ⟨h1, h2, h3, h4⟩ := Classical.choose_spec (first v hv.1)
      exact ⟨h2, h4⟩
    · rw [mem_roots] at hu hv
      simp only [dif_pos hu.1, dif_pos hv.1] at e
      obtain ⟨-, -, h3, -⟩ := Classical.choose_spec (first u hu.1)
      obtain ⟨-, -, h4, -⟩ := Classical.choose_spec (first v hv.1)
      rw [e, h4, hu.2, hv.2] at h3
      exact h3.symm

/-! Sets of edges by numbers. -/
def selB : EL → Nat → EL
  | [], _ => []
  | e :: l, s => if s % 2 = 1 then e :: selB l (s / 2) else selB l (s / 2)
theorem sumI_even (f : Nat → Int) : ∀ n, sumI f (2 * n) = sumI (fun s => f (2 * s)) n + sumI (fun s => f (2 * s + 1)) n
  | 0 => rfl
  | n + 1 => by
    rw [show 2 * (n + 1) = 2 * n + 1 + 1 by omega, sumI, sumI, sumI_even f n, sumI, sumI]
    omega
theorem set_sum (f : EL → Int) : ∀ l : EL, sumI (fun s => f (selB l s)) (2 ^ l.length) = setSum f l
  | [] => by simp [sumI, setSum, selB]
  | e :: l => by
    rw [List.length_cons, Nat.pow_succ, Nat.mul_comm, sumI_even, setSum, ← set_sum f l, ← set_sum (fun S => f (e :: S)) l]
    congr 1
    · refine sumI_congr fun s _ => ?_
      rw [selB, if_neg (by omega), show 2 * s / 2 = s by omega]
    · refine sumI_congr fun s _ => ?_
      show f (selB (e :: l) (2 * s + 1)) = f (e :: selB l s)
      rw [selB, if_pos (by omega), show (2 * s + 1) / 2 = s by omega]
theorem sel_sub : ∀ (l : EL) (s : Nat), (selB l s).Sublist l
  | [], _ => List.Sublist.refl _
  | e :: l, s => by
    rw [selB]
    split
    · exact (sel_sub l _).cons_cons e
    · exact (sel_sub l _).cons e
/-- As they are taken one by one. -/
def takB (l : EL) (s : Nat) : Nat → EL
  | 0 => []
  | k + 1 => takB l s k ++ (if s.testBit k then [l.getD k (0, 0)] else [])
theorem tak_cons (e : Nat × Nat) (l : EL) (s : Nat) : ∀ k, takB (e :: l) s (k + 1) = (if s % 2 = 1 then [e] else []) ++ takB l (s / 2) k
  | 0 => by simp [takB, Nat.testBit_zero]
  | k + 1 => by
    rw [takB, tak_cons e l s k, takB, List.append_assoc, Nat.testBit_succ]
    rfl
theorem tak_sel : ∀ (l : EL) (s : Nat), takB l s l.length = selB l s
  | [], _ => rfl
  | e :: l, s => by
    rw [List.length_cons, tak_cons, tak_sel l, selB]
    split <;> rfl
theorem tak_length (l : EL) (s : Nat) : ∀ k, (takB l s k).length ≤ k
  | 0 => Nat.le_refl _
  | k + 1 => by
    have := tak_length l s k
    rw [takB, List.length_append]
    split <;> simp <;> omega

/-! The whole sum; the table's edges. -/
theorem k_id (N : Nat) : kN N id = N := by
  unfold kN
  rw [List.filter_eq_self.2 (by simp), List.length_range]
def refN (N : Nat) (l : EL) (s i j : Nat) : Int :=
  pw (kN N (foldN id (selB l s)) - kN N (foldN id l)) i * pw ((selB l s).length + kN N (foldN id (selB l s)) - N) j
theorem tut_ref {N : Nat} {l : EL} (hl : ∀ x ∈ l, x.1 < N ∧ x.2 < N) (i j : Nat) : tutN id l i j = sumI (fun s => refN N l s i j) (2 ^ l.length) := by
  rw [tut_sets l (canon_id N) hl, ← set_sum]
  refine sumI_congr fun s _ => ?_
  unfold termN refN
  rw [k_id]
/-- As far as there is something. -/
structure IsDims (T : Nat → Nat → Int) (R C : Nat) : Prop where
  lt : ∀ i j, T i j ≠ 0 → i < R ∧ j < C
  row : ∀ r, R = r + 1 → ∃ j, T r j ≠ 0
  col : ∀ c, C = c + 1 → ∃ i, T i c ≠ 0
theorem IsDims.uniq {T : Nat → Nat → Int} {R C R' C' : Nat} (h : IsDims T R C) (h' : IsDims T R' C') : R = R' ∧ C = C' := by
  constructor
  · rcases Nat.lt_trichotomy R R' with e | e | e
    · obtain ⟨j, hj⟩ := h'.row (R' - 1) (by omega)
      have := (h.lt _ _ hj).1; omega
    · exact e
    · obtain ⟨j, hj⟩ := h.row (R - 1) (by omega)
      have := (h'.lt _ _ hj).1; omega
  · rcases Nat.lt_trichotomy C C' with e | e | e
    · obtain ⟨j, hj⟩ := h'.col (C' - 1) (by omega)
      have := (h.lt _ _ hj).2; omega
    · exact e
    · obtain ⟨j, hj⟩ := h.col (C - 1) (by omega)
      have := (h'.lt _ _ hj).2; omega
def tabL (T : Nat → Nat → Int) (R C : Nat) : List (List Int) := (List.range R).map fun i => (List.range C).map fun j => T i j

end Go.Proofs.Ytmhcnekbfngafaa
