/- Counting a graph: how many each node sees; pairs of edges that share a node. No program in sight. -/
import Derived.Test.YtnmljgjegodkaaaFormP
import Derived.Test.YtnmljgjegodkaaaPA
namespace Go.Proofs.Ytnmljgjegodkaaa
open Go.RowKit

/-- Does edge a touch node v? -/
def touch (l : List (Int × Int)) (a v : Nat) : Bool := decide ((l.getD a (0, 0)).1 = (v : Int) ∨ (l.getD a (0, 0)).2 = (v : Int))
/-- Do two edges share a node? -/
def share (l : List (Int × Int)) (a b : Nat) : Bool :=
  decide ((l.getD a (0, 0)).1 = (l.getD b (0, 0)).1 ∨ (l.getD a (0, 0)).1 = (l.getD b (0, 0)).2 ∨ (l.getD a (0, 0)).2 = (l.getD b (0, 0)).1 ∨ (l.getD a (0, 0)).2 = (l.getD b (0, 0)).2)

theorem adj_symm (l : List (Int × Int)) (i j : Nat) : adj l i j = adj l j i := by
  unfold adj hasE
  congr 1
  funext e
  unfold Meets
  congr 1
  exact propext ⟨fun h => h.symm, fun h => h.symm⟩
theorem adj_nil (i j : Nat) : adj [] i j = false := rfl

theorem GoodGraph.at {l : List (Int × Int)} {N : Nat} (hg : GoodGraph N l) {k : Nat} (hk : k < l.length) :
    ∃ X Y : Nat, l.getD k (0, 0) = ((X : Int), (Y : Int)) ∧ X < N ∧ Y < N ∧ X ≠ Y ∧ adj (l.take k) X Y = false := by
  obtain ⟨h1, h2, h3⟩ := hg.fine k hk
  generalize l.getD k (0, 0) = e at *
  obtain ⟨x, y⟩ := e
  unfold EndsOk at h1
  simp only at h1 h2 h3
  refine ⟨x.toNat, y.toNat, ?_, by omega, by omega, by omega, ?_⟩
  · rw [Int.toNat_of_nonneg h1.1, Int.toNat_of_nonneg h1.2.1]
  · unfold adj; rw [Int.toNat_of_nonneg h1.1, Int.toNat_of_nonneg h1.2.1]; exact h3

theorem deg_step {l : List (Int × Int)} {N k X Y : Nat} (hk : k < l.length) (he : l.getD k (0, 0) = ((X : Int), (Y : Int))) (hX : X < N) (hY : Y < N) (hne : X ≠ Y) (h0 : adj (l.take k) X Y = false) (v : Nat) :
    cntN N (adj (l.take (k + 1)) v) = cntN N (adj (l.take k) v) + ((if v = X then 1 else 0) + (if v = Y then 1 else 0)) := by
  by_cases e1 : v = X
  · subst e1
    rw [if_pos rfl, if_neg hne, ← cntN_one hY h0]
    refine cntN_congr fun j _ => ?_
    rw [← adj_succ hk he, if_neg (fun h => hne h.1)]
    by_cases e : j = Y <;> simp [e]
  · by_cases e2 : v = Y
    · subst e2
      rw [if_neg e1, if_pos rfl, ← cntN_one hX (by rw [adj_symm]; exact h0)]
      refine cntN_congr fun j _ => ?_
      rw [← adj_succ hk he]
      by_cases e : j = X
      · simp [e]
      · rw [if_neg (fun h => e h.2), if_neg (fun h => e1 h.1)]; simp [e]
    · rw [if_neg e1, if_neg e2]
      refine cntN_congr fun j _ => ?_
      rw [← adj_succ hk he, if_neg (fun h => e2 h.1), if_neg (fun h => e1 h.1)]

theorem touch_at {l : List (Int × Int)} {k X Y : Nat} (he : l.getD k (0, 0) = ((X : Int), (Y : Int))) (v : Nat) : touch l k v = decide (v = X ∨ v = Y) := by
  unfold touch; rw [he]
  simp only [decide_eq_decide]
  omega
theorem touch_step {l : List (Int × Int)} {k X Y : Nat} (he : l.getD k (0, 0) = ((X : Int), (Y : Int))) (hne : X ≠ Y) (v : Nat) :
    cntN (k + 1) (fun a => touch l a v) = cntN k (fun a => touch l a v) + ((if v = X then 1 else 0) + (if v = Y then 1 else 0)) := by
  rw [cntN_succ, touch_at he]
  by_cases e1 : v = X
  · have : ¬ v = Y := by omega
    simp [e1, hne]
  · by_cases e2 : v = Y
    · simp [e2, Ne.symm hne]
    · simp [e1, e2]

/-- Nodes see as many as there are edges, twice; and as many as edges touch them. -/
theorem deg_all {l : List (Int × Int)} {N : Nat} (hg : GoodGraph N l) : ∀ k, k ≤ l.length → (∀ v, cntN N (adj (l.take k) v) = cntN k (fun a => touch l a v)) ∧ sumN N (fun v => cntN N (adj (l.take k) v)) = 2 * k := by
  intro k
  induction k with
  | zero =>
    intro _
    have h0 : ∀ v, cntN N (adj (l.take 0) v) = 0 := fun v => by
      rw [cntN_congr (q := fun _ => false) (fun j _ => by simp [adj_nil]), cntN_false]
    exact ⟨fun v => h0 v, by rw [sumN_congr (g := fun _ => 0) (fun v _ => h0 v), sumN_const0]⟩
  | succ k ih =>
    intro hk
    obtain ⟨i1, i2⟩ := ih (by omega)
    obtain ⟨X, Y, he, hX, hY, hne, h0⟩ := hg.at (show k < l.length by omega)
    refine ⟨fun v => by rw [deg_step (by omega) he hX hY hne h0, touch_step he hne, i1], ?_⟩
    rw [sumN_congr (fun v _ => deg_step (by omega) he hX hY hne h0 v), sumN_add, sumN_add, i2, sumN_pick hX, sumN_pick hY]
    omega

theorem half_step (T : Nat) : (T + 1) * (T + 1 - 1) / 2 = T * (T - 1) / 2 + T := by
  cases T with
  | zero => rfl
  | succ t =>
    have e : (t + 1 + 1) * (t + 1 + 1 - 1) = (t + 1) * (t + 1 - 1) + 2 * (t + 1) := by
      simp only [Nat.add_sub_cancel, Nat.add_mul, Nat.mul_add]; omega
    rw [e, Nat.add_mul_div_left _ _ (by omega : 0 < 2)]

theorem share_at {l : List (Int × Int)} {a k X Y : Nat} (he : l.getD k (0, 0) = ((X : Int), (Y : Int))) : share l a k = (touch l a X || touch l a Y) := by
  unfold share touch
  rw [he, Bool.eq_iff_iff]
  simp only [decide_eq_true_eq, Bool.or_eq_true]
  omega
theorem touch_both {l : List (Int × Int)} {a k X Y : Nat} (ha : a < k) (hk : k < l.length) (h0 : adj (l.take k) X Y = false) (hne : X ≠ Y) (h : touch l a X = true) : touch l a Y = false := by
  refine decide_eq_false fun h' => ?_
  have h := of_decide_eq_true h
  have hm : Meets (l.getD a (0, 0)) X Y := by unfold Meets; omega
  have ha' : a < (l.take k).length := by simp; omega
  have e' : (l.take k).getD a (0, 0) = l.getD a (0, 0) := by simp [List.getD, ha]
  have := hasE_yes (l := l.take k) ha' (by rw [e']; exact hm)
  unfold adj at h0
  rw [this] at h0
  cases h0

/-- As many pairs of edges share a node as there are pairs of edges at the nodes. -/
theorem share_pairs {l : List (Int × Int)} {N : Nat} (hg : GoodGraph N l) : ∀ k, k ≤ l.length → (prsTo k (share l) k).length = sumN N (fun v => cntN k (fun a => touch l a v) * (cntN k (fun a => touch l a v) - 1) / 2) := by
  intro k
  induction k with
  | zero =>
    intro _
    rw [sumN_congr (g := fun _ => 0) (fun v _ => by rw [cntN_zero]), sumN_const0]; rfl
  | succ k ih =>
    intro hk
    obtain ⟨X, Y, he, hX, hY, hne, h0⟩ := hg.at (show k < l.length by omega)
    rw [prsTo_len_succ, ih (by omega)]
    have e1 : cntN k (fun i => share l i k) = cntN k (fun a => touch l a X) + cntN k (fun a => touch l a Y) := by
      rw [← cntN_or]
      · exact cntN_congr fun i _ => share_at he
      · exact fun i hi h => touch_both hi (by omega) h0 hne h
    have e2 : ∀ v, cntN (k + 1) (fun a => touch l a v) * (cntN (k + 1) (fun a => touch l a v) - 1) / 2 = cntN k (fun a => touch l a v) * (cntN k (fun a => touch l a v) - 1) / 2 + ((if v = X then cntN k (fun a => touch l a X) else 0) + (if v = Y then cntN k (fun a => touch l a Y) else 0)) := by
      intro v
      rw [touch_step he hne]
      by_cases q1 : v = X
      · subst q1
        rw [if_pos rfl, if_neg hne, if_pos rfl, if_neg hne, Nat.add_zero, half_step, Nat.add_zero]
      · by_cases q2 : v = Y
        · subst q2
          rw [if_neg q1, if_pos rfl, if_neg q1, if_pos rfl, Nat.zero_add, half_step, Nat.zero_add]
        · rw [if_neg q1, if_neg q2, if_neg q1, if_neg q2]; rfl
    rw [sumN_congr (fun v _ => e2 v), sumN_add, sumN_add, sumN_pick hX, sumN_pick hY, e1]

end Go.Proofs.Ytnmljgjegodkaaa
