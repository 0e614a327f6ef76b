/- What functions of one graph find, and what comes back. Edges in form: normed and in order they are the table's pairs. No program in sight. Counting a graph: how many each node sees; pairs of edges that share a node. No program in sight. The nodes that a node sees, rising. No program in sight. A table of rows of one's own, in memory: rows grow. No library's sort. Rows of nodes of one's own; the row of those that are done. Rows of integers of one's own, in a row. A graph as an argument, in its box, and the fault that is answered. No program in sight. -/
import Derived.Test.YtnhhohhhpaejmaaPA
import Derived.Test.YtnhhohhhpaejmaaGood
import Derived.Test.YtnhhohhhpaejmaaHasGrid
import Derived.Test.YtnhhohhhpaejmaaPT
import Derived.Test.YtnhhohhhpaejmaaPB
import Derived.Maps.RangeWalk
namespace Go.Proofs.Ytnhhohhhpaejmaa
open Go.RowKit

/-- A graph and a fault come back. -/
def TwoPost (N' : Int) (L' : List (Int × Int)) (c' a' : Int) (w : World) (e : Ending) (w' : World) : Prop :=
  ∃ v, OwnE w' w.heap.size v L' ∧ Below w.heap.size w w' ∧ e = .returned (.tuple #[.agg #[.int .i64 N', v], .agg #[.int .i64 c', .int .i64 a']])

/-- What a function of one graph finds: the graph's own variable, two results. -/
structure CSt (w wr : World) (n : Int) (s : Value) (l : List (Int × Int)) : Prop where
  hb : Below w.heap.size w wr
  cn : wr.cell? ⟨w.heap.size, 0, none⟩ = some (.int .i64 n)
  cs : wr.cell? ⟨w.heap.size, 1, none⟩ = some s
  r0 : wr.rowIs (w.heap.size + 1) 24 2 (fun i => if i = 0 then .int .i64 0 else .slice none 0 0)
  r1 : wr.rowIs (w.heap.size + 1 + 1) 27 2 (fun i => if i = 0 then .int .i64 0 else .int .i64 0)
  he : IsEdges wr s l
theorem CSt.start {w : World} {n : Int} {s : Value} {l : List (Int × Int)} (h : IsEdges w s l) : CSt w (((w.alloc (Obj.cells #[.int .i64 n, s] 24)).alloc (Obj.cells #[.int .i64 0, .slice none 0 0] 24)).alloc (Obj.cells #[.int .i64 0, .int .i64 0] 27)) n s l := by
  have h1 := two_cells w (.int .i64 n) s 24
  have r0 := two_row (w.alloc (Obj.cells #[.int .i64 n, s] 24)) (.int .i64 0) (.slice none 0 0) 24
  have r1 := two_row ((w.alloc (Obj.cells #[.int .i64 n, s] 24)).alloc (Obj.cells #[.int .i64 0, .slice none 0 0] 24)) (.int .i64 0) (.int .i64 0) 27
  rw [World.size_alloc] at r0
  rw [World.size_alloc, World.size_alloc] at r1
  have hb := (below2 w (Obj.cells #[.int .i64 n, s] 24) (Obj.cells #[.int .i64 0, .slice none 0 0] 24)).alloc (by simp; omega) (Obj.cells #[.int .i64 0, .int .i64 0] 27)
  exact ⟨hb, below_cell (below2 _ _ _) h1.1, below_cell (below2 _ _ _) h1.2, r0.alloc _, r1, h.below hb⟩
theorem CSt.below {w wr w' : World} {n : Int} {s : Value} {l : List (Int × Int)} (h : CSt w wr n s l) (hb : Below wr.heap.size wr w') : CSt w w' n s l :=
  ⟨h.hb.trans (hb.mono h.hb.size), below_cell hb h.cn, below_cell hb h.cs, h.r0.of_block (hb.block _ h.r0.lt), h.r1.of_block (hb.block _ h.r1.lt), h.he.below hb⟩


end Go.Proofs.Ytnhhohhhpaejmaa
namespace Go.Proofs.Ytnhhohhhpaejmaa
open Go.RowKit

theorem norm_meets (e : Int × Int) : Meets e (norm e).1 (norm e).2 := by
  unfold Meets norm
  by_cases h : e.1 ≤ e.2 <;> simp [h]
theorem meets_norm {e : Int × Int} {a b : Int} (h : Meets e a b) (hab : a < b) : norm e = (a, b) := by
  obtain ⟨x, y⟩ := e
  unfold Meets at h
  unfold norm
  simp only at *
  rcases h with ⟨rfl, rfl⟩ | ⟨rfl, rfl⟩
  · have : x ≤ y := by omega
    simp [this]
  · have : ¬ x ≤ y := by omega
    simp [this]
theorem norm_lt {e : Int × Int} (h : e.1 ≠ e.2) : (norm e).1 < (norm e).2 := by
  unfold norm
  by_cases h' : e.1 ≤ e.2
  · simp only [h', if_true]; omega
  · simp only [h', if_false]; omega
theorem norm_ends {e : Int × Int} {n : Int} (h : EndsOk n e) : EndsOk n (norm e) := by
  unfold EndsOk norm at *
  by_cases h' : e.1 ≤ e.2 <;> simp only [h', if_true, if_false] <;> omega

theorem form_mem {l : List (Int × Int)} {N : Nat} (hg : GoodGraph N l) (e : Int × Int) : e ∈ l.map norm ↔ e ∈ prsTo N (adj l) N := by
  rw [mem_prsTo, List.mem_map]
  constructor
  · rintro ⟨f, hf, rfl⟩
    obtain ⟨k, hk, rfl⟩ := List.getElem_of_mem hf
    have hfine := hg.fine k hk
    have eg : l.getD k (0, 0) = l[k] := by simp [List.getD, hk]
    have h1 := norm_ends hfine.1
    have h2 := norm_lt hfine.2.1
    rw [eg] at h1 h2
    unfold EndsOk at h1
    refine ⟨(norm l[k]).1.toNat, (norm l[k]).2.toNat, by omega, by omega, by omega, ?_, ?_⟩
    · unfold adj
      refine hasE_yes hk ?_
      rw [eg, Int.toNat_of_nonneg (by omega), Int.toNat_of_nonneg (by omega)]
      exact norm_meets _
    · rw [Int.toNat_of_nonneg (by omega), Int.toNat_of_nonneg (by omega)]
  · rintro ⟨i, j, h1, h2, h3, h4, rfl⟩
    unfold adj hasE at h4
    obtain ⟨f, hf, hm⟩ := List.any_eq_true.1 h4
    exact ⟨f, hf, meets_norm (of_decide_eq_true hm) (by omega)⟩

theorem meets_of_norm {e f : Int × Int} (h : norm e = norm f) : Meets e f.1 f.2 := by
  have h1 := norm_meets e
  rw [h] at h1
  unfold norm at h1
  by_cases h' : f.1 ≤ f.2
  · simp only [h', if_true] at h1; exact h1
  · simp only [h', if_false] at h1; unfold Meets at *; omega

theorem form_nodup {l : List (Int × Int)} {N : Int} (hg : GoodGraph N l) : (l.map norm).Nodup := by
  rw [List.Nodup, List.pairwise_map, List.pairwise_iff_getElem]
  intro i j hi hj hij e
  have hfine := (hg.fine j hj).2.2
  have ej : l.getD j (0, 0) = l[j] := by simp [List.getD, hj]
  rw [ej] at hfine
  have hi' : i < (l.take j).length := by simp; omega
  have := hasE_yes (l := l.take j) (a := l[j].1) (b := l[j].2) hi' (by
    have e' : (l.take j).getD i (0, 0) = l[i] := by simp [List.getD, hij, hi]
    rw [e']
    exact meets_of_norm e)
  rw [this] at hfine
  cases hfine

theorem form_is_prs {l L' : List (Int × Int)} {N : Nat} (hg : GoodGraph N l) (hp : L'.Perm (l.map norm)) (hs : L'.Pairwise fun a b => ¬ LexLt b a) : L' = prsTo N (adj l) N :=
  rise_uniq LexLt.irr LexLt.tr (rise_of hs (hp.nodup_iff.2 (form_nodup hg))) (prsTo_rise _ _ _) fun e => by rw [hp.mem_iff]; exact form_mem hg e

theorem adj_prs {N i j : Nat} {p : Nat → Nat → Bool} (hij : i < j) (hj : j < N) : adj (prsTo N p N) i j = p i j := by
  unfold adj
  cases h : p i j with
  | true =>
    have hm : ((i : Int), (j : Int)) ∈ prsTo N p N := mem_prsTo.2 ⟨i, j, by omega, hij, hj, h, rfl⟩
    unfold hasE
    exact List.any_eq_true.2 ⟨_, hm, by simp [Meets]⟩
  | false =>
    unfold hasE
    refine List.any_eq_false.2 fun e he hm => ?_
    obtain ⟨i', j', -, h2, -, h4, rfl⟩ := mem_prsTo.1 he
    have hm := of_decide_eq_true hm
    unfold Meets at hm
    simp only at hm
    have e1 : i' = i := by omega
    have e2 : j' = j := by omega
    rw [e1, e2, h] at h4
    cases h4

theorem good_rise {N : Nat} {L : List (Int × Int)} (hN : N ≤ 100) (hl : L.length ≤ 1000) (hr : L.Pairwise LexLt) (h : ∀ e ∈ L, 0 ≤ e.1 ∧ e.1 < e.2 ∧ e.2 < (N : Int)) : GoodGraph N L where
  lo := by omega
  hi := by omega
  len := hl
  fine := fun j hj => by
    have ej : L.getD j (0, 0) = L[j] := by simp [List.getD, hj]
    have hj' := h L[j] (List.getElem_mem hj)
    refine ⟨?_, ?_, ?_⟩
    · rw [ej]; unfold EndsOk; omega
    · rw [ej]; omega
    · refine hasE_no fun k hk hm => ?_
      have hk' : k < j := by simp at hk; omega
      have hkl : k < L.length := by omega
      have ek : (L.take j).getD k (0, 0) = L[k] := by simp [List.getD, hk', hkl]
      rw [ej, ek] at hm
      have := List.pairwise_iff_getElem.1 hr k j hkl hj hk'
      have hk2 := h L[k] (List.getElem_mem hkl)
      unfold Meets at hm
      unfold LexLt at this
      omega
theorem prs_ends {N : Nat} {p : Nat → Nat → Bool} : ∀ e ∈ prsTo N p N, 0 ≤ e.1 ∧ e.1 < e.2 ∧ e.2 < (N : Int) := fun e he => by
  obtain ⟨i, j, h1, h2, h3, -, rfl⟩ := mem_prsTo.1 he
  simp only; omega
theorem good_prs {N : Nat} {p : Nat → Nat → Bool} (hN : N ≤ 100) (hl : (prsTo N p N).length ≤ 1000) : GoodGraph N (prsTo N p N) := good_rise hN hl (prsTo_rise _ _ _) prs_ends
/-- A graph in form has as many edges as the graph. -/
theorem form_length {l : List (Int × Int)} {N : Nat} (hg : GoodGraph N l) : (prsTo N (adj l) N).length = l.length := by
  have h1 : (prsTo N (adj l) N).Perm (l.map norm) := (List.perm_ext_iff_of_nodup (rise_nodup (prsTo_rise _ _ _)) (form_nodup hg)).2 fun e => (form_mem hg e).symm
  rw [h1.length_eq, List.length_map]

end Go.Proofs.Ytnhhohhhpaejmaa
namespace Go.Proofs.Ytnhhohhhpaejmaa
open Go.RowKit

/-- Does edge a touch node v? -/
def touch (l : List (Int × Int)) (a v : Nat) : Bool := decide ((l.getD a (0, 0)).1 = (v : Int) ∨ (l.getD a (0, 0)).2 = (v : Int))
/-- Do two edges share a node? -/
def share (l : List (Int × Int)) (a b : Nat) : Bool :=
  decide ((l.getD a (0, 0)).1 = (l.getD b (0, 0)).1 ∨ (l.getD a (0, 0)).1 = (l.getD b (0, 0)).2 ∨ (l.getD a (0, 0)).2 = (l.getD b (0, 0)).1 ∨ (l.getD a (0, 0)).2 = (l.getD b (0, 0)).2)

theorem adj_symm (l : List (Int × Int)) (i j : Nat) : adj l i j = adj l j i := by
  unfold adj hasE
  congr 1
  funext e
  unfold Meets
  congr 1
  exact propext ⟨fun h => h.symm, fun h => h.symm⟩
theorem adj_nil (i j : Nat) : adj [] i j = false := rfl

theorem GoodGraph.at {l : List (Int × Int)} {N : Nat} (hg : GoodGraph N l) {k : Nat} (hk : k < l.length) :
    ∃ X Y : Nat, l.getD k (0, 0) = ((X : Int), (Y : Int)) ∧ X < N ∧ Y < N ∧ X ≠ Y ∧ adj (l.take k) X Y = false := by
  obtain ⟨h1, h2, h3⟩ := hg.fine k hk
  generalize l.getD k (0, 0) = e at *
  obtain ⟨x, y⟩ := e
  unfold EndsOk at h1
  simp only at h1 h2 h3
  refine ⟨x.toNat, y.toNat, ?_, by omega, by omega, by omega, ?_⟩
  · rw [Int.toNat_of_nonneg h1.1, Int.toNat_of_nonneg h1.2.1]
  · unfold adj; rw [Int.toNat_of_nonneg h1.1, Int.toNat_of_nonneg h1.2.1]; exact h3

theorem deg_step {l : List (Int × Int)} {N k X Y : Nat} (hk : k < l.length) (he : l.getD k (0, 0) = ((X : Int), (Y : Int))) (hX : X < N) (hY : Y < N) (hne : X ≠ Y) (h0 : adj (l.take k) X Y = false) (v : Nat) :
    cntN N (adj (l.take (k + 1)) v) = cntN N (adj (l.take k) v) + ((if v = X then 1 else 0) + (if v = Y then 1 else 0)) := by
  by_cases e1 : v = X
  · subst e1
    rw [if_pos rfl, if_neg hne, ← cntN_one hY h0]
    refine cntN_congr fun j _ => ?_
    rw [← adj_succ hk he, if_neg (fun h => hne h.1)]
    by_cases e : j = Y <;> simp [e]
  · by_cases e2 : v = Y
    · subst e2
      rw [if_neg e1, if_pos rfl, ← cntN_one hX (by rw [adj_symm]; exact h0)]
      refine cntN_congr fun j _ => ?_
      rw [← adj_succ hk he]
      by_cases e : j = X
      · simp [e]
      · rw [if_neg (fun h => e h.2), if_neg (fun h => e1 h.1)]; simp [e]
    · rw [if_neg e1, if_neg e2]
      refine cntN_congr fun j _ => ?_
      rw [← adj_succ hk he, if_neg (fun h => e2 h.1), if_neg (fun h => e1 h.1)]

theorem touch_at {l : List (Int × Int)} {k X Y : Nat} (he : l.getD k (0, 0) = ((X : Int), (Y : Int))) (v : Nat) : touch l k v = decide (v = X ∨ v = Y) := by
  unfold touch; rw [he]
  simp only [decide_eq_decide]
  omega
theorem touch_step {l : List (Int × Int)} {k X Y : Nat} (he : l.getD k (0, 0) = ((X : Int), (Y : Int))) (hne : X ≠ Y) (v : Nat) :
    cntN (k + 1) (fun a => touch l a v) = cntN k (fun a => touch l a v) + ((if v = X then 1 else 0) + (if v = Y then 1 else 0)) := by
  rw [cntN_succ, touch_at he]
  by_cases e1 : v = X
  · have : ¬ v = Y := by omega
    simp [e1, hne]
  · by_cases e2 : v = Y
    · simp [e2, Ne.symm hne]
    · simp [e1, e2]

/-- Nodes see as many as there are edges, twice; and as many as edges touch them. -/
theorem deg_all {l : List (Int × Int)} {N : Nat} (hg : GoodGraph N l) : ∀ k, k ≤ l.length → (∀ v, cntN N (adj (l.take k) v) = cntN k (fun a => touch l a v)) ∧ sumN N (fun v => cntN N (adj (l.take k) v)) = 2 * k := by
  intro k
  induction k with
  | zero =>
    intro _
    have h0 : ∀ v, cntN N (adj (l.take 0) v) = 0 := fun v => by
      rw [cntN_congr (q := fun _ => false) (fun j _ => by simp [adj_nil]), cntN_false]
    exact ⟨fun v => h0 v, by rw [sumN_congr (g := fun _ => 0) (fun v _ => h0 v), sumN_const0]⟩
  | succ k ih =>
    intro hk
    obtain ⟨i1, i2⟩ := ih (by omega)
    obtain ⟨X, Y, he, hX, hY, hne, h0⟩ := hg.at (show k < l.length by omega)
    refine ⟨fun v => by rw [deg_step (by omega) he hX hY hne h0, touch_step he hne, i1], ?_⟩
    rw [sumN_congr (fun v _ => deg_step (by omega) he hX hY hne h0 v), sumN_add, sumN_add, i2, sumN_pick hX, sumN_pick hY]
    omega

theorem half_step (T : Nat) : (T + 1) * (T + 1 - 1) / 2 = T * (T - 1) / 2 + T := by
  cases T with
  | zero => rfl
  | succ t =>
    have e : (t + 1 + 1) * (t + 1 + 1 - 1) = (t + 1) * (t + 1 - 1) + 2 * (t + 1) := by
      simp only [Nat.add_sub_cancel, Nat.add_mul, Nat.mul_add]; omega
    rw [e, Nat.add_mul_div_left _ _ (by omega : 0 < 2)]

theorem share_at {l : List (Int × Int)} {a k X Y : Nat} (he : l.getD k (0, 0) = ((X : Int), (Y : Int))) : share l a k = (touch l a X || touch l a Y) := by
  unfold share touch
  rw [he, Bool.eq_iff_iff]
  simp only [decide_eq_true_eq, Bool.or_eq_true]
  omega
theorem touch_both {l : List (Int × Int)} {a k X Y : Nat} (ha : a < k) (hk : k < l.length) (h0 : adj (l.take k) X Y = false) (hne : X ≠ Y) (h : touch l a X = true) : touch l a Y = false := by
  refine decide_eq_false fun h' => ?_
  have h := of_decide_eq_true h
  have hm : Meets (l.getD a (0, 0)) X Y := by unfold Meets; omega
  have ha' : a < (l.take k).length := by simp; omega
  have e' : (l.take k).getD a (0, 0) = l.getD a (0, 0) := by simp [List.getD, ha]
  have := hasE_yes (l := l.take k) ha' (by rw [e']; exact hm)
  unfold adj at h0
  rw [this] at h0
  cases h0

/-- As many pairs of edges share a node as there are pairs of edges at the nodes. -/
theorem share_pairs {l : List (Int × Int)} {N : Nat} (hg : GoodGraph N l) : ∀ k, k ≤ l.length → (prsTo k (share l) k).length = sumN N (fun v => cntN k (fun a => touch l a v) * (cntN k (fun a => touch l a v) - 1) / 2) := by
  intro k
  induction k with
  | zero =>
    intro _
    rw [sumN_congr (g := fun _ => 0) (fun v _ => by rw [cntN_zero]), sumN_const0]; rfl
  | succ k ih =>
    intro hk
    obtain ⟨X, Y, he, hX, hY, hne, h0⟩ := hg.at (show k < l.length by omega)
    rw [prsTo_len_succ, ih (by omega)]
    have e1 : cntN k (fun i => share l i k) = cntN k (fun a => touch l a X) + cntN k (fun a => touch l a Y) := by
      rw [← cntN_or]
      · exact cntN_congr fun i _ => share_at he
      · exact fun i hi h => touch_both hi (by omega) h0 hne h
    have e2 : ∀ v, cntN (k + 1) (fun a => touch l a v) * (cntN (k + 1) (fun a => touch l a v) - 1) / 2 = cntN k (fun a => touch l a v) * (cntN k (fun a => touch l a v) - 1) / 2 + ((if v = X then cntN k (fun a => touch l a X) else 0) + (if v = Y then cntN k (fun a => touch l a Y) else 0)) := by
      intro v
      rw [touch_step he hne]
      by_cases q1 : v = X
      · subst q1
        rw [if_pos rfl, if_neg hne, if_pos rfl, if_neg hne, Nat.add_zero, half_step, Nat.add_zero]
      · by_cases q2 : v = Y
        · subst q2
          rw [if_neg q1, if_pos rfl, if_neg q1, if_pos rfl, Nat.zero_add, half_step, Nat.zero_add]
        · rw [if_neg q1, if_neg q2, if_neg q1, if_neg q2]; rfl
    rw [sumN_congr (fun v _ => e2 v), sumN_add, sumN_add, sumN_pick hX, sumN_pick hY, e1]

end Go.Proofs.Ytnhhohhhpaejmaa
namespace Go.Proofs.Ytnhhohhhpaejmaa
open Go.RowKit

/-- What node v sees, rising. -/
def nbrs (l : List (Int × Int)) (N v : Nat) : List Nat := (List.range N).filter (adj l v)
/-- .. in the order of the first k edges. -/
def nbA (l : List (Int × Int)) (v : Nat) : Nat → List Nat
  | 0 => []
  | k + 1 => nbA l v k ++ (if (l.getD k (0, 0)).1.toNat = v then [(l.getD k (0, 0)).2.toNat] else []) ++ (if (l.getD k (0, 0)).2.toNat = v then [(l.getD k (0, 0)).1.toNat] else [])
theorem nbA_succ {l : List (Int × Int)} {k X Y : Nat} (he : l.getD k (0, 0) = ((X : Int), (Y : Int))) (v : Nat) :
    nbA l v (k + 1) = nbA l v k ++ (if X = v then [Y] else []) ++ (if Y = v then [X] else []) := by
  rw [nbA, he]; simp only [Int.toNat_natCast]

theorem nbA_mem {l : List (Int × Int)} {N : Nat} (hg : GoodGraph N l) (v : Nat) : ∀ k, k ≤ l.length → ∀ u, u ∈ nbA l v k ↔ (u < N ∧ adj (l.take k) v u = true) := by
  intro k
  induction k with
  | zero => intro _ u; simp [nbA, adj_nil]
  | succ k ih =>
    intro hk u
    obtain ⟨X, Y, he, hX, hY, hne, -⟩ := hg.at (show k < l.length by omega)
    rw [nbA_succ he, List.mem_append, List.mem_append, ih (by omega), ← adj_succ (by omega) he]
    by_cases e1 : X = v
    · subst e1
      rw [if_pos rfl, if_neg (Ne.symm hne)]
      by_cases e2 : u = Y
      · subst e2; simp [hY]
      · simp [e2, hne]
    · by_cases e2 : Y = v
      · subst e2
        rw [if_neg e1, if_pos rfl]
        by_cases e3 : u = X
        · subst e3; simp [hX]
        · simp [e3, Ne.symm e1]
      · rw [if_neg e1, if_neg e2]
        simp [Ne.symm e1, Ne.symm e2]
theorem nbA_nodup {l : List (Int × Int)} {N : Nat} (hg : GoodGraph N l) (v : Nat) : ∀ k, k ≤ l.length → (nbA l v k).Nodup := by
  intro k
  induction k with
  | zero => intro _; exact List.nodup_nil
  | succ k ih =>
    intro hk
    obtain ⟨X, Y, he, hX, hY, hne, h0⟩ := hg.at (show k < l.length by omega)
    have hi := ih (by omega)
    rw [nbA_succ he]
    by_cases e1 : X = v
    · subst e1
      rw [if_pos rfl, if_neg (Ne.symm hne), List.append_nil, List.nodup_append]
      refine ⟨hi, by simp, fun a ha b hb e => ?_⟩
      rw [List.mem_singleton] at hb
      subst hb e
      have := ((nbA_mem hg X k (by omega) a).1 ha).2
      rw [h0] at this
      cases this
    · by_cases e2 : Y = v
      · subst e2
        rw [if_neg e1, if_pos rfl, List.append_nil, List.nodup_append]
        refine ⟨hi, by simp, fun a ha b hb e => ?_⟩
        rw [List.mem_singleton] at hb
        subst hb e
        have := ((nbA_mem hg Y k (by omega) a).1 ha).2
        rw [adj_symm, h0] at this
        cases this
      · rw [if_neg e1, if_neg e2, List.append_nil, List.append_nil]; exact hi
theorem nbA_len (l : List (Int × Int)) (v : Nat) : ∀ k, (nbA l v k).length ≤ 2 * k
  | 0 => Nat.le_refl _
  | k + 1 => by
    have := nbA_len l v k
    rw [nbA, List.length_append, List.length_append]
    split <;> split <;> simp <;> omega

/-- Sorted, they rise. -/
theorem nbA_sorted {l : List (Int × Int)} {N : Nat} (hg : GoodGraph N l) (v : Nat) : (ints (nbA l v l.length)).mergeSort (fun x y => decide (x ≤ y)) = ints (nbrs l N v) := by
  have hperm := List.mergeSort_perm (ints (nbA l v l.length)) (fun x y : Int => decide (x ≤ y))
  have hnd : (ints (nbA l v l.length)).Nodup := by
    unfold ints
    rw [List.Nodup, List.pairwise_map]
    exact (nbA_nodup hg v l.length (Nat.le_refl _)).imp fun {a b} h e => h (by omega)
  have hs : ((ints (nbA l v l.length)).mergeSort (fun x y => decide (x ≤ y))).Pairwise (fun a b => decide (a ≤ b) = true) :=
    List.pairwise_mergeSort (by intro a b c; simp; omega) (by intro a b; simp; omega) _
  refine rise_uniq (lt := fun a b : Int => a < b) (fun a h => Int.lt_irrefl a h) (fun a b c => Int.lt_trans) ?_ ?_ fun a => ?_
  · refine List.Pairwise.imp₂ ?_ hs (hperm.nodup_iff.2 hnd)
    intro a b h1 h2
    have := of_decide_eq_true h1
    omega
  · unfold ints nbrs
    rw [List.pairwise_map]
    exact (List.Pairwise.filter _ List.pairwise_lt_range).imp fun {a b} h => by omega
  · rw [hperm.mem_iff]
    unfold ints nbrs
    simp only [List.mem_map, List.mem_filter, List.mem_range]
    constructor
    · rintro ⟨u, hu, rfl⟩
      have := (nbA_mem hg v l.length (Nat.le_refl _) u).1 hu
      rw [List.take_length] at this
      exact ⟨u, this, rfl⟩
    · rintro ⟨u, hu, rfl⟩
      refine ⟨u, (nbA_mem hg v l.length (Nat.le_refl _) u).2 ?_, rfl⟩
      rw [List.take_length]; exact hu
theorem nbrs_length (l : List (Int × Int)) (N v : Nat) : (nbrs l N v).length = cntN N (adj l v) := rfl

end Go.Proofs.Ytnhhohhhpaejmaa
namespace Go.Proofs.Ytnhhohhhpaejmaa
open Go.RowKit

/-- The cells of a list of nodes. -/
abbrev nvals (l : List Nat) : List Value := (ints l).map (Value.int .i64)
theorem nvals_length (l : List Nat) : (nvals l).length = l.length := by simp [nvals, ints]
theorem nvals_append (a b : List Nat) : nvals (a ++ b) = nvals a ++ nvals b := by simp [nvals, ints]
theorem nvals_take (a : List Nat) (k : Nat) : (nvals a).take k = nvals (a.take k) := by simp [nvals, ints, List.map_take]
theorem nvals_at {a : List Nat} {i : Nat} (h : i < a.length) : (nvals a)[i]? = some (.int .i64 (a.getD i 0 : Nat)) := by simp [nvals, ints, List.getD, List.getElem?_eq_getElem h]
/-- Row r has grown. -/
def growN (X : Nat → List Nat) (r : Nat) (m : List Nat) : Nat → List Nat := fun q => if q = r then X r ++ m else X q
/-- Row r is another one. -/
def putN (X : Nat → List Nat) (r : Nat) (m : List Nat) : Nat → List Nat := fun q => if q = r then m else X q

/-- N rows, in a table. -/
structure NB (w : World) (B N : Nat) (V : Nat → Value) (X : Nat → List Nat) : Prop where
  ro : w.rowIs B 29 N V
  bk : Bank w (B + 1) 3 N V (fun r => nvals (X r))
section
variable {w w' : World} {B N : Nat} {V : Nat → Value} {X : Nat → List Nat}
theorem NB.below (h : NB w B N V X) (hb : Below w.heap.size w w') : NB w' B N V X := ⟨h.ro.of_block (hb.block _ h.ro.lt), h.bk.below hb⟩
theorem NB.form (h : NB w B N V X) {r : Nat} (hr : r < N) : ∃ a c, V r = .slice a (X r).length c := by
  have := h.bk.own r hr
  rw [nvals_length] at this
  exact ownsRow_form this
theorem NB.owns (h : NB w B N V X) {r : Nat} (hr : r < N) : w.ownsRow (B + 1) 3 1 (V r) (X r).length (nvals (X r)) := by
  have := h.bk.own r hr
  rwa [nvals_length] at this
theorem NB.low (h : NB w B N V X) {r : Nat} (hr : r < N) : ∀ g, (V r).ownBlock = some g → B + 1 ≤ g ∧ g < w.heap.size := fun g e => (h.bk.own r hr).lt g e
theorem NB.congr {X' : Nat → List Nat} (h : NB w B N V X) (e : ∀ r, r < N → X r = X' r) : NB w B N V X' := ⟨h.ro, h.bk.congr (fun _ _ => rfl) fun r hr => by rw [e r hr]⟩
/-- Behind 'append', ahead of the store. -/
theorem NB.mid (h : NB w B N V X) {r : Nat} (hr : r < N) (hg : w.grownBy w' (V r).ownBlock) : w'.rowIs B 29 N V :=
  h.ro.of_block (hg.block _ h.ro.lt (fun e => by have := (h.low hr _ e.symm).1; omega))
theorem NB.app (h : NB w B N V X) {r : Nat} (hr : r < N) {v' : Value} {m : List Nat} (ho : w'.ownsRow (B + 1) 3 1 v' ((X r).length + m.length) (nvals (X r) ++ nvals m)) (hg : w.grownBy w' (V r).ownBlock) (hat : v'.ownBlock = (V r).ownBlock ∨ v'.ownBlock = some w.heap.size) :
    NB (w'.setCell ⟨B, r, none⟩ v') B N (fun q => if q = r then v' else V q) (growN X r m) := by
  have hm := h.mid hr hg
  refine ⟨hm.set r v', ?_⟩
  have h1 := (h.bk.app hr (news := nvals m) (by rw [nvals_length, nvals_length]; exact ho) hg hat).set (show B < B + 1 by omega) r v'
  refine h1.congr (fun _ _ => rfl) fun q _ => ?_
  unfold growN
  by_cases e : q = r
  · simp [e, nvals, ints]
  · simp [e]
/-- Row r holds others, where it lies. -/
theorem NB.put (h : NB w B N V X) {r : Nat} (hr : r < N) {m : List Nat} (ho : w'.ownsRow (B + 1) 3 1 (V r) m.length (nvals m)) (hg : w.grownBy w' (V r).ownBlock) : NB w' B N V (putN X r m) := by
  refine ⟨h.mid hr hg, ⟨fun q hq => ?_, h.bk.sep⟩⟩
  unfold putN
  by_cases e : q = r
  · subst e; simp only [if_true]; rw [nvals_length]; exact ho
  · simp only [if_neg e]
    refine (h.bk.own q hq).kept hg ?_
    cases hv : (V q).ownBlock with
    | none => exact Or.inl rfl
    | some g => exact Or.inr (fun e2 => h.bk.sep q r hq hr e g hv e2.symm)
theorem NB.rows (h : NB w B N V X) (hN : N ≤ 100) {Y : List (List Int)} (hY : Y = (List.range N).map fun r => ints (X r)) : IsRows w (.slice (some ⟨B, 0, none⟩) N N) Y := by
  subst hY
  have hl : ((List.range N).map fun r => ints (X r)).length = N := by simp
  refine ⟨some ⟨B, 0, none⟩, N, B, 0, by rw [hl], by rw [hl]; omega, by omega, fun _ => rfl, by simp, fun j hj => ?_⟩
  rw [hl] at hj
  refine ⟨V j, by rw [Nat.zero_add]; exact h.ro.cell hj, ?_⟩
  have e : ((List.range N).map fun r => ints (X r)).getD j [] = ints (X j) := by simp [List.getD, hj]
  rw [e]
  exact IsInts.owned (h.owns hj)
end

end Go.Proofs.Ytnhhohhhpaejmaa
namespace Go.Proofs.Ytnhhohhhpaejmaa
open Go.RowKit Go.Maps

/-- Rows of nodes: all of one's own. -/
def PRow (w : World) (B : Nat) (v : Value) (m : List (List Nat)) : Prop :=
  ∃ vals, w.ownsRow B 29 1 v m.length vals ∧ ∀ j, j < m.length → ∃ r, vals[j]? = some r ∧ w.ownsRow B 3 1 r (m.getD j []).length (nvals (m.getD j []))
theorem PRow.nil (w : World) (B : Nat) : PRow w B (.slice none 0 0) [] := ⟨[], World.ownsRow_nil _ _ _ _, fun j hj => absurd hj (Nat.not_lt_zero _)⟩
theorem own_side {w : World} {B : Nat} {e : TypeId} {size : Nat} {v : Value} {n : Nat} {xs : List Value} (h : w.ownsRow B e size v n xs) {q : Nat} (hq : q < B) : v.ownBlock = none ∨ v.ownBlock ≠ some q := by
  cases hv : v.ownBlock with
  | none => exact Or.inl rfl
  | some g => exact Or.inr fun e => by cases e; have := (h.lt _ hv).1; omega
theorem PRow.kept {w w' : World} {B q : Nat} {v : Value} {m : List (List Nat)} (h : PRow w B v m) (hg : w.grownBy w' (some q)) (hq : q < B) : PRow w' B v m := by
  obtain ⟨vals, h1, h2⟩ := h
  refine ⟨vals, h1.kept hg (own_side h1 hq), fun j hj => ?_⟩
  obtain ⟨r, e, ho⟩ := h2 j hj
  exact ⟨r, e, ho.kept hg (own_side ho hq)⟩
theorem PRow.below {w w' : World} {B : Nat} {v : Value} {m : List (List Nat)} (h : PRow w B v m) (hb : Below w.heap.size w w') : PRow w' B v m := by
  obtain ⟨vals, h1, h2⟩ := h
  refine ⟨vals, ownsRow_below h1 hb (Nat.le_refl _), fun j hj => ?_⟩
  obtain ⟨r, e, ho⟩ := h2 j hj
  exact ⟨r, e, ownsRow_below ho hb (Nat.le_refl _)⟩
/-- One row more. -/
theorem PRow.more {w1 w2 : World} {B : Nat} {v r v' : Value} {m : List (List Nat)} {x : List Nat} {vals : List Value} {o : Obj}
    (hown : w1.ownsRow B 29 1 v m.length vals) (hv : ∀ j, j < m.length → ∃ r, vals[j]? = some r ∧ w1.ownsRow B 3 1 r (m.getD j []).length (nvals (m.getD j [])))
    (hr : w1.ownsRow B 3 1 r x.length (nvals x)) (h2 : w2.ownsRow B 29 1 v' (m.length + 1) (vals ++ [r])) (g2 : (w1.alloc o).grownBy w2 v.ownBlock) : PRow w2 B v' (m ++ [x]) := by
  have hlen : vals.length = m.length := by have := hown.1; omega
  have ty : ∀ g, v.ownBlock = some g → ∃ c e' fz, (w1.alloc o).heap[g]? = some (.cells c e' fz) ∧ e' ≠ 3 := fun g hg => by
    obtain ⟨c, fz, hc⟩ := ownsRow_type (hown.alloc o) g hg
    exact ⟨c, _, fz, hc, by decide⟩
  refine ⟨_, by rw [List.length_append]; exact h2, fun j hj => ?_⟩
  rw [List.length_append, List.length_singleton] at hj
  by_cases e : j = m.length
  · subst e
    refine ⟨r, by rw [List.getElem?_append_right (by omega)]; simp [hlen], ?_⟩
    have e2 : (m ++ [x]).getD m.length [] = x := by simp [List.getD]
    rw [e2]
    exact ownsRow_typed (hr.alloc o) g2 ty
  · obtain ⟨q, hq, ho⟩ := hv j (by omega)
    have e2 : (m ++ [x]).getD j [] = m.getD j [] := by simp [List.getD, List.getElem?_append_left (show j < m.length by omega)]
    refine ⟨q, by rw [List.getElem?_append_left (by omega)]; exact hq, ?_⟩
    rw [e2]
    exact ownsRow_typed (ho.alloc o) g2 ty

/-- While parts are made: the row of those that are done. -/
structure PaS (w5 wr : World) (N bD : Nat) (D : Nat → Bool) : Prop where
  g : w5.grownBy wr (some bD)
  done : wr.rowIs bD 4 N (rb D)
theorem PaS.below {w5 wr w' : World} {N bD : Nat} {D : Nat → Bool} (h : PaS w5 wr N bD D) (hb : Below wr.heap.size wr w') : PaS w5 w' N bD D :=
  ⟨h.g.trans ((grown_of_below hb).but _), h.done.of_block (hb.block _ h.done.lt)⟩
theorem PaS.grown {w5 wr w' : World} {N bD : Nat} {D : Nat → Bool} (h : PaS w5 wr N bD D) {row : Option Nat} (hg : wr.grownBy w' row) (hr : ∀ q, row = some q → w5.heap.size ≤ q) (hD : bD < w5.heap.size) : PaS w5 w' N bD D :=
  ⟨h.g.andThen hg (fun j e => Or.inl (hr j e)), h.done.of_block (hg.block _ h.done.lt (fun e => by have := hr _ e.symm; omega))⟩
theorem PaS.set {w5 wr : World} {N bD : Nat} {D : Nat → Bool} (h : PaS w5 wr N bD D) (k : Nat) (x : Bool) : PaS w5 (wr.setCell ⟨bD, k, none⟩ (.bool x)) N bD (fun q => if q = k then x else D q) :=
  ⟨h.g.trans (grown_set wr bD k _), row_set_rb h.done k x⟩
theorem PaS.congr {w5 wr : World} {N bD : Nat} {D D' : Nat → Bool} (h : PaS w5 wr N bD D) (e : ∀ q, q < N → D q = D' q) : PaS w5 wr N bD D' := ⟨h.g, row_rb h.done e⟩

/-- One element of a row. -/
theorem NB.lookR {w : World} {B N : Nat} {V : Nat → Value} {X : Nat → List Nat} (h : NB w B N V X) {r j : Nat} (hr : r < N) (hj : j < (X r).length) :
    ∃ g c, V r = .slice (some ⟨g, 0, none⟩) (X r).length c ∧ w.cell? ⟨g, j, none⟩ = some (.int .i64 ((X r).getD j 0 : Nat)) := by
  have ho := h.owns hr
  have hx : (nvals (X r))[j]? = some (.int .i64 ((X r).getD j 0 : Nat)) := by
    simp [nvals, ints, List.getD, List.getElem?_eq_getElem hj]
  rcases ho.2 with ⟨e, h0⟩ | ⟨g, cap, cur, e, -⟩
  · omega
  · have c := ho.cells (g := g) (by rw [e]; rfl) _ _ hx
    rw [Addr.add_lit, Nat.zero_add] at c
    exact ⟨g, cap, e, c⟩

/-- Rows of nodes, to be read. -/
theorem PRow.rows {w : World} {B : Nat} {v : Value} {m : List (List Nat)} (h : PRow w B v m) : IsRows w v (m.map ints) := by
  obtain ⟨vals, h0, hv⟩ := h
  obtain ⟨a, c, rfl⟩ := ownsRow_form h0
  obtain ⟨h1, h2, h3, b, h4, h5⟩ := ownsRow_cap h0
  refine ⟨a, c, b, 0, by rw [List.length_map], by rw [List.length_map]; exact h1, h2, fun hp => (h4 (by rwa [List.length_map] at hp)).1, h3, fun j hj => ?_⟩
  rw [List.length_map] at hj
  obtain ⟨r, hr, hi⟩ := hv j hj
  have e : (m.map ints).getD j [] = ints (m.getD j []) := by simp [List.getD, List.getElem?_eq_getElem hj]
  exact ⟨r, by rw [Nat.zero_add]; exact h5 j r hr, by rw [e]; exact IsInts.owned hi⟩
theorem PRow.form {w : World} {B : Nat} {v : Value} {m : List (List Nat)} (h : PRow w B v m) : ∃ a c, v = .slice a m.length c := by
  obtain ⟨vals, h0, -⟩ := h
  exact ownsRow_form h0

end Go.Proofs.Ytnhhohhhpaejmaa
namespace Go.Proofs.Ytnhhohhhpaejmaa
open Go.RowKit Go.Maps

abbrev ivals (l : List Int) : List Value := l.map (Value.int .i64)
/-- Rows of integers: all of one's own. -/
def IRow (w : World) (B : Nat) (v : Value) (m : List (List Int)) : Prop :=
  ∃ vals, w.ownsRow B 29 1 v m.length vals ∧ ∀ j, j < m.length → ∃ r, vals[j]? = some r ∧ w.ownsRow B 3 1 r (m.getD j []).length (ivals (m.getD j []))
theorem IRow.nil (w : World) (B : Nat) : IRow w B (.slice none 0 0) [] := ⟨[], World.ownsRow_nil _ _ _ _, fun j hj => absurd hj (Nat.not_lt_zero _)⟩
theorem IRow.below {w w' : World} {B : Nat} {v : Value} {m : List (List Int)} (h : IRow w B v m) (hb : Below w.heap.size w w') : IRow w' B v m := by
  obtain ⟨vals, h1, h2⟩ := h
  refine ⟨vals, ownsRow_below h1 hb (Nat.le_refl _), fun j hj => ?_⟩
  obtain ⟨r, e, ho⟩ := h2 j hj
  exact ⟨r, e, ownsRow_below ho hb (Nat.le_refl _)⟩
/-- One row more. -/
theorem IRow.more {w1 w2 : World} {B : Nat} {v r v' : Value} {m : List (List Int)} {x : List Int} {vals : List Value} {o : Obj}
    (hown : w1.ownsRow B 29 1 v m.length vals) (hv : ∀ j, j < m.length → ∃ r, vals[j]? = some r ∧ w1.ownsRow B 3 1 r (m.getD j []).length (ivals (m.getD j [])))
    (hr : w1.ownsRow B 3 1 r x.length (ivals x)) (h2 : w2.ownsRow B 29 1 v' (m.length + 1) (vals ++ [r])) (g2 : (w1.alloc o).grownBy w2 v.ownBlock) : IRow w2 B v' (m ++ [x]) := by
  have hlen : vals.length = m.length := by have := hown.1; omega
  have ty : ∀ g, v.ownBlock = some g → ∃ c e' fz, (w1.alloc o).heap[g]? = some (.cells c e' fz) ∧ e' ≠ 3 := fun g hg => by
    obtain ⟨c, fz, hc⟩ := ownsRow_type (hown.alloc o) g hg
    exact ⟨c, _, fz, hc, by decide⟩
  refine ⟨_, by rw [List.length_append]; exact h2, fun j hj => ?_⟩
  rw [List.length_append, List.length_singleton] at hj
  by_cases e : j = m.length
  · subst e
    refine ⟨r, by rw [List.getElem?_append_right (by omega)]; simp [hlen], ?_⟩
    have e2 : (m ++ [x]).getD m.length [] = x := by simp [List.getD]
    rw [e2]
    exact ownsRow_typed (hr.alloc o) g2 ty
  · obtain ⟨q, hq, ho⟩ := hv j (by omega)
    have e2 : (m ++ [x]).getD j [] = m.getD j [] := by simp [List.getD, List.getElem?_append_left (show j < m.length by omega)]
    refine ⟨q, by rw [List.getElem?_append_left (by omega)]; exact hq, ?_⟩
    rw [e2]
    exact ownsRow_typed (ho.alloc o) g2 ty
/-- Rows of integers, to be read. -/
theorem IRow.rows {w : World} {B : Nat} {v : Value} {m : List (List Int)} (h : IRow w B v m) : IsRows w v m := by
  obtain ⟨vals, h0, hv⟩ := h
  obtain ⟨a, c, rfl⟩ := ownsRow_form h0
  obtain ⟨h1, h2, h3, b, h4, h5⟩ := ownsRow_cap h0
  refine ⟨a, c, b, 0, rfl, h1, h2, fun hp => (h4 hp).1, h3, fun j hj => ?_⟩
  obtain ⟨r, hr, hi⟩ := hv j hj
  exact ⟨r, by rw [Nat.zero_add]; exact h5 j r hr, IsInts.owned hi⟩
theorem IRow.form {w : World} {B : Nat} {v : Value} {m : List (List Int)} (h : IRow w B v m) : ∃ a c, v = .slice a m.length c := by
  obtain ⟨vals, h0, -⟩ := h
  exact ownsRow_form h0
/-- A row that is there is one's own. -/
theorem own_of_row {w : World} {b B n : Nat} {F : Nat → Int} (h : w.rowIs b 3 n (ri F)) (hB : B ≤ b) (hn : n ≤ 1000000) : w.ownsRow B 3 1 (.slice (some ⟨b, 0, none⟩) n n) n (ivals ((List.range n).map F)) := by
  obtain ⟨c, h1, h2, h3⟩ := h
  refine ⟨by simp, .inr ⟨b, n, c, rfl, hB, h1, Nat.le_refl _, by unfold maxLen; omega, by omega, ?_⟩⟩
  refine List.ext_getElem? fun i => ?_
  rw [Nat.mul_one, List.getElem?_take]
  by_cases hi : i < n
  · rw [if_pos hi, Array.getElem?_toList, h3 i hi]
    simp [ri, hi]
  · rw [if_neg hi, eq_comm, List.getElem?_eq_none]
    simp; omega
/-- One row more, by its cells. -/
theorem IRow.moreF {w1 w2 : World} {B b n : Nat} {v v' : Value} {m : List (List Int)} {F : Nat → Int} {vals : List Value} {o : Obj}
    (hown : w1.ownsRow B 29 1 v m.length vals) (hv : ∀ j, j < m.length → ∃ r, vals[j]? = some r ∧ w1.ownsRow B 3 1 r (m.getD j []).length (ivals (m.getD j [])))
    (hr : w1.rowIs b 3 n (ri F)) (hB : B ≤ b) (hn : n ≤ 1000000) (h2 : w2.ownsRow B 29 1 v' (m.length + 1) (vals ++ [.slice (some ⟨b, 0, none⟩) n n])) (g2 : (w1.alloc o).grownBy w2 v.ownBlock) : IRow w2 B v' (m ++ [(List.range n).map F]) := by
  have h := own_of_row hr hB hn
  refine IRow.more hown hv (r := .slice (some ⟨b, 0, none⟩) n n) (x := (List.range n).map F) ?_ h2 g2
  rw [List.length_map, List.length_range]; exact h
theorem IRow.low {w : World} {B B' : Nat} {v : Value} {m : List (List Int)} (h : IRow w B v m) (hB : B' ≤ B) : IRow w B' v m := by
  obtain ⟨vals, h1, h2⟩ := h
  exact ⟨vals, ownsRow_low h1 hB, fun j hj => by obtain ⟨r, e, ho⟩ := h2 j hj; exact ⟨r, e, ownsRow_low ho hB⟩⟩
theorem IRow.lt {w : World} {B : Nat} {v : Value} {m : List (List Int)} (h : IRow w B v m) : ∀ g, v.ownBlock = some g → B ≤ g ∧ g < w.heap.size := by
  obtain ⟨vals, h1, -⟩ := h
  exact h1.lt
end Go.Proofs.Ytnhhohhhpaejmaa
namespace Go.Proofs.Ytnhhohhhpaejmaa
open Go.RowKit

/-- The argument's box, and the fault that comes back. -/
structure WkG (w wr : World) (n : Int) (s : Value) (l : List (Int × Int)) : Prop where
  hb : Below w.heap.size w wr
  cn : wr.cell? ⟨w.heap.size, 0, none⟩ = some (.int .i64 n)
  cs : wr.cell? ⟨w.heap.size, 1, none⟩ = some s
  he : IsEdges wr s l
  r : wr.rowIs (w.heap.size + 1) 27 2 (fun i => if i = 0 then .int .i64 0 else .int .i64 0)
theorem WkG.start {w : World} {n : Int} {s : Value} {l : List (Int × Int)} (h : IsEdges w s l) : WkG w ((w.alloc (Obj.cells #[.int .i64 n, s] 24)).alloc (Obj.cells #[.int .i64 0, .int .i64 0] 27)) n s l := by
  obtain ⟨c0, c1⟩ := two_cells w (.int .i64 n) s 24
  have hr := two_row (w.alloc (Obj.cells #[.int .i64 n, s] 24)) (.int .i64 0) (.int .i64 0) 27
  rw [World.size_alloc] at hr
  have hb := below2 w (Obj.cells #[.int .i64 n, s] 24) (Obj.cells #[.int .i64 0, .int .i64 0] 27)
  exact ⟨hb, below_cell (below1 _ _) c0, below_cell (below1 _ _) c1, h.below hb, hr⟩
theorem WkG.below {w wr w' : World} {n : Int} {s : Value} {l : List (Int × Int)} (h : WkG w wr n s l) (hb : Below wr.heap.size wr w') : WkG w w' n s l :=
  ⟨h.hb.trans (hb.mono h.hb.size), below_cell hb h.cn, below_cell hb h.cs, h.he.below hb, h.r.of_block (hb.block _ h.r.lt)⟩
/-- The fault is stored. -/
theorem WkG.put {w wr : World} {n : Int} {s : Value} {l : List (Int × Int)} (h : WkG w wr n s l) (c a : Value) :
    ((wr.setCell ⟨w.heap.size + 1, 0, none⟩ c).setCell ⟨w.heap.size + 1, 1, none⟩ a).cell? ⟨w.heap.size + 1, 0, none⟩ = some c ∧ ((wr.setCell ⟨w.heap.size + 1, 0, none⟩ c).setCell ⟨w.heap.size + 1, 1, none⟩ a).cell? ⟨w.heap.size + 1, 1, none⟩ = some a ∧ Below w.heap.size w ((wr.setCell ⟨w.heap.size + 1, 0, none⟩ c).setCell ⟨w.heap.size + 1, 1, none⟩ a) :=
  ⟨((h.r.set 0 c).set 1 a).cell (show 0 < 2 by omega), ((h.r.set 0 c).set 1 a).cell (show 1 < 2 by omega), (h.hb.setCell (p := ⟨w.heap.size + 1, 0, none⟩) (Nat.le_succ _) _).setCell (p := ⟨w.heap.size + 1, 1, none⟩) (Nat.le_succ _) _⟩

theorem WkG.putA {w wr : World} {n : Int} {s : Value} {l : List (Int × Int)} (h : WkG w wr n s l) (c a : Value) (o : Obj) :
    (((wr.setCell ⟨w.heap.size + 1, 0, none⟩ c).setCell ⟨w.heap.size + 1, 1, none⟩ a).alloc o).cell? ⟨w.heap.size + 1, 0, none⟩ = some c ∧ (((wr.setCell ⟨w.heap.size + 1, 0, none⟩ c).setCell ⟨w.heap.size + 1, 1, none⟩ a).alloc o).cell? ⟨w.heap.size + 1, 1, none⟩ = some a ∧ Below w.heap.size w (((wr.setCell ⟨w.heap.size + 1, 0, none⟩ c).setCell ⟨w.heap.size + 1, 1, none⟩ a).alloc o) := by
  obtain ⟨e0, e1, e2⟩ := h.put c a
  exact ⟨below_cell (below1 _ _) e0, below_cell (below1 _ _) e1, e2.alloc e2.size _⟩

end Go.Proofs.Ytnhhohhhpaejmaa
