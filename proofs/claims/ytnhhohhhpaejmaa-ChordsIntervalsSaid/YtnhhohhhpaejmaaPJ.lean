/- A row of integers of one's own, as a function, whatever its capacity. What is not in one block of bools stays while only that block is turned. walks.pair: nodes in pairs, by sets of nodes: the plain law. No walk. Going through a graph in depth, with low points: the model of the walk of package parts. No program in sight. More of the walk in depth: what holds of each edge that it takes. No program in sight. The walk in depth is right, first part: ways inside a set of nodes, edges that no node keeps apart, and what a call of the walk keeps. No program in sight. Edges that no node keeps apart, bridges and nodes that cut, in terms of what can be reached. No program in sight. One component just where all hang together. Plain: no program in sight. (As in MinorPlain, without a walk.) A ring without a chord, as a set of nodes each of which has two near it within the set: plain. No program in sight. -/
import Derived.Test.YtnhhohhhpaejmaaPA
namespace Go.Proofs.Ytnhhohhhpaejmaa
open Go Go.RowKit

/-- The integers of a function. -/
def fnL (N : Nat) (f : Nat → Int) : List Int := (List.range N).map f
theorem fnL_len (N : Nat) (f : Nat → Int) : (fnL N f).length = N := by simp [fnL]
theorem fnL_at {N k : Nat} {f : Nat → Int} (h : k < N) : (fnL N f).getD k 0 = f k := by simp [fnL, List.getD, h]
theorem fnL_congr {N : Nat} {f g : Nat → Int} (h : ∀ k, k < N → f k = g k) : fnL N f = fnL N g := List.map_congr_left fun k hk => h k (List.mem_range.1 hk)
theorem fnL_set {N k : Nat} {f : Nat → Int} (x : Int) : (fnL N f).set k x = fnL N fun q => if q = k then x else f q := by
  apply List.ext_getElem
  · simp [fnL]
  · intro i h1 h2
    simp only [fnL, List.getElem_set, List.getElem_map, List.getElem_range]
    by_cases e : k = i
    · subst e; simp
    · rw [if_neg e, if_neg (fun h => e h.symm)]
/-- Block g is such a row, of one's own from B on. -/
structure FnR (w : World) (B g N c : Nat) (f : Nat → Int) : Prop where
  own : w.ownsRow B 3 1 (.slice (some ⟨g, 0, none⟩) N c) N ((fnL N f).map (Value.int .i64))
theorem FnR.lt {w : World} {B g N c : Nat} {f : Nat → Int} (h : FnR w B g N c f) : B ≤ g ∧ g < w.heap.size := h.own.lt g rfl
theorem FnR.cell {w : World} {B g N c k : Nat} {f : Nat → Int} (h : FnR w B g N c f) (hk : k < N) : w.cell? ⟨g, k, none⟩ = some (.int .i64 (f k)) := by
  rw [h.own.cellAt k (by omega)]
  simp [fnL, hk]
theorem FnR.frozen {w : World} {B g N c : Nat} {f : Nat → Int} (h : FnR w B g N c f) (k : Nat) : w.frozen? ⟨g, k, none⟩ = false := h.own.frozenAt k
theorem FnR.set {w : World} {B g N c : Nat} {f : Nat → Int} (h : FnR w B g N c f) (k : Nat) (x : Int) : FnR (w.setCell ⟨g, k, none⟩ (.int .i64 x)) B g N c (fun q => if q = k then x else f q) := by
  have h1 := (h.own.stored k (.int .i64 x)).1
  rw [← List.map_set, fnL_set] at h1
  exact ⟨h1⟩
theorem FnR.congr {w : World} {B g N c : Nat} {f f' : Nat → Int} (h : FnR w B g N c f) (e : ∀ k, k < N → f k = f' k) : FnR w B g N c f' := by
  have h1 := h.own
  rw [fnL_congr e] at h1
  exact ⟨h1⟩
theorem FnR.ints {w : World} {B g N c : Nat} {f : Nat → Int} (h : FnR w B g N c f) : IsInts w (.slice (some ⟨g, 0, none⟩) N c) (fnL N f) := IsInts.owned h.own
theorem FnR.below {w w' : World} {B g N c : Nat} {f : Nat → Int} (h : FnR w B g N c f) (hb : Below w.heap.size w w') : FnR w' B g N c f := ⟨ownsRow_below h.own hb (Nat.le_refl _)⟩
theorem FnR.other {w : World} {B g N c : Nat} {f : Nat → Int} (h : FnR w B g N c f) {a : Addr} (ha : a.block ≠ g) (u : Value) : FnR (w.setCell a u) B g N c f := ⟨ownsRow_setCell_other h.own (fun e => ha (by simp [Value.ownBlock] at e; exact e.symm)) u⟩
end Go.Proofs.Ytnhhohhhpaejmaa
namespace Go.Proofs.Ytnhhohhhpaejmaa
open Go Go.RowKit

theorem bu_far {w : World} {bu K t o b : Nat} {f : Nat → Bool} {x : Value} (h : w.rowIs bu t K (rb f)) (hc : w.cell? ⟨b, o, none⟩ = some x) (hx : ∀ y, x ≠ .bool y) : b ≠ bu := by
  intro e
  subst e
  obtain ⟨c, h1, h2, h3⟩ := h
  rw [cell_of_row _ _ _ _ _ _ h1] at hc
  have hlt : o < c.size := (Array.getElem?_eq_some_iff.1 hc).1
  rw [h3 o (by omega)] at hc
  exact hx (f o) (Option.some.inj hc).symm
theorem bu_keep {w w' : World} {bu K t o b : Nat} {f : Nat → Bool} {x : Value} (h : w.rowIs bu t K (rb f)) (hg : w.grownBy w' (some bu)) (hc : w.cell? ⟨b, o, none⟩ = some x) (hx : ∀ y, x ≠ .bool y) : w'.cell? ⟨b, o, none⟩ = some x :=
  hg.cell hc fun e => bu_far h hc hx (Option.some.inj e)
theorem IsInts.buK {w w' : World} {bu K t : Nat} {f : Nat → Bool} {v : Value} {m : List Int} (h : IsInts w v m) (hr : w.rowIs bu t K (rb f)) (hg : w.grownBy w' (some bu)) : IsInts w' v m := by
  obtain ⟨a, c, b, o, e, h1, h2, h3, h4, h5⟩ := h
  exact ⟨a, c, b, o, e, h1, h2, h3, h4, fun j hj => bu_keep hr hg (h5 j hj) (fun y => by simp)⟩
theorem IsRows.buK {w w' : World} {bu K t : Nat} {f : Nat → Bool} {v : Value} {m : List (List Int)} (h : IsRows w v m) (hr : w.rowIs bu t K (rb f)) (hg : w.grownBy w' (some bu)) : IsRows w' v m := by
  obtain ⟨a, c, b, o, e, h1, h2, h3, h4, h5⟩ := h
  refine ⟨a, c, b, o, e, h1, h2, h3, h4, fun j hj => ?_⟩
  obtain ⟨r, hc, hi⟩ := h5 j hj
  exact ⟨r, bu_keep hr hg hc (fun y e => by subst e; obtain ⟨_, _, _, _, e2, _⟩ := hi; cases e2), hi.buK hr hg⟩
end Go.Proofs.Ytnhhohhhpaejmaa
namespace Go.Proofs.Ytnhhohhhpaejmaa
open Go Go.RowKit

/-- A set without two. -/
def restM (s i j : Nat) : Nat := less s (lor (pow2 i) (pow2 j))
theorem restM_bit (s i j q : Nat) : (restM s i j).testBit q = (s.testBit q && !(decide (i = q) || decide (j = q))) := by
  unfold restM; rw [less_bit, lor_bit, pow2_bit, pow2_bit]
theorem restM_le (s i j : Nat) : restM s i j ≤ s := by
  refine Nat.le_of_testBit fun q hq => ?_
  rw [restM_bit] at hq
  exact (Bool.and_eq_true _ _ |>.mp hq).1
theorem restM_lt {s i j : Nat} (h : s.testBit i = true) : restM s i j < s := by
  refine Nat.lt_of_le_of_ne (restM_le _ _ _) fun e => ?_
  have := restM_bit s i j i
  rw [e, h] at this
  simp at this
/-- The least of a set. -/
structure LowM (n s i : Nat) : Prop where
  lt : i < n
  on : s.testBit i = true
  off : ∀ q, q < i → s.testBit q = false
theorem lowM_ex {s N : Nat} (h0 : s ≠ 0) (h : s < 2 ^ N) : ∃ c, LowM N s c := by
  have : ∃ i, i < N ∧ s.testBit i = true := by
    obtain ⟨i, hi⟩ := Nat.exists_testBit_of_ne_zero h0
    refine ⟨i, ?_, hi⟩
    rcases Nat.lt_or_ge i N with e | e
    · exact e
    · rw [Nat.testBit_lt_two_pow (Nat.lt_of_lt_of_le h (Nat.pow_le_pow_right (by omega) e))] at hi; cases hi
  obtain ⟨i, hi, hb⟩ := this
  induction i using Nat.strongRecOn with
  | _ i ih =>
    by_cases e : ∃ j, j < i ∧ s.testBit j = true
    · obtain ⟨j, hj, hbj⟩ := e
      exact ih j hj (by omega) hbj
    · refine ⟨i, hi, hb, fun j hj => ?_⟩
      cases hbj : s.testBit j
      · rfl
      · exact absurd ⟨j, hj, hbj⟩ e

/-- Behind the mates below k of the least node i of s. -/
def PmIn (D : Nat → Nat → Int) (b : Nat → Int) (la : Nat → Nat × Nat) (s i k : Nat) : Prop :=
  (b s = -1 ∧ ∀ j, i < j → j < k → s.testBit j = true → b (restM s i j) < 0) ∨
  ((∃ j, i < j ∧ j < k ∧ s.testBit j = true ∧ 0 ≤ b (restM s i j) ∧ b s = b (restM s i j) + D i j ∧ la s = (i, j)) ∧ ∀ j, i < j → j < k → s.testBit j = true → 0 ≤ b (restM s i j) → b s ≤ b (restM s i j) + D i j)
/-- A set's entry. -/
def PmOk (n : Nat) (D : Nat → Nat → Int) (b : Nat → Int) (la : Nat → Nat × Nat) (s : Nat) : Prop :=
  (s = 0 → b s = 0) ∧ ∀ i, LowM n s i → PmIn D b la s i n
section
variable {n : Nat} {D : Nat → Nat → Int} {b b' : Nat → Int} {la la' : Nat → Nat × Nat} {s i k : Nat}
theorem LowM.uniq {i' : Nat} (h : LowM n s i) (h' : LowM n s i') : i = i' := by
  rcases Nat.lt_trichotomy i i' with e | e | e
  · have := h'.off i e; rw [h.on] at this; cases this
  · exact e
  · have := h.off i' e; rw [h'.on] at this; cases this
theorem PmIn.start (h : b s = -1) : PmIn D b la s i (i + 1) := .inl ⟨h, fun j h1 h2 => by omega⟩
/-- One who is no mate. -/
theorem PmIn.skip (h : PmIn D b la s i k) (hk : s.testBit k = false ∨ b (restM s i k) < 0) : PmIn D b la s i (k + 1) := by
  rcases h with ⟨h1, h2⟩ | ⟨⟨j, h1, h2, h3⟩, h4⟩
  · refine .inl ⟨h1, fun j hj hjk hb => ?_⟩
    by_cases e : j = k
    · subst e
      rcases hk with hk | hk
      · rw [hk] at hb; cases hb
      · exact hk
    · exact h2 j hj (by omega) hb
  · refine .inr ⟨⟨j, h1, by omega, h3⟩, fun j' hj hjk hb h0 => ?_⟩
    by_cases e : j' = k
    · subst e
      rcases hk with hk | hk
      · rw [hk] at hb; cases hb
      · omega
    · exact h4 j' hj (by omega) hb h0
theorem PmIn.keep (h : PmIn D b la s i k) (hb0 : 0 ≤ b s) (hk : b s ≤ b (restM s i k) + D i k) : PmIn D b la s i (k + 1) := by
  rcases h with ⟨h1, h2⟩ | ⟨⟨j, h1, h2, h3⟩, h4⟩
  · omega
  · refine .inr ⟨⟨j, h1, by omega, h3⟩, fun j' hj hjk hb h0 => ?_⟩
    by_cases e : j' = k
    · subst e; exact hk
    · exact h4 j' hj (by omega) hb h0
theorem PmIn.pos (h : PmIn D b la s i k) (hD : ∀ j, i < j → j < k → 0 ≤ D i j) : b s = -1 ∨ 0 ≤ b s := by
  rcases h with ⟨h1, -⟩ | ⟨⟨j, h1, h2, h3, h4, h5, -⟩, -⟩
  · exact .inl h1
  · have := hD j h1 h2; exact .inr (by omega)
theorem PmIn.take (h : PmIn D b la s i k) (hD : ∀ j, i < j → j < k → 0 ≤ D i j) (hi : s.testBit i = true) (hik : i < k) (hk : s.testBit k = true) (hr : 0 ≤ b (restM s i k)) (hb : b s < 0 ∨ b (restM s i k) + D i k < b s) :
    PmIn D (fun q => if q = s then b (restM s i k) + D i k else b q) (fun q => if q = s then (i, k) else la q) s i (k + 1) := by
  have hne : ∀ j, restM s i j ≠ s := fun j e => by have := restM_lt (j := j) hi; omega
  have hpos := h.pos hD
  refine .inr ⟨⟨k, hik, Nat.lt_succ_self _, hk, ?_, ?_, ?_⟩, fun j hj hjk hbj h0 => ?_⟩
  · simp only [if_neg (hne k)]; exact hr
  · simp only [if_neg (hne k), if_true]
  · simp only [if_true]
  · simp only [if_neg (hne j), if_true] at h0 ⊢
    by_cases e : j = k
    · subst e; exact Int.le_refl _
    · rcases h with ⟨h1, h2⟩ | ⟨⟨j', h1, h2, h3, h4, h5, h6⟩, h7⟩
      · have := h2 j hj (by omega) hbj; omega
      · have h8 := h7 j hj (by omega) hbj h0
        have h9 := hD j' h1 h2
        rcases hb with hb | hb <;> omega
theorem PmIn.congr (h : PmIn D b la s i k) (hi : s.testBit i = true) (hb : ∀ q, q ≤ s → b q = b' q) (hla : la s = la' s) : PmIn D b' la' s i k := by
  have e : ∀ j, b (restM s i j) = b' (restM s i j) := fun j => hb _ (restM_le _ _ _)
  rcases h with ⟨h1, h2⟩ | ⟨⟨j, h1, h2, h3, h4, h5, h6⟩, h7⟩
  · exact .inl ⟨by rw [← hb s (Nat.le_refl _)]; exact h1, fun j a c d => by rw [← e]; exact h2 j a c d⟩
  · exact .inr ⟨⟨j, h1, h2, h3, by rw [← e]; exact h4, by rw [← hb s (Nat.le_refl _), ← e]; exact h5, by rw [← hla]; exact h6⟩, fun j a c d f => by rw [← e] at f; rw [← hb s (Nat.le_refl _), ← e]; exact h7 j a c d f⟩
theorem PmOk.congr (h : PmOk n D b la s) (hb : ∀ q, q ≤ s → b q = b' q) (hla : la s = la' s) : PmOk n D b' la' s :=
  ⟨fun e => by rw [← hb s (Nat.le_refl _)]; exact h.1 e, fun i hi => (h.2 i hi).congr hi.on hb hla⟩
theorem PmOk.done (h0 : s ≠ 0) (hi : LowM n s i) (h : PmIn D b la s i n) : PmOk n D b la s := ⟨fun e => absurd e h0, fun i' hi' => by rw [← hi.uniq hi']; exact h⟩
/-- How many there are in a set. -/
def pcM (n s : Nat) : Nat := cntN n fun k => s.testBit k
theorem pcM_rest {j : Nat} (hi : i < n) (hj : j < n) (hij : i ≠ j) (hbi : s.testBit i = true) (hbj : s.testBit j = true) : pcM n (restM s i j) + 2 = pcM n s := by
  have h1 := cntN_one (n := n) (p := fun k => (restM s i j).testBit k) hi (by rw [restM_bit]; simp)
  have h2 := cntN_one (n := n) (p := fun k => (restM s i j).testBit k || decide (k = i)) hj (by rw [restM_bit]; simp [Ne.symm hij])
  have h3 : cntN n (fun k => s.testBit k) = cntN n (fun k => ((restM s i j).testBit k || decide (k = i)) || decide (k = j)) := by
    refine cntN_congr fun q _ => ?_
    rw [restM_bit]
    by_cases e1 : q = i
    · subst e1; simp [hbi]
    · by_cases e2 : q = j
      · subst e2; simp [hbj]
      · simp [e1, e2, Ne.symm e1, Ne.symm e2]
  unfold pcM
  omega
theorem pcM_two (hi : LowM n s i) (h : pcM n s % 2 = 0) : ∃ j, i < j ∧ j < n ∧ s.testBit j = true := by
  refine Classical.byContradiction fun hn => ?_
  have h1 := cntN_one (n := n) (p := fun _ => false) hi.lt rfl
  rw [cntN_false] at h1
  have h2 : pcM n s = cntN n fun k => false || decide (k = i) := cntN_congr fun q hq => by
    by_cases e : q = i
    · subst e; simp [hi.on]
    · rcases Nat.lt_or_ge q i with e2 | e2
      · rw [hi.off q e2]; simp [e]
      · cases e3 : s.testBit q
        · simp [e]
        · exact absurd ⟨q, by omega, hq, e3⟩ hn
  omega
/-- Sets of an even number can be paired. -/
theorem PmOk.even (hD : ∀ i j, i < j → j < n → 0 ≤ D i j) : ∀ s, s < 2 ^ n → (∀ q, q ≤ s → PmOk n D b la q) → pcM n s % 2 = 0 → 0 ≤ b s := by
  intro s
  induction s using Nat.strongRecOn with
  | _ s ih =>
    intro hs hok hev
    by_cases h0 : s = 0
    · rw [(hok s (Nat.le_refl _)).1 h0]; exact Int.le_refl _
    · obtain ⟨i, hi⟩ := lowM_ex h0 hs
      obtain ⟨j, hij, hj, hbj⟩ := pcM_two hi hev
      have h1 := restM_lt (j := j) hi.on
      have h2 := ih _ h1 (Nat.lt_trans h1 hs) (fun q hq => hok q (by omega)) (by have := pcM_rest hi.lt hj (by omega) hi.on hbj; omega)
      rcases (hok s (Nat.le_refl _)).2 i hi with ⟨h3, h4⟩ | ⟨⟨j', h3, h4, h5, h6, h7, -⟩, -⟩
      · have := h4 j hij hj hbj; omega
      · have := hD i j' h3 h4; omega
/-- While pairs are told: s is what is left. -/
structure PcI (n : Nat) (D : Nat → Nat → Int) (b : Nat → Int) (s : Nat) (P : List (Nat × Nat)) : Prop where
  lt : s < 2 ^ n
  pos : 0 ≤ b s
  rng : ∀ p ∈ P, p.1 < p.2 ∧ p.2 < n
  cov : ∀ k, k < n → (P.filter fun p => decide (p.1 = k) || decide (p.2 = k)).length + (if s.testBit k = true then 1 else 0) = 1
  sum : (P.map fun p => D p.1 p.2).sum + b s = b (2 ^ n - 1)
theorem PcI.start (h : 0 ≤ b (2 ^ n - 1)) : PcI n D b (2 ^ n - 1) [] where
  lt := by have := Nat.two_pow_pos n; omega
  pos := h
  rng p hp := by cases hp
  cov k hk := by rw [Nat.testBit_two_pow_sub_one]; simp [hk]
  sum := by simp
theorem PcI.next {P : List (Nat × Nat)} (h : PcI n D b s P) (hok : PmOk n D b la s) (h0 : s ≠ 0) : ∃ i j, la s = (i, j) ∧ i < j ∧ j < n ∧ s.testBit i = true ∧ s.testBit j = true ∧ restM s i j < s ∧ PcI n D b (restM s i j) (P ++ [(i, j)]) := by
  obtain ⟨i, hi⟩ := lowM_ex h0 h.lt
  rcases hok.2 i hi with ⟨h3, -⟩ | ⟨⟨j, h3, h4, h5, h6, h7, h8⟩, -⟩
  · have := h.pos; omega
  · have h1 := restM_lt (j := j) hi.on
    refine ⟨i, j, h8, h3, h4, hi.on, h5, h1, ⟨Nat.lt_trans h1 h.lt, h6, fun p hp => ?_, fun k hk => ?_, ?_⟩⟩
    · rcases List.mem_append.1 hp with hp | hp
      · exact h.rng p hp
      · rw [List.mem_singleton] at hp; subst hp; exact ⟨h3, h4⟩
    · have hc := h.cov k hk
      rw [List.filter_append, List.length_append, restM_bit]
      by_cases e1 : i = k
      · subst e1
        rw [hi.on] at hc
        simp at hc ⊢
        exact hc
      · by_cases e2 : j = k
        · subst e2
          rw [h5] at hc
          simp at hc ⊢
          exact hc
        · simp [e1, e2] at hc ⊢
          exact hc
    · rw [List.map_append, List.sum_append, ← h.sum, h7]
      simp
      omega
end
end Go.Proofs.Ytnhhohhhpaejmaa
namespace Go.Proofs.Ytnhhohhhpaejmaa
open Go.RowKit

/-- What the walk keeps: when a node was met, its low point, the edges under way, the blocks found, the time. -/
structure Dp where
  num : Nat → Nat
  low : Nat → Nat
  stk : List (Int × Int)
  blk : List (List (Int × Int))
  tm : Nat
/-- A number put at one place. -/
abbrev fset (f : Nat → Nat) (k x : Nat) : Nat → Nat := fun q => if q = k then x else f q
/-- A node is met. -/
def markD (v : Nat) (σ : Dp) : Dp := { σ with tm := σ.tm + 1, num := fset σ.num v (σ.tm + 1), low := fset σ.low v (σ.tm + 1) }
/-- An edge more is under way. -/
def pushD (v w : Nat) (σ : Dp) : Dp := { σ with stk := σ.stk ++ [((v : Int), (w : Int))] }
/-- A low point. -/
def lowD (v x : Nat) (σ : Dp) : Dp := { σ with low := fset σ.low v (min (σ.low v) x) }
/-- The edges from a place on are a block. -/
def cutD (k : Nat) (σ : Dp) : Dp := { σ with blk := σ.blk ++ [σ.stk.drop k], stk := σ.stk.take k }
/-- Behind a node that was met anew. -/
def backD (v w k : Nat) (σ : Dp) : Dp :=
  if (lowD v (σ.low w) σ).num v ≤ (lowD v (σ.low w) σ).low w then cutD k (lowD v (σ.low w) σ) else lowD v (σ.low w) σ
/-- One neighbour. -/
def stepD (rec : Nat → Int → Dp → Dp) (v : Nat) (from_ : Int) (σ : Dp) (w : Nat) : Dp :=
  if (w : Int) = from_ then σ
  else if 0 < σ.num w then (if σ.num w < σ.num v then lowD v (σ.num w) (pushD v w σ) else σ)
  else backD v w σ.stk.length (rec w v (pushD v w σ))
/-- The walk. -/
def walkD (nb : Nat → List Nat) : Nat → Nat → Int → Dp → Dp
  | 0, _, _, σ => σ
  | f + 1, v, from_, σ => (nb v).foldl (stepD (walkD nb f) v from_) (markD v σ)
/-- Behind the first j neighbours. -/
def loopD (nb : Nat → List Nat) (f v : Nat) (from_ : Int) (σ : Dp) (j : Nat) : Dp := ((nb v).take j).foldl (stepD (walkD nb f) v from_) (markD v σ)
theorem loopD_zero (nb : Nat → List Nat) (f v : Nat) (from_ : Int) (σ : Dp) : loopD nb f v from_ σ 0 = markD v σ := rfl
theorem loopD_all (nb : Nat → List Nat) (f v : Nat) (from_ : Int) (σ : Dp) : loopD nb f v from_ σ (nb v).length = walkD nb (f + 1) v from_ σ := by
  unfold loopD; rw [List.take_length]; rfl
theorem loopD_succ {nb : Nat → List Nat} {f v : Nat} {from_ : Int} {σ : Dp} {j : Nat} (hj : j < (nb v).length) :
    loopD nb f v from_ σ (j + 1) = stepD (walkD nb f) v from_ (loopD nb f v from_ σ j) ((nb v).getD j 0) := by
  unfold loopD
  rw [List.take_add_one, List.foldl_append, List.getElem?_eq_getElem hj]
  simp [List.getD, List.getElem?_eq_getElem hj]
/-- All nodes, one behind the other. -/
def allD (nb : Nat → List Nat) (N : Nat) (σ : Dp) : Nat → Dp
  | 0 => σ
  | k + 1 => if (allD nb N σ k).num k = 0 then walkD nb N k (-1) (allD nb N σ k) else allD nb N σ k
/-- At the start. -/
def startD : Dp := ⟨fun _ => 0, fun _ => 0, [], [], 0⟩

/-- How many are not met yet. -/
def unv (N : Nat) (σ : Dp) : Nat := cntN N fun q => decide (σ.num q = 0)
/-- Nothing overflows. -/
structure DOk (N : Nat) (σ : Dp) : Prop where
  tm : σ.tm + unv N σ ≤ N
  stk : σ.stk.length + 100 * unv N σ ≤ 10000
  blk : σ.blk.length + unv N σ ≤ 100
/-- From one state to a later one. -/
structure DGrow (N : Nat) (σ σ' : Dp) : Prop where
  keep : ∀ q, σ.num q ≠ 0 → σ'.num q = σ.num q
  tm : σ'.tm + unv N σ' = σ.tm + unv N σ
  len : σ.stk.length ≤ σ'.stk.length
  stk : σ'.stk.length + 100 * unv N σ' ≤ σ.stk.length + 100 * unv N σ
  pre : σ'.stk.take σ.stk.length = σ.stk
  blk : σ'.blk.length + unv N σ' ≤ σ.blk.length + unv N σ
theorem DGrow.refl (N : Nat) (σ : Dp) : DGrow N σ σ := ⟨fun _ _ => rfl, rfl, Nat.le_refl _, Nat.le_refl _, List.take_length, Nat.le_refl _⟩
theorem DGrow.ok {N : Nat} {σ σ' : Dp} (h : DGrow N σ σ') (ho : DOk N σ) : DOk N σ' := by
  have h1 := h.tm; have h2 := h.stk; have h3 := h.blk; have h4 := ho.tm; have h5 := ho.stk; have h6 := ho.blk
  exact ⟨by omega, by omega, by omega⟩
theorem take_take_len {l m k : List (Int × Int)} (h1 : m.take l.length = l) (h2 : k.take m.length = m) (h : l.length ≤ m.length) : k.take l.length = l := by
  have e : (k.take m.length).take l.length = l := by rw [h2, h1]
  rwa [List.take_take, Nat.min_eq_left h] at e
theorem DGrow.trans {N : Nat} {σ σ' σ2 : Dp} (h : DGrow N σ σ') (k : DGrow N σ' σ2) : DGrow N σ σ2 where
  keep q hq := by have e := h.keep q hq; rw [k.keep q (by rw [e]; exact hq), e]
  tm := k.tm.trans h.tm
  len := Nat.le_trans h.len k.len
  stk := Nat.le_trans k.stk h.stk
  pre := take_take_len h.pre k.pre h.len
  blk := Nat.le_trans k.blk h.blk

theorem cntN_mono {n : Nat} {p q : Nat → Bool} (h : ∀ i, i < n → p i = true → q i = true) : cntN n p ≤ cntN n q := by
  induction n with
  | zero => exact Nat.le_refl _
  | succ n ih =>
    rw [cntN_succ, cntN_succ]
    have := ih fun i hi => h i (by omega)
    have := h n (by omega)
    cases hp : p n
    · simp; omega
    · rw [this hp]; simp; omega
theorem unv_mark {N v : Nat} {σ : Dp} (hv : v < N) (h0 : σ.num v = 0) : unv N (markD v σ) + 1 = unv N σ := by
  have h := cntN_one (n := N) (p := fun q => decide ((markD v σ).num q = 0)) hv (by simp [markD, fset])
  unfold unv
  rw [← h]
  refine cntN_congr fun q _ => ?_
  by_cases e : q = v
  · subst e; simp [markD, fset, h0]
  · simp [markD, fset, e]
theorem unv_pos {N v : Nat} {σ : Dp} (hv : v < N) (h0 : σ.num v = 0) : 0 < unv N σ := by have := unv_mark hv h0; omega
theorem unv_le (N : Nat) (σ : Dp) : unv N σ ≤ N := cntN_le _ _

/-- A loop's state. -/
structure DLoop (N v j : Nat) (σs σ : Dp) : Prop where
  keep : ∀ q, σs.num q ≠ 0 → σ.num q = σs.num q
  own : σ.num v = σs.tm + 1
  tm : σ.tm + unv N σ = σs.tm + unv N σs
  len : σs.stk.length ≤ σ.stk.length
  stk : σ.stk.length + 100 * unv N σ + 100 ≤ σs.stk.length + 100 * unv N σs + j
  pre : σ.stk.take σs.stk.length = σs.stk
  blk : σ.blk.length + unv N σ + 1 ≤ σs.blk.length + unv N σs
section
variable {N v j : Nat} {σs σ σ' : Dp}
theorem DLoop.grow (h : DLoop N v j σs σ) (hj : j ≤ 100) : DGrow N σs σ := by
  have h1 := h.stk; have h2 := h.blk
  exact ⟨h.keep, h.tm, h.len, by omega, h.pre, by omega⟩
theorem DLoop.start (hv : v < N) (h0 : σ.num v = 0) : DLoop N v 0 σ (markD v σ) := by
  have h := unv_mark hv h0
  refine ⟨fun q hq => ?_, ?_, ?_, Nat.le_refl _, ?_, List.take_length, ?_⟩
  · have : q ≠ v := fun e => hq (by rw [e]; exact h0)
    simp [markD, fset, this]
  · simp [markD, fset]
  · show σ.tm + 1 + _ = _; omega
  · show σ.stk.length + _ + _ ≤ _; omega
  · show σ.blk.length + _ + _ ≤ _; omega
theorem DLoop.fewer (h : DLoop N v j σs σ) (hv : v < N) (h0 : σs.num v = 0) : unv N σ + 1 ≤ unv N σs := by
  have g := unv_mark hv h0
  have : unv N σ ≤ unv N (markD v σs) := by
    unfold unv
    refine cntN_mono fun q _ hq => ?_
    have hq := of_decide_eq_true hq
    refine decide_eq_true ?_
    by_cases e : q = v
    · subst e; have := h.own; omega
    · simp only [markD, fset, if_neg e]
      by_cases e2 : σs.num q = 0
      · exact e2
      · rw [h.keep q e2] at hq; exact absurd hq e2
  omega
theorem DLoop.next (h : DLoop N v j σs σ) : DLoop N v (j + 1) σs σ := ⟨h.keep, h.own, h.tm, h.len, by have := h.stk; omega, h.pre, h.blk⟩
theorem take_snocE {l m : List (Int × Int)} (x : Int × Int) (h : m.take l.length = l) (hl : l.length ≤ m.length) : (m ++ [x]).take l.length = l := by
  rw [List.take_append_of_le_length hl, h]
theorem DLoop.push (h : DLoop N v j σs σ) (w x : Nat) : DLoop N v (j + 1) σs (lowD v x (pushD v w σ)) :=
  ⟨h.keep, h.own, h.tm, by have := h.len; simp [lowD, pushD]; omega, by have := h.stk; show (σ.stk ++ [_]).length + 100 * unv N σ + 100 ≤ _; simp only [List.length_append, List.length_cons, List.length_nil]; omega, take_snocE _ h.pre h.len, h.blk⟩
/-- A walk from w has come back. -/
theorem DLoop.back (h : DLoop N v j σs σ) (hv : σs.num v = 0) {w : Nat} (hg : DGrow N (pushD v w σ) σ') (hb : σ'.blk.length + unv N σ' + 1 ≤ σ.blk.length + unv N σ) : DLoop N v (j + 1) σs (backD v w σ.stk.length σ') := by
  have h1 := h.stk; have h2 := h.blk; have h3 := h.tm; have h4 := h.len; have h5 := h.own
  have g1 := hg.stk; have g2 := hg.tm; have g3 := hg.len
  have e1 : (pushD v w σ).stk.length = σ.stk.length + 1 := by simp [pushD]
  have e2 : unv N (pushD v w σ) = unv N σ := rfl
  have e3 : (pushD v w σ).tm = σ.tm := rfl
  have hp : σ'.stk.take σ.stk.length = σ.stk := by
    have := hg.pre
    rw [e1] at this
    have q : (σ'.stk.take (σ.stk.length + 1)).take σ.stk.length = σ.stk := by rw [this]; simp [pushD]
    rwa [List.take_take, Nat.min_eq_left (by omega)] at q
  have keep : ∀ q, σs.num q ≠ 0 → σ'.num q = σs.num q := fun q hq => by
    have := hg.keep q (by show σ.num q ≠ 0; rw [h.keep q hq]; exact hq)
    rw [this]; exact h.keep q hq
  have own : σ'.num v = σs.tm + 1 := by
    rw [hg.keep v (by show σ.num v ≠ 0; omega)]; exact h5
  unfold backD
  split
  · refine ⟨keep, own, ?_, ?_, ?_, ?_, ?_⟩
    · show σ'.tm + unv N σ' = _; omega
    · show σs.stk.length ≤ (σ'.stk.take _).length; rw [hp]; exact h4
    · show (σ'.stk.take _).length + 100 * unv N σ' + 100 ≤ _; rw [hp]; omega
    · show (σ'.stk.take _).take _ = _; rw [hp]; exact h.pre
    · show (σ'.blk ++ [_]).length + unv N σ' + 1 ≤ _; rw [List.length_append]; simp only [List.length_cons, List.length_nil]; omega
  · refine ⟨keep, own, ?_, ?_, ?_, ?_, ?_⟩
    · show σ'.tm + unv N σ' = _; omega
    · show σs.stk.length ≤ σ'.stk.length; omega
    · show σ'.stk.length + 100 * unv N σ' + 100 ≤ _; omega
    · show σ'.stk.take _ = _; exact take_take_len h.pre hp h.len
    · show σ'.blk.length + unv N σ' + 1 ≤ _; omega
end

/-- The walk: what it never does. -/
theorem walkD_grow {nb : Nat → List Nat} {N : Nat} (hN : N ≤ 100) (hl : ∀ v, v < N → (nb v).length ≤ 100) (hm : ∀ v u, v < N → u ∈ nb v → u < N) : ∀ (f v : Nat) (from_ : Int) (σ : Dp), v < N → σ.num v = 0 → unv N σ ≤ f →
    (∀ j, j ≤ (nb v).length → DLoop N v j σ (loopD nb (f - 1) v from_ σ j)) ∧ DGrow N σ (walkD nb f v from_ σ) ∧ (walkD nb f v from_ σ).blk.length + unv N (walkD nb f v from_ σ) + 1 ≤ σ.blk.length + unv N σ := by
  intro f
  induction f with
  | zero => intro v from_ σ hv h0 hf; have := unv_pos hv h0; omega
  | succ f ih =>
    intro v from_ σ hv h0 hf
    have hloop : ∀ j, j ≤ (nb v).length → DLoop N v j σ (loopD nb f v from_ σ j) := by
      intro j
      induction j with
      | zero => intro _; exact DLoop.start hv h0
      | succ j ihj =>
        intro hj
        have hi := ihj (by omega)
        rw [loopD_succ (by omega)]
        generalize hw : (nb v).getD j 0 = w
        have hwN : w < N := hm v w hv (by rw [← hw, List.getD, List.getElem?_eq_getElem (by omega)]; exact List.getElem_mem _)
        generalize loopD nb f v from_ σ j = σ1 at *
        unfold stepD
        split
        · exact hi.next
        · split
          · split
            · exact hi.push w _
            · exact hi.next
          · rename_i h2
            have h20 : σ1.num w = 0 := by omega
            have hu : unv N (pushD v w σ1) ≤ f := by
              show unv N σ1 ≤ f
              have := hi.fewer hv h0
              omega
            obtain ⟨-, hg, hb⟩ := ih w v (pushD v w σ1) hwN h20 hu
            exact hi.back h0 hg hb
    have hall := hloop _ (Nat.le_refl _)
    rw [loopD_all] at hall
    exact ⟨hloop, hall.grow (hl v hv), hall.blk⟩

/-- Each block has an edge, and not too many. -/
def DBig (σ : Dp) : Prop := ∀ b ∈ σ.blk, b ≠ [] ∧ b.length ≤ 10000
theorem walkD_big {nb : Nat → List Nat} {N : Nat} (hN : N ≤ 100) (hl : ∀ v, v < N → (nb v).length ≤ 100) (hm : ∀ v u, v < N → u ∈ nb v → u < N) : ∀ (f v : Nat) (from_ : Int) (σ : Dp), v < N → σ.num v = 0 → unv N σ ≤ f → DOk N σ → DBig σ → DBig (walkD nb f v from_ σ) := by
  intro f
  induction f with
  | zero => intro v from_ σ hv h0 hf; have := unv_pos hv h0; omega
  | succ f ih =>
    intro v from_ σ hv h0 hf hok hb
    obtain ⟨hloop, -, -⟩ := walkD_grow hN hl hm (f + 1) v from_ σ hv h0 hf
    simp only [Nat.add_sub_cancel] at hloop
    have hn := hl v hv
    have all : ∀ j, j ≤ (nb v).length → DBig (loopD nb f v from_ σ j) := by
      intro j
      induction j with
      | zero => intro _; exact hb
      | succ j ihj =>
        intro hj
        have hi := ihj (by omega)
        have hL := hloop j (by omega)
        rw [loopD_succ (by omega)]
        generalize hw : (nb v).getD j 0 = w
        have hwN : w < N := hm v w hv (by rw [← hw, List.getD, List.getElem?_eq_getElem (by omega)]; exact List.getElem_mem _)
        generalize loopD nb f v from_ σ j = σ1 at *
        unfold stepD
        split
        · exact hi
        · split
          · split
            · exact hi
            · exact hi
          · rename_i h2
            have h20 : σ1.num w = 0 := by omega
            have hok1 := (hL.grow (by omega)).ok hok
            have hu : unv N (pushD v w σ1) ≤ f := by
              show unv N σ1 ≤ f
              have := hL.fewer hv h0
              omega
            have hok2 : DOk N (pushD v w σ1) := ⟨hok1.tm, by have := hL.stk; have := hok.stk; show (σ1.stk ++ [_]).length + 100 * unv N σ1 ≤ 10000; simp only [List.length_append, List.length_cons, List.length_nil]; omega, hok1.blk⟩
            have hd := ih w v (pushD v w σ1) hwN h20 hu hok2 hi
            obtain ⟨-, hg, -⟩ := walkD_grow hN hl hm f w v (pushD v w σ1) hwN h20 hu
            have h3 := hg.len
            have h4 := (hg.ok hok2).stk
            generalize walkD nb f w v (pushD v w σ1) = σ2 at *
            have e1 : (pushD v w σ1).stk.length = σ1.stk.length + 1 := by simp [pushD]
            unfold backD
            split
            · intro b hbm
              have hbm2 : b ∈ σ2.blk ++ [σ2.stk.drop σ1.stk.length] := hbm
              rcases List.mem_append.1 hbm2 with h5 | h5
              · exact hd b h5
              · rw [List.mem_singleton] at h5
                subst h5
                have : (σ2.stk.drop σ1.stk.length).length = σ2.stk.length - σ1.stk.length := List.length_drop
                refine ⟨fun e => ?_, by omega⟩
                rw [e] at this
                simp at this
                omega
            · exact hd
    have := all _ (Nat.le_refl _)
    rwa [loopD_all] at this

end Go.Proofs.Ytnhhohhhpaejmaa
namespace Go.Proofs.Ytnhhohhhpaejmaa
open Go.RowKit

/-- Each edge that is kept has it. -/
structure DAll (P : Int × Int → Prop) (σ : Dp) : Prop where
  stk : ∀ e ∈ σ.stk, P e
  blk : ∀ b ∈ σ.blk, ∀ e ∈ b, P e
section
variable {P : Int × Int → Prop} {σ : Dp}
theorem DAll.push (h : DAll P σ) {v w : Nat} (hp : P ((v : Int), (w : Int))) : DAll P (pushD v w σ) :=
  ⟨fun e he => by
    rcases List.mem_append.1 (show e ∈ σ.stk ++ [((v : Int), (w : Int))] from he) with h1 | h1
    · exact h.stk e h1
    · rw [List.mem_singleton] at h1; subst h1; exact hp, h.blk⟩
theorem DAll.low (h : DAll P σ) (v x : Nat) : DAll P (lowD v x σ) := ⟨h.stk, h.blk⟩
theorem DAll.cut (h : DAll P σ) (k : Nat) : DAll P (cutD k σ) :=
  ⟨fun e he => h.stk e (List.mem_of_mem_take (show e ∈ σ.stk.take k from he)), fun b hb e he => by
    rcases List.mem_append.1 (show b ∈ σ.blk ++ [σ.stk.drop k] from hb) with h1 | h1
    · exact h.blk b h1 e he
    · rw [List.mem_singleton] at h1; subst h1; exact h.stk e (List.mem_of_mem_drop he)⟩
theorem DAll.back (h : DAll P σ) (v w k : Nat) : DAll P (backD v w k σ) := by
  unfold backD
  split
  · exact (h.low _ _).cut _
  · exact h.low _ _
end
theorem walkD_every {P : Int × Int → Prop} {nb : Nat → List Nat} {N : Nat} (hm : ∀ v u, v < N → u ∈ nb v → u < N) (hP : ∀ v u, v < N → u ∈ nb v → P ((v : Int), (u : Int))) : ∀ (f v : Nat) (from_ : Int) (σ : Dp), v < N → DAll P σ → DAll P (walkD nb f v from_ σ) := by
  intro f
  induction f with
  | zero => intro v from_ σ _ h; exact h
  | succ f ih =>
    intro v from_ σ hv h
    have all : ∀ j, j ≤ (nb v).length → DAll P (loopD nb f v from_ σ j) := by
      intro j
      induction j with
      | zero => intro _; exact ⟨h.stk, h.blk⟩
      | succ j ihj =>
        intro hj
        have hi := ihj (by omega)
        rw [loopD_succ (by omega)]
        have hmem : (nb v).getD j 0 ∈ nb v := by rw [List.getD, List.getElem?_eq_getElem (by omega)]; exact List.getElem_mem _
        generalize (nb v).getD j 0 = w at *
        generalize loopD nb f v from_ σ j = σ1 at *
        have hp := hP v w hv hmem
        unfold stepD
        split
        · exact hi
        · split
          · split
            · exact (hi.push hp).low _ _
            · exact hi
          · exact (ih w v _ (hm v w hv hmem) (hi.push hp)).back _ _ _
    have := all _ (Nat.le_refl _)
    rwa [loopD_all] at this
theorem allD_every {P : Int × Int → Prop} {nb : Nat → List Nat} {N : Nat} (hm : ∀ v u, v < N → u ∈ nb v → u < N) (hP : ∀ v u, v < N → u ∈ nb v → P ((v : Int), (u : Int))) : ∀ k, k ≤ N → DAll P (allD nb N startD k) := by
  intro k
  induction k with
  | zero => intro _; exact ⟨fun e he => absurd he (by simp [allD, startD]), fun b hb => absurd hb (by simp [allD, startD])⟩
  | succ k ih =>
    intro hk
    have h := ih (by omega)
    unfold allD
    split
    · exact walkD_every hm hP N k (-1) _ (by omega) h
    · exact h

/-- Does a block have a node? -/
def inB (b : List (Int × Int)) (q : Nat) : Bool := b.any fun e => decide (e.1 = (q : Int)) || decide (e.2 = (q : Int))
/-- How many blocks have it. -/
def bcnt (L : List (List (Int × Int))) (q : Nat) : Nat := (L.filter fun b => inB b q).length
theorem bcnt_nil (q : Nat) : bcnt [] q = 0 := rfl
theorem bcnt_snoc {L : List (List (Int × Int))} {k : Nat} (hk : k < L.length) (q : Nat) : bcnt (L.take (k + 1)) q = bcnt (L.take k) q + if inB (L.getD k []) q then 1 else 0 := by
  unfold bcnt
  rw [List.take_add_one, List.getElem?_eq_getElem hk, List.filter_append, List.length_append, List.getD, List.getElem?_eq_getElem hk]
  simp only [Option.toList_some, Option.getD_some]
  generalize L[k] = b
  by_cases h : inB b q = true <;> simp [h]
theorem bcnt_le (L : List (List (Int × Int))) (q : Nat) : bcnt L q ≤ L.length := List.length_filter_le _ _
theorem inB_snoc {b : List (Int × Int)} {k : Nat} (hk : k < b.length) (q : Nat) : inB (b.take (k + 1)) q = (inB (b.take k) q || (decide ((b.getD k (0, 0)).1 = (q : Int)) || decide ((b.getD k (0, 0)).2 = (q : Int)))) := by
  unfold inB
  rw [List.take_add_one, List.getElem?_eq_getElem hk, List.any_append, List.getD, List.getElem?_eq_getElem hk]
  simp
/-- The nodes of two blocks and more. -/
def cutsL (N : Nat) (L : List (List (Int × Int))) : List Nat := (List.range N).filter fun q => decide (1 < bcnt L q)

end Go.Proofs.Ytnhhohhhpaejmaa
namespace Go.Proofs.Ytnhhohhhpaejmaa
open Go.RowKit

/-- A way whose nodes all lie in a set. -/
inductive Way (A : Nat → Nat → Prop) (P : Nat → Prop) (a : Nat) : Nat → Prop
  | refl : P a → Way A P a a
  | step {b c : Nat} : Way A P a b → A b c → P c → Way A P a c
section
variable {A : Nat → Nat → Prop} {P Q : Nat → Prop} {a b c : Nat}
theorem Way.head (h : Way A P a b) : P a := by
  induction h with
  | refl h => exact h
  | step _ _ _ ih => exact ih
theorem Way.last (h : Way A P a b) : P b := by
  cases h with
  | refl h => exact h
  | step _ _ h => exact h
theorem Way.mono (h : Way A P a b) (hp : ∀ x, P x → Q x) : Way A Q a b := by
  induction h with
  | refl h => exact .refl (hp _ h)
  | step _ h1 h2 ih => exact .step ih h1 (hp _ h2)
theorem Way.trans (h : Way A P a b) (k : Way A P b c) : Way A P a c := by
  induction k with
  | refl _ => exact h
  | step _ h1 h2 ih => exact .step ih h1 h2
theorem Way.one (h : A a b) (ha : P a) (hb : P b) : Way A P a b := .step (.refl ha) h hb
theorem Way.symm (hs : ∀ x y, A x y → A y x) (h : Way A P a b) : Way A P b a := by
  induction h with
  | refl h => exact .refl h
  | step h1 h2 h3 ih => exact (Way.one (hs _ _ h2) h3 h1.last).trans ih
end

/-- What is asked of a graph and of the lists of neighbours. -/
structure Nbs (N : Nat) (A : Nat → Nat → Prop) (nb : Nat → List Nat) : Prop where
  sym : ∀ x y, A x y → A y x
  irr : ∀ x, ¬ A x x
  lt : ∀ x y, A x y → x < N
  mem : ∀ v, v < N → ∀ u, u ∈ nb v ↔ A v u
  nodup : ∀ v, v < N → (nb v).Nodup

/-- A node is an end of an edge. -/
def EndOf (e : Int × Int) (a : Nat) : Prop := e.1 = (a : Int) ∨ e.2 = (a : Int)
theorem endOf_pair {x y a : Nat} : EndOf ((x : Int), (y : Int)) a ↔ a = x ∨ a = y := by
  unfold EndOf; simp only; omega
/-- A pair is an edge. -/
def IsE (A : Nat → Nat → Prop) (e : Int × Int) : Prop := ∃ x y : Nat, e = ((x : Int), (y : Int)) ∧ A x y
/-- No node keeps two edges apart. -/
def Twn (A : Nat → Nat → Prop) (e f : Int × Int) : Prop := ∀ x a b : Nat, EndOf e a → EndOf f b → a ≠ x → b ≠ x → Way A (fun q => q ≠ x) a b
section
variable {A : Nat → Nat → Prop} {N : Nat} {nb : Nat → List Nat} {e f g : Int × Int}
theorem Twn.refl (hA : Nbs N A nb) (he : IsE A e) : Twn A e e := by
  obtain ⟨x, y, rfl, hxy⟩ := he
  intro z a b ha hb haz hbz
  rw [endOf_pair] at ha hb
  rcases ha with rfl | rfl <;> rcases hb with rfl | rfl
  · exact .refl haz
  · exact Way.one hxy haz hbz
  · exact Way.one (hA.sym _ _ hxy) haz hbz
  · exact .refl haz
theorem Twn.symm (hA : Nbs N A nb) (h : Twn A e f) : Twn A f e := fun x a b ha hb hax hbx => (h x b a hb ha hbx hax).symm hA.sym
theorem IsE.other (hA : Nbs N A nb) (he : IsE A e) (x : Nat) : ∃ a, EndOf e a ∧ a ≠ x := by
  obtain ⟨u, v, rfl, huv⟩ := he
  by_cases h : u = x
  · exact ⟨v, endOf_pair.2 (.inr rfl), fun e => hA.irr u (by rw [h] at huv ⊢; rw [e] at huv; exact huv)⟩
  · exact ⟨u, endOf_pair.2 (.inl rfl), h⟩
theorem Twn.trans (hA : Nbs N A nb) (hf : IsE A f) (h : Twn A e f) (k : Twn A f g) : Twn A e g := by
  intro x a c ha hc hax hcx
  obtain ⟨b, hb, hbx⟩ := hf.other hA x
  exact (h x a b ha hb hax hbx).trans (k x b c hb hc hbx hcx)
/-- Two edges at one node: only that node could keep them apart. -/
theorem Twn.at (hA : Nbs N A nb) {v a b : Nat} (ha : A v a) (hb : A v b) (h : Way A (fun q => q ≠ v) a b) : Twn A ((v : Int), (a : Int)) ((v : Int), (b : Int)) := by
  intro x p q hp hq hpx hqx
  rw [endOf_pair] at hp hq
  by_cases e : x = v
  · subst e
    rcases hp with rfl | rfl
    · exact absurd rfl hpx
    · rcases hq with rfl | rfl
      · exact absurd rfl hqx
      · exact h
  · have e' : v ≠ x := fun h => e h.symm
    have hpv : Way A (fun q => q ≠ x) p v := by
      rcases hp with rfl | rfl
      · exact .refl hpx
      · exact Way.one (hA.sym _ _ ha) hpx e'
    have hqv : Way A (fun q => q ≠ x) v q := by
      rcases hq with rfl | rfl
      · exact .refl hqx
      · exact Way.one hb e' hqx
    exact hpv.trans hqv
theorem Twn.flipR (h : Twn A e f) : Twn A e (f.2, f.1) := fun x a b ha hb => h x a b ha (by unfold EndOf at *; simp only at hb; exact hb.symm)
theorem Twn.flipL (h : Twn A e f) : Twn A (e.2, e.1) f := fun x a b ha hb => h x a b (by unfold EndOf at *; simp only at ha; exact ha.symm) hb
end

/-- An edge has been taken. -/
def Took (σ : Dp) (x y : Nat) : Prop := ((x : Int), (y : Int)) ∈ σ.stk ∨ ∃ b ∈ σ.blk, ((x : Int), (y : Int)) ∈ b
/-- Met since. -/
def New (σ τ : Dp) (q : Nat) : Prop := σ.num q = 0 ∧ τ.num q ≠ 0
/-- All edges taken, as they are in form, are different. -/
def UnT (σ : Dp) : Prop := ((σ.blk.flatten ++ σ.stk).map norm).Nodup
/-- Times. -/
structure Glob (N : Nat) (σ : Dp) : Prop where
  le : ∀ q, σ.num q ≤ σ.tm
  inj : ∀ q r, σ.num q ≠ 0 → σ.num q = σ.num r → q = r
  lt : ∀ q, σ.num q ≠ 0 → q < N
/-- A block is sealed: behind its node r lies D, which no other edge leaves. -/
structure Seal (A : Nat → Nat → Prop) (σ : Dp) (i r : Nat) (D : Nat → Prop) : Prop where
  root : σ.num r ≠ 0
  out : ¬ D r
  met : ∀ x, D x → σ.num x ≠ 0 ∧ σ.num r < σ.num x
  shut : ∀ x y, D x → A x y → D y ∨ y = r
  own : ∀ e ∈ σ.blk.getD i [], ∀ a, EndOf e a → D a ∨ a = r
  later : ∀ j, i < j → j < σ.blk.length → ∀ e ∈ σ.blk.getD j [], ∀ a, EndOf e a → ¬ D a
  stk : ∀ e ∈ σ.stk, ∀ a, EndOf e a → ¬ D a
theorem norm_eq {x y a b : Nat} (h : norm ((x : Int), (y : Int)) = norm ((a : Int), (b : Int))) : (a = x ∧ b = y) ∨ (a = y ∧ b = x) := by
  unfold norm at h
  simp only [Prod.mk.injEq] at h
  obtain ⟨h1, h2⟩ := h
  split at h1 <;> split at h1 <;> simp_all <;> omega
theorem UnT.push {σ : Dp} {v w : Nat} (h : UnT σ) (hi : ∀ e, (e ∈ σ.stk ∨ ∃ b ∈ σ.blk, e ∈ b) → ∃ x y : Nat, e = ((x : Int), (y : Int))) (h1 : ¬ Took σ v w) (h2 : ¬ Took σ w v) : UnT (pushD v w σ) := by
  show ((σ.blk.flatten ++ (σ.stk ++ [((v : Int), (w : Int))])).map norm).Nodup
  rw [← List.append_assoc, List.map_append, List.nodup_append]
  refine ⟨h, by simp, fun a ha b hb e => ?_⟩
  simp only [List.map_cons, List.map_nil, List.mem_singleton] at hb
  subst hb
  obtain ⟨g, hg, rfl⟩ := List.mem_map.1 ha
  have hg' : g ∈ σ.stk ∨ ∃ b ∈ σ.blk, g ∈ b := by
    rcases List.mem_append.1 hg with k | k
    · obtain ⟨b, hb, hgb⟩ := List.mem_flatten.1 k
      exact .inr ⟨b, hb, hgb⟩
    · exact .inl k
  obtain ⟨x, y, rfl⟩ := hi g hg'
  rcases norm_eq e with ⟨rfl, rfl⟩ | ⟨rfl, rfl⟩
  · exact h1 hg'
  · exact h2 hg'
theorem UnT.cut {σ : Dp} (h : UnT σ) (k : Nat) : UnT (cutD k σ) := by
  unfold UnT at *
  refine ((List.Perm.map norm ?_).nodup_iff).1 h
  show (σ.blk.flatten ++ σ.stk).Perm ((σ.blk ++ [σ.stk.drop k]).flatten ++ σ.stk.take k)
  rw [List.flatten_append, List.append_assoc]
  refine List.Perm.append_left _ ?_
  simp only [List.flatten_cons, List.flatten_nil, List.append_nil]
  have := List.perm_append_comm (l₁ := σ.stk.take k) (l₂ := σ.stk.drop k)
  rwa [List.take_append_drop] at this
theorem Took.push {σ : Dp} {v w x y : Nat} : Took (pushD v w σ) x y ↔ Took σ x y ∨ (x = v ∧ y = w) := by
  unfold Took
  have : ∀ e : Int × Int, e ∈ (pushD v w σ).stk ↔ e ∈ σ.stk ∨ e = ((v : Int), (w : Int)) := fun e => by simp [pushD]
  rw [this]
  show ((_ ∨ _) ∨ (∃ b ∈ σ.blk, _)) ↔ _
  simp only [Prod.mk.injEq, Int.ofNat_inj]
  constructor
  · rintro ((h | h) | h)
    · exact .inl (.inl h)
    · exact .inr h
    · exact .inl (.inr h)
  · rintro ((h | h) | h)
    · exact .inl (.inl h)
    · exact .inr h
    · exact .inl (.inr h)
theorem Took.low {σ : Dp} {v z x y : Nat} : Took (lowD v z σ) x y ↔ Took σ x y := Iff.rfl
theorem Took.cut {σ : Dp} {k x y : Nat} : Took (cutD k σ) x y ↔ Took σ x y := by
  unfold Took
  have h0 : ∀ e : Int × Int, e ∈ σ.stk ↔ e ∈ σ.stk.take k ∨ e ∈ σ.stk.drop k := fun e => by rw [← List.mem_append, List.take_append_drop]
  have h1 : ∀ e : Int × Int, (∃ b ∈ (cutD k σ).blk, e ∈ b) ↔ (∃ b ∈ σ.blk, e ∈ b) ∨ e ∈ σ.stk.drop k := fun e => by
    show (∃ b ∈ σ.blk ++ [σ.stk.drop k], e ∈ b) ↔ _
    constructor
    · rintro ⟨b, hb, he⟩
      rcases List.mem_append.1 hb with h | h
      · exact .inl ⟨b, h, he⟩
      · rw [List.mem_singleton] at h; subst h; exact .inr he
    · rintro (⟨b, hb, he⟩ | he)
      · exact ⟨b, List.mem_append_left _ hb, he⟩
      · exact ⟨_, List.mem_append_right _ (List.mem_singleton.2 rfl), he⟩
  rw [h1, h0]
  show (_ ∈ σ.stk.take k ∨ _) ↔ _
  constructor
  · rintro (h | h | h)
    · exact .inl (.inl h)
    · exact .inr h
    · exact .inl (.inr h)
  · rintro ((h | h) | h)
    · exact .inl h
    · exact .inr (.inr h)
    · exact .inr (.inl h)
theorem Took.back {σ : Dp} {v w k x y : Nat} : Took (backD v w k σ) x y ↔ Took σ x y := by
  unfold backD
  split
  · rw [Took.cut, Took.low]
  · exact Took.low

/-- What is asked where the walk of v begins, from p. -/
structure DPre (N : Nat) (A : Nat → Nat → Prop) (v : Nat) (p : Int) (σ : Dp) : Prop where
  hv : v < N
  h0 : σ.num v = 0
  g : Glob N σ
  un : UnT σ
  opn : ∀ y z, σ.num y ≠ 0 → A y z → σ.num z = 0 → ∃ q : Nat, p = (q : Int) ∧ σ.num y ≤ σ.num q ∧ Way A (fun x => σ.num x ≠ 0) y q
  par : ∀ q : Nat, p = (q : Int) → σ.num q ≠ 0 ∧ A q v ∧ Took σ q v
  took : ∀ e, (e ∈ σ.stk ∨ ∃ b ∈ σ.blk, e ∈ b) → ∃ x y : Nat, e = ((x : Int), (y : Int)) ∧ A x y ∧ σ.num x ≠ 0 ∧ (σ.num y ≠ 0 ∨ (y = v ∧ (x : Int) = p))

/-- What the walk of v has done, from p, behind those of its neighbours that K tells: times and low points. -/
structure DLa (N : Nat) (A : Nat → Nat → Prop) (v : Nat) (p : Int) (σ : Dp) (K : Nat → Prop) (τ : Dp) : Prop where
  g : Glob N τ
  keepn : ∀ q, σ.num q ≠ 0 → τ.num q = σ.num q
  keepl : ∀ q, σ.num q ≠ 0 → τ.low q = σ.low q
  own : τ.num v = σ.tm + 1
  new : ∀ q, New σ τ q → σ.tm + 1 ≤ τ.num q
  con : ∀ q, New σ τ q → Way A (New σ τ) v q
  done : ∀ q y, New σ τ q → A q y → (q ≠ v ∨ K y) → τ.num y ≠ 0 ∧ (Took τ q y ∨ Took τ y q)
  mono : ∀ x y, Took σ x y → Took τ x y
  lows : ∀ q y, New σ τ q → A q y → (q ≠ v ∨ (K y ∧ (y : Int) ≠ p)) → τ.low v ≤ τ.num y
  lowle : τ.low v ≤ τ.num v
  lowat : τ.low v = τ.num v ∨ ∃ z y, New σ τ z ∧ A z y ∧ σ.num y ≠ 0 ∧ σ.num y = τ.low v
/-- .. the edges taken and the blocks. -/
structure DLb (A : Nat → Nat → Prop) (v : Nat) (p : Int) (σ : Dp) (K : Nat → Prop) (τ : Dp) : Prop where
  took : ∀ e, (e ∈ τ.stk.drop σ.stk.length ∨ ∃ b ∈ τ.blk.drop σ.blk.length, e ∈ b) → ∃ x y : Nat, e = ((x : Int), (y : Int)) ∧ A x y ∧ New σ τ x ∧ τ.num y ≠ 0 ∧ (x = v → K y)
  un : UnT τ
  stk : τ.stk.take σ.stk.length = σ.stk
  twn : ∀ e ∈ τ.stk.drop σ.stk.length, ∃ q : Nat, p = (q : Int) ∧ Twn A e ((v : Int), (q : Int))
  blk : τ.blk.take σ.blk.length = σ.blk
  one : ∀ b ∈ τ.blk.drop σ.blk.length, ∀ e ∈ b, ∀ f ∈ b, Twn A e f
  shuts : ∀ i, σ.blk.length ≤ i → i < τ.blk.length → ∃ r D, Seal A τ i r D ∧ (∀ x, D x → New σ τ x) ∧ ¬ D v

section
variable {N v w : Nat} {p : Int} {σ τ ρ : Dp} {K K' : Nat → Prop} {A : Nat → Nat → Prop} {nb : Nat → List Nat}
theorem DLa.congr (h : DLa N A v p σ K τ) (e : ∀ y, K y ↔ K' y) : DLa N A v p σ K' τ := by rwa [show K' = K from funext fun y => propext (e y).symm]
theorem DLb.congr (h : DLb A v p σ K τ) (e : ∀ y, K y ↔ K' y) : DLb A v p σ K' τ := by rwa [show K' = K from funext fun y => propext (e y).symm]
theorem DLa.cut (h : DLa N A v p σ K τ) (k : Nat) : DLa N A v p σ K (cutD k τ) where
  g := ⟨h.g.le, h.g.inj, h.g.lt⟩
  keepn := h.keepn
  keepl := h.keepl
  own := h.own
  new := h.new
  con := h.con
  done q y hq hA hk := by rw [Took.cut, Took.cut]; exact h.done q y hq hA hk
  mono x y hx := by rw [Took.cut]; exact h.mono x y hx
  lows := h.lows
  lowle := h.lowle
  lowat := h.lowat
theorem list_take_eq {α : Type} {l m : List α} (h : m.take l.length = l) : m = l ++ m.drop l.length := by
  have := List.take_append_drop l.length m
  rw [h] at this; exact this.symm
/-- Where an edge that is taken lies. -/
theorem DLb.split (h : DLb A v p σ K τ) {e : Int × Int} (he : e ∈ τ.stk ∨ ∃ b ∈ τ.blk, e ∈ b) :
    (e ∈ σ.stk ∨ ∃ b ∈ σ.blk, e ∈ b) ∨ (e ∈ τ.stk.drop σ.stk.length ∨ ∃ b ∈ τ.blk.drop σ.blk.length, e ∈ b) := by
  rcases he with he | ⟨b, hb, he⟩
  · rw [list_take_eq h.stk] at he
    rcases List.mem_append.1 he with k | k
    · exact .inl (.inl k)
    · exact .inr (.inl k)
  · rw [list_take_eq h.blk] at hb
    rcases List.mem_append.1 hb with k | k
    · exact .inl (.inr ⟨b, k, he⟩)
    · exact .inr (.inr ⟨b, k, he⟩)
/-- What is taken behind the start: its ends are met, or it is the edge by which v was come to. -/
theorem DLb.all (hp : DPre N A v p σ) (ha : DLa N A v p σ K τ) (h : DLb A v p σ K τ) {e : Int × Int} (he : e ∈ τ.stk ∨ ∃ b ∈ τ.blk, e ∈ b) :
    ∃ x y : Nat, e = ((x : Int), (y : Int)) ∧ A x y ∧ τ.num x ≠ 0 ∧ τ.num y ≠ 0 ∧ (New σ τ x ∧ (x = v → K y) ∨ σ.num x ≠ 0 ∧ (σ.num y ≠ 0 ∨ y = v ∧ (x : Int) = p)) := by
  rcases h.split he with k | k
  · obtain ⟨x, y, rfl, hxy, hx, hy⟩ := hp.took e k
    refine ⟨x, y, rfl, hxy, by rw [ha.keepn x hx]; exact hx, ?_, .inr ⟨hx, hy⟩⟩
    rcases hy with hy | ⟨rfl, -⟩
    · rw [ha.keepn y hy]; exact hy
    · rw [ha.own]; omega
  · obtain ⟨x, y, rfl, hxy, hx, hy, hk⟩ := h.took e k
    exact ⟨x, y, rfl, hxy, hx.2, hy, .inl ⟨hx, hk⟩⟩
theorem DLb.took' (hp : DPre N A v p σ) (ha : DLa N A v p σ K τ) (h : DLb A v p σ K τ) {x y : Nat} (he : Took τ x y) :
    A x y ∧ τ.num x ≠ 0 ∧ τ.num y ≠ 0 ∧ (New σ τ x ∧ (x = v → K y) ∨ σ.num x ≠ 0 ∧ (σ.num y ≠ 0 ∨ y = v ∧ (x : Int) = p)) := by
  obtain ⟨a, b, e, h1⟩ := DLb.all hp ha h (e := ((x : Int), (y : Int))) he
  simp only [Prod.mk.injEq, Int.ofNat_inj] at e
  obtain ⟨rfl, rfl⟩ := e
  exact h1

/-- The start. -/
theorem DLa.start (hp : DPre N A v p σ) : DLa N A v p σ (fun _ => False) (markD v σ) := by
  have h0 := hp.h0
  have hN : ∀ q, New σ (markD v σ) q ↔ q = v := fun q => by
    unfold New markD fset
    by_cases e : q = v
    · subst e; simp [h0]
    · simp [e]
  have hk : ∀ q, σ.num q ≠ 0 → q ≠ v := fun q hq e => hq (by rw [e]; exact h0)
  refine ⟨⟨fun q => ?_, fun q r => ?_, fun q => ?_⟩, fun q hq => ?_, fun q hq => ?_, ?_, fun q hq => ?_, fun q hq => ?_, fun q y hq _ h => ?_, fun x y h => h, fun q y hq _ h => ?_, ?_, ?_⟩
  · have := hp.g.le q
    simp only [markD, fset]; split <;> omega
  · have h1 := hp.g.le q; have h2 := hp.g.le r; have h3 := hp.g.inj q r
    simp only [markD, fset]
    split <;> split <;> intro h4 h5
    · simp_all
    · omega
    · omega
    · exact h3 h4 h5
  · have := hp.g.lt q; have := hp.hv
    simp only [markD, fset]; split
    · intro _; simp_all
    · assumption
  · simp [markD, fset, hk q hq]
  · simp [markD, fset, hk q hq]
  · simp [markD, fset]
  · rw [hN] at hq; subst hq; simp [markD, fset]
  · have hv := (hN v).2 rfl
    rw [hN] at hq; subst hq; exact .refl hv
  · rw [hN] at hq
    rcases h with h | h
    · exact absurd hq h
    · exact h.elim
  · rw [hN] at hq
    rcases h with h | h
    · exact absurd hq h
    · exact h.1.elim
  · simp [markD, fset]
  · left; simp [markD, fset]
theorem DLb.start (hp : DPre N A v p σ) : DLb A v p σ (fun _ => False) (markD v σ) := by
  refine ⟨fun e he => ?_, hp.un, List.take_length, fun e he => ?_, List.take_length, fun b hb => ?_, fun i h1 h2 => absurd (show i < σ.blk.length from h2) (by omega)⟩
  · rcases he with he | ⟨b, hb, -⟩
    · rw [show (markD v σ).stk.drop σ.stk.length = [] from List.drop_length] at he; cases he
    · rw [show (markD v σ).blk.drop σ.blk.length = [] from List.drop_length] at hb; cases hb
  · rw [show (markD v σ).stk.drop σ.stk.length = [] from List.drop_length] at he; cases he
  · rw [show (markD v σ).blk.drop σ.blk.length = [] from List.drop_length] at hb; cases hb

/-- Nothing is done at a neighbour. -/
theorem DLa.skip (ha : DLa N A v p σ K τ) (h : A v w → τ.num w ≠ 0 ∧ (Took τ v w ∨ Took τ w v) ∧ ((w : Int) ≠ p → τ.num v ≤ τ.num w)) : DLa N A v p σ (fun y => K y ∨ y = w) τ where
  g := ha.g
  keepn := ha.keepn
  keepl := ha.keepl
  own := ha.own
  new := ha.new
  con := ha.con
  done q y hq hA hk := by
    by_cases e : q = v ∧ y = w
    · obtain ⟨rfl, rfl⟩ := e; exact ⟨(h hA).1, (h hA).2.1⟩
    · refine ha.done q y hq hA ?_
      rcases hk with hk | hk | hk
      · exact .inl hk
      · exact .inr hk
      · exact .inl fun e' => e ⟨e', hk⟩
  mono := ha.mono
  lows q y hq hA hk := by
    by_cases e : q = v ∧ y = w
    · obtain ⟨rfl, rfl⟩ := e
      rcases hk with hk | ⟨-, hk⟩
      · exact absurd rfl hk
      · exact Nat.le_trans ha.lowle ((h hA).2.2 hk)
    · refine ha.lows q y hq hA ?_
      rcases hk with hk | ⟨hk | hk, hk'⟩
      · exact .inl hk
      · exact .inr ⟨hk, hk'⟩
      · exact .inl fun e' => e ⟨e', hk⟩
  lowle := ha.lowle
  lowat := ha.lowat
theorem DLb.wide (h : DLb A v p σ K τ) (hk : ∀ y, K y → K' y) : DLb A v p σ K' τ where
  took e he := by
    obtain ⟨x, y, h1, h2, h3, h4, h5⟩ := h.took e he
    exact ⟨x, y, h1, h2, h3, h4, fun e => hk _ (h5 e)⟩
  un := h.un
  stk := h.stk
  twn := h.twn
  blk := h.blk
  one := h.one
  shuts := h.shuts
/-- An edge up is not taken before. -/
theorem fresh_up (hA : Nbs N A nb) (hp : DPre N A v p σ) (ha : DLa N A v p σ K τ) (hb : DLb A v p σ K τ) (hK : ¬ K w) (hw : (w : Int) ≠ p) (hn : New σ τ w → w = v ∨ τ.num w < τ.num v) (hvw : A v w) : ¬ Took τ v w ∧ ¬ Took τ w v := by
  have h0 := hp.h0
  constructor
  · intro h
    obtain ⟨-, -, -, h1⟩ := hb.took' hp ha h
    rcases h1 with ⟨-, h1⟩ | ⟨h1, -⟩
    · exact hK (h1 rfl)
    · exact h1 h0
  · intro h
    obtain ⟨h3, -, -, h1⟩ := hb.took' hp ha h
    rcases h1 with ⟨h1, -⟩ | ⟨-, h1 | ⟨-, h1⟩⟩
    · have h4 := ha.new w h1
      have h5 := ha.own
      rcases hn h1 with rfl | h6
      · exact hA.irr _ h3
      · omega
    · exact h1 h0
    · exact hw h1
/-- A seal still holds behind an edge more. -/
theorem Seal.push {i r : Nat} {D : Nat → Prop} (h : Seal A τ i r D) (hv : ¬ D v) (hw : ¬ D w) : Seal A (pushD v w τ) i r D :=
  ⟨h.root, h.out, h.met, h.shut, h.own, h.later, fun e he a ha hD => by
    rcases List.mem_append.1 (show e ∈ τ.stk ++ [((v : Int), (w : Int))] from he) with k | k
    · exact h.stk e k a ha hD
    · rw [List.mem_singleton] at k; subst k
      rcases endOf_pair.1 ha with rfl | rfl
      · exact hv hD
      · exact hw hD⟩
theorem Seal.low {i r x : Nat} {D : Nat → Prop} (h : Seal A τ i r D) : Seal A (lowD v x τ) i r D := ⟨h.root, h.out, h.met, h.shut, h.own, h.later, h.stk⟩
theorem Seal.cut {i r k : Nat} {D : Nat → Prop} (hi : i < τ.blk.length) (h : Seal A τ i r D) : Seal A (cutD k τ) i r D := by
  have e1 : ∀ j, j < τ.blk.length → (cutD k τ).blk.getD j [] = τ.blk.getD j [] := fun j hj => by
    show (τ.blk ++ [_]).getD j [] = _
    simp [List.getD, List.getElem?_append_left hj]
  refine ⟨h.root, h.out, h.met, h.shut, ?_, fun j hij hj e he => ?_, fun e he => h.stk e (List.mem_of_mem_take (show e ∈ τ.stk.take k from he))⟩
  · rw [e1 i hi]; exact h.own
  · by_cases hj2 : j < τ.blk.length
    · rw [e1 j hj2] at he
      exact h.later j hij hj2 e he
    · have hj3 : j = τ.blk.length := by
        have : (cutD k τ).blk.length = τ.blk.length + 1 := by simp [cutD]
        omega
      subst hj3
      have he2 : e ∈ τ.stk.drop k := by
        have : (cutD k τ).blk.getD τ.blk.length [] = τ.stk.drop k := by show (τ.blk ++ [_]).getD _ [] = _; simp [List.getD]
        rwa [this] at he
      exact h.stk e (List.mem_of_mem_drop he2)
/-- .. behind a whole walk. -/
theorem Seal.walk {i r : Nat} {D : Nat → Prop} (hi : i < σ.blk.length) (h : Seal A σ i r D) (hA : Nbs N A nb) (hp : DPre N A v p σ) (ha : DLa N A v p σ K τ) (hb : DLb A v p σ K τ) : Seal A τ i r D := by
  have hD : ∀ x, D x → τ.num x = σ.num x := fun x hx => ha.keepn x (h.met x hx).1
  have hr : τ.num r = σ.num r := ha.keepn r h.root
  have hnew : ∀ e : Int × Int, (e ∈ τ.stk.drop σ.stk.length ∨ ∃ b ∈ τ.blk.drop σ.blk.length, e ∈ b) → ∀ a, EndOf e a → ¬ D a := by
    intro e he a hea hDa
    obtain ⟨x, y, rfl, hxy, hx, hy, -⟩ := hb.took e he
    have hxD : ¬ D x := fun k => (h.met x k).1 hx.1
    rcases endOf_pair.1 hea with rfl | rfl
    · exact hxD hDa
    · rcases h.shut _ _ hDa (hA.sym _ _ hxy) with k | rfl
      · exact hxD k
      · exact h.root hx.1
  have hlen : σ.blk.length ≤ τ.blk.length := by
    have := congrArg List.length hb.blk
    rw [List.length_take] at this; omega
  have hg : ∀ j, j < σ.blk.length → τ.blk.getD j [] = σ.blk.getD j [] := fun j hj => by
    rw [list_take_eq hb.blk]
    simp [List.getD, List.getElem?_append_left hj]
  refine ⟨by rw [hr]; exact h.root, h.out, fun x hx => by rw [hD x hx, hr]; exact h.met x hx, h.shut, by rw [hg i hi]; exact h.own, fun j hij hj e he => ?_, fun e he => ?_⟩
  · by_cases hj2 : j < σ.blk.length
    · rw [hg j hj2] at he; exact h.later j hij hj2 e he
    · refine hnew e (.inr ⟨τ.blk.getD j [], ?_, he⟩)
      rw [List.mem_iff_getElem?]
      refine ⟨j - σ.blk.length, ?_⟩
      rw [List.getElem?_drop, show σ.blk.length + (j - σ.blk.length) = j by omega]
      simp [List.getD, List.getElem?_eq_getElem hj]
  · rw [list_take_eq hb.stk] at he
    rcases List.mem_append.1 he with k | k
    · exact h.stk e k
    · exact hnew e (.inl k)
end
end Go.Proofs.Ytnhhohhhpaejmaa
namespace Go.Proofs.Ytnhhohhhpaejmaa
open Go.RowKit

/-- Two nodes that see each other. -/
def AG (N : Nat) (G : Nat → Nat → Bool) (x y : Nat) : Prop := x < N ∧ y < N ∧ G x y = true
/-- One node is shut. -/
def shut1 (v : Nat) : Nat → Bool := fun q => decide (q = v)
/-- Without an edge. -/
def lessG (G : Nat → Nat → Bool) (a b : Nat) : Nat → Nat → Bool := fun x y => G x y && !(decide (x = a ∧ y = b) || decide (x = b ∧ y = a))
/-- A graph. -/
structure Gr (N : Nat) (G : Nat → Nat → Bool) : Prop where
  sym : ∀ i j, i < N → j < N → G i j = G j i
  irr : ∀ i, i < N → G i i = false
section
variable {N : Nat} {G H : Nat → Nat → Bool} {S : Nat → Bool}
theorem Gr.nbs (h : Gr N G) : Nbs N (AG N G) (fun v => (List.range N).filter (G v)) where
  sym x y hxy := ⟨hxy.2.1, hxy.1, by rw [h.sym y x hxy.2.1 hxy.1]; exact hxy.2.2⟩
  irr x hx := by have := h.irr x hx.1; rw [hx.2.2] at this; cases this
  lt x y hx := hx.1
  mem v hv u := by rw [List.mem_filter, List.mem_range]; exact ⟨fun k => ⟨hv, k.1, k.2⟩, fun k => ⟨k.2.1, k.2.2⟩⟩
  nodup v _ := List.nodup_range.filter _
theorem way_rch {x a b : Nat} : Way (AG N G) (fun q => q ≠ x) a b ↔ a ≠ x ∧ Rch N G (shut1 x) a b := by
  constructor
  · intro h
    refine ⟨h.head, ?_⟩
    induction h with
    | refl _ => exact .refl
    | step _ h1 h2 ih => exact .step ih h1.1 h1.2.1 h1.2.2 (by unfold shut1; simp [h2])
  · rintro ⟨hx, h⟩
    induction h with
    | refl => exact .refl hx
    | step _ h1 h2 h3 h4 ih => exact .step ih ⟨h1, h2, h3⟩ (by unfold shut1 at h4; simpa using h4)
theorem rch_symS (hs : ∀ i j, i < N → j < N → G i j = G j i) {a b : Nat} (ha : S a = false) (h : Rch N G S a b) : Rch N G S b a := by
  induction h with
  | refl => exact .refl
  | @step b c hab hb hc hg hS ih => exact (Rch.step (.refl : Rch N G S c c) hc hb (by rw [hs c b hc hb]; exact hg) (hab.free ha)).trans ih
theorem lead_of {a : Nat} (ha : S a = false) : ∃ m, m ≤ a ∧ Lead N G S m ∧ Rch N G S m a := by
  induction a using Nat.strongRecOn with
  | _ a ih =>
    by_cases h : Lead N G S a
    · exact ⟨a, Nat.le_refl _, h, .refl⟩
    · have : ∃ u, u < a ∧ S u = false ∧ Rch N G S u a := Classical.byContradiction fun hn => h ⟨ha, fun u hu hS hr => hn ⟨u, hu, hS, hr⟩⟩
      obtain ⟨u, h1, h2, h3⟩ := this
      obtain ⟨m, h4, h5, h6⟩ := ih u h1 h2
      exact ⟨m, by omega, h5, h6.trans h3⟩
theorem lead_uniq (hs : ∀ i j, i < N → j < N → G i j = G j i) {m k : Nat} (hm : Lead N G S m) (hk : Lead N G S k) (h : Rch N G S m k) : m = k := by
  rcases Nat.lt_trichotomy m k with e | e | e
  · exact absurd h (hk.2 m e hm.1)
  · exact e
  · exact absurd (rch_symS hs hm.1 h) (hm.2 k e hk.1)
theorem cnt_eq (I : Nat → Bool) : ∀ n, cnt I n = cntN n I
  | 0 => rfl
  | n + 1 => by rw [cnt, cntN_succ, cnt_eq I n]

/-- Without an edge whose ends hang together all the same: as many components. -/
theorem parts_same (h : ∀ u v, u < N → v < N → (Rch N H S u v ↔ Rch N G S u v)) : partsF N H S = partsF N G S := by
  unfold partsF
  rw [cnt_eq, cnt_eq]
  refine cntN_congr fun v hv => ?_
  rw [Bool.eq_iff_iff, leadB_iff, leadB_iff]
  unfold Lead
  constructor
  · exact fun k => ⟨k.1, fun u hu hS hr => k.2 u hu hS ((h u v (by omega) hv).2 hr)⟩
  · exact fun k => ⟨k.1, fun u hu hS hr => k.2 u hu hS ((h u v (by omega) hv).1 hr)⟩
theorem less_sub {a b u v : Nat} (h : Rch N (lessG G a b) S u v) : Rch N G S u v := by
  induction h with
  | refl => exact .refl
  | step _ h1 h2 h3 h4 ih => exact .step ih h1 h2 (by unfold lessG at h3; rw [Bool.and_eq_true] at h3; exact h3.1) h4
theorem less_sym (hs : ∀ i j, i < N → j < N → G i j = G j i) (a b : Nat) : ∀ i j, i < N → j < N → lessG G a b i j = lessG G a b j i := fun i j hi hj => by
  unfold lessG; rw [hs i j hi hj]; congr 1; rw [Bool.eq_iff_iff]; simp; omega
theorem less_swap (a b : Nat) : lessG G a b = lessG G b a := by
  funext i j; unfold lessG; congr 1; rw [Bool.eq_iff_iff]; simp; omega
/-- What can be reached with an edge more. -/
theorem less_rch {a b u v : Nat} (hs : ∀ i j, i < N → j < N → G i j = G j i) (h : Rch N G (fun _ => false) u v) :
    Rch N (lessG G a b) (fun _ => false) u v ∨ (Rch N (lessG G a b) (fun _ => false) u a ∧ Rch N (lessG G a b) (fun _ => false) b v) ∨ (Rch N (lessG G a b) (fun _ => false) u b ∧ Rch N (lessG G a b) (fun _ => false) a v) := by
  induction h with
  | refl => exact .inl .refl
  | @step c d _ h1 h2 h3 h4 ih =>
    have hs' := less_sym hs a b
    by_cases e : (c = a ∧ d = b) ∨ (c = b ∧ d = a)
    · rcases e with ⟨rfl, rfl⟩ | ⟨rfl, rfl⟩
      · rcases ih with k | ⟨k, l⟩ | ⟨k, l⟩
        · exact .inr (.inl ⟨k, .refl⟩)
        · exact .inr (.inl ⟨k, .refl⟩)
        · exact .inl k
      · rcases ih with k | ⟨k, l⟩ | ⟨k, l⟩
        · exact .inr (.inr ⟨k, .refl⟩)
        · exact .inl k
        · exact .inr (.inr ⟨k, .refl⟩)
    · have hst : lessG G a b c d = true := by
        unfold lessG; rw [h3]; simp; omega
      rcases ih with k | ⟨k, l⟩ | ⟨k, l⟩
      · exact .inl (.step k h1 h2 hst rfl)
      · exact .inr (.inl ⟨k, .step l h1 h2 hst rfl⟩)
      · exact .inr (.inr ⟨k, .step l h1 h2 hst rfl⟩)
theorem parts_less_same {a b : Nat} (hG : Gr N G) (ha : a < N) (hb : b < N) (h : Rch N (lessG G a b) (fun _ => false) a b) : partsF N (lessG G a b) (fun _ => false) = partsF N G (fun _ => false) := by
  refine parts_same fun u v hu hv => ⟨less_sub, fun k => ?_⟩
  rcases less_rch (a := a) (b := b) hG.sym k with k | ⟨k, l⟩ | ⟨k, l⟩
  · exact k
  · exact (k.trans h).trans l
  · exact (k.trans (rch_symS (less_sym hG.sym a b) rfl h)).trans l
theorem parts_less_lt {a b ma mb : Nat} (hG : Gr N G) (ha : a < N) (hb : b < N) (hab : G a b = true) (h : ¬ Rch N (lessG G a b) (fun _ => false) a b)
    (h1 : Lead N (lessG G a b) (fun _ => false) ma) (h2 : Rch N (lessG G a b) (fun _ => false) ma a) (h3 : Lead N (lessG G a b) (fun _ => false) mb) (h4 : Rch N (lessG G a b) (fun _ => false) mb b) (hlt : ma < mb) (hbN : mb < N) :
    partsF N (lessG G a b) (fun _ => false) = partsF N G (fun _ => false) + 1 := by
  have hs := hG.sym
  have hs' := less_sym hs a b
  have hno : ¬ Lead N G (fun _ => false) mb := fun k => k.2 ma hlt rfl ((less_sub h2).trans ((Rch.step .refl ha hb hab rfl).trans (less_sub (rch_symS hs' rfl h4))))
  unfold partsF
  rw [cnt_eq, cnt_eq, ← cntN_one hbN (by cases e : leadB N G (fun _ => false) mb with | false => rfl | true => exact absurd (leadB_iff.1 e) hno)]
  refine cntN_congr fun v hv => ?_
  rw [Bool.eq_iff_iff, Bool.or_eq_true, leadB_iff, leadB_iff, decide_eq_true_eq]
  constructor
  · intro k
    by_cases e : v = mb
    · exact .inr e
    · left
      refine ⟨rfl, fun u hu _ hr => ?_⟩
      rcases less_rch (a := a) (b := b) hs hr with r | ⟨r, l⟩ | ⟨r, l⟩
      · exact k.2 u hu rfl r
      · exact e (lead_uniq hs' k h3 (rch_symS hs' rfl (h4.trans l)))
      · have ev : v = ma := lead_uniq hs' k h1 (rch_symS hs' rfl (h2.trans l))
        exact h3.2 u (by omega) rfl (r.trans (rch_symS hs' rfl h4))
  · rintro (k | rfl)
    · exact ⟨rfl, fun u hu hS hr => k.2 u hu hS (less_sub hr)⟩
    · exact h3
/-- Without a bridge there is one component more. -/
theorem parts_less_more {a b : Nat} (hG : Gr N G) (ha : a < N) (hb : b < N) (hab : G a b = true) (h : ¬ Rch N (lessG G a b) (fun _ => false) a b) : partsF N (lessG G a b) (fun _ => false) = partsF N G (fun _ => false) + 1 := by
  have hs' := less_sym hG.sym a b
  obtain ⟨ma, l1, h1, h2⟩ := lead_of (N := N) (G := lessG G a b) (S := fun _ => false) (a := a) rfl
  obtain ⟨mb, l2, h3, h4⟩ := lead_of (N := N) (G := lessG G a b) (S := fun _ => false) (a := b) rfl
  rcases Nat.lt_trichotomy ma mb with e | e | e
  · exact parts_less_lt hG ha hb hab h h1 h2 h3 h4 e (by omega)
  · subst e
    exact absurd ((rch_symS hs' rfl h2).trans h4) h
  · have h' : ¬ Rch N (lessG G b a) (fun _ => false) b a := by rw [less_swap]; exact fun k => h (rch_symS hs' rfl k)
    rw [less_swap] at h1 h2 h3 h4 ⊢
    exact parts_less_lt hG hb ha (by rw [hG.sym b a hb ha]; exact hab) h' h3 h4 h1 h2 e (by omega)
theorem parts_bridge {a b : Nat} (hG : Gr N G) (ha : a < N) (hb : b < N) (hab : G a b = true) : partsF N G (fun _ => false) < partsF N (lessG G a b) (fun _ => false) ↔ ¬ Rch N (lessG G a b) (fun _ => false) a b := by
  constructor
  · intro h k
    rw [parts_less_same hG ha hb k] at h
    omega
  · intro h
    rw [parts_less_more hG ha hb hab h]
    omega

/-- A way that avoids a node, or goes along one of its neighbours. -/
theorem rch_avoid {v u w : Nat} (hu : u ≠ v) (h : Rch N G (fun _ => false) u w) : (w ≠ v ∧ Rch N G (shut1 v) u w) ∨ ∃ a, AG N G a v ∧ Rch N G (shut1 v) u a := by
  induction h with
  | refl => exact .inl ⟨hu, .refl⟩
  | @step c d _ h1 h2 h3 h4 ih =>
    rcases ih with ⟨k1, k2⟩ | k
    · by_cases e : d = v
      · subst e; exact .inr ⟨c, ⟨h1, h2, h3⟩, k2⟩
      · exact .inl ⟨e, .step k2 h1 h2 h3 (by unfold shut1; simp [e])⟩
    · exact .inr k
theorem rch_open {u w : Nat} (h : Rch N G S u w) : Rch N G (fun _ => false) u w := by
  induction h with
  | refl => exact .refl
  | step _ h1 h2 h3 _ ih => exact .step ih h1 h2 h3 rfl
theorem shut1_ne {v a : Nat} (h : a ≠ v) : shut1 v a = false := by unfold shut1; simp [h]
/-- A node all of whose neighbours hang together without it: no more components. -/
theorem parts_shut_le {v : Nat} (hG : Gr N G) (hv : v < N) (h : ∀ a b, AG N G v a → AG N G v b → Rch N G (shut1 v) a b) : partsF N G (shut1 v) ≤ partsF N G (fun _ => false) := by
  have hs := hG.sym
  have hA := hG.nbs
  obtain ⟨m, l1, h1, h2⟩ := lead_of (N := N) (G := G) (S := fun _ => false) (a := v) rfl
  have far : ∀ u, u ≠ v → Lead N G (shut1 v) u → ¬ Rch N G (fun _ => false) u v → Lead N G (fun _ => false) u := by
    intro u hu hl hn
    refine ⟨rfl, fun x hx _ hr => ?_⟩
    have hxv : x ≠ v := fun e => hn (by rw [e] at hr; exact rch_symS hs rfl hr)
    rcases rch_avoid hxv hr with ⟨-, k⟩ | ⟨a, k1, k2⟩
    · exact hl.2 x hx (shut1_ne hxv) k
    · exact hn ((rch_symS hs rfl hr).trans ((rch_open k2).trans (.step .refl k1.1 k1.2.1 k1.2.2 rfl)))
  have near : ∀ u, u ≠ v → Rch N G (fun _ => false) u v → ∃ a, AG N G v a ∧ Rch N G (shut1 v) u a := by
    intro u hu hr
    rcases rch_avoid hu hr with ⟨k, -⟩ | ⟨a, k1, k2⟩
    · exact absurd rfl k
    · exact ⟨a, hA.sym _ _ k1, k2⟩
  unfold partsF
  rw [cnt_eq, cnt_eq]
  by_cases hex : ∃ u, u < N ∧ Lead N G (shut1 v) u ∧ Rch N G (fun _ => false) u v
  · obtain ⟨u0, hu0, hl0, hr0⟩ := hex
    have hu0v : u0 ≠ v := fun e => by have := hl0.1; rw [e] at this; unfold shut1 at this; simp at this
    have huniq : ∀ u, u < N → Lead N G (shut1 v) u → Rch N G (fun _ => false) u v → u = u0 := by
      intro u hu hl hr
      have huv : u ≠ v := fun e => by have := hl.1; rw [e] at this; unfold shut1 at this; simp at this
      obtain ⟨a, a1, a2⟩ := near u huv hr
      obtain ⟨b, b1, b2⟩ := near u0 hu0v hr0
      exact lead_uniq hs hl hl0 ((a2.trans (h a b a1 b1)).trans (rch_symS hs (shut1_ne hu0v) b2))
    -- both counts without the one of v's component
    have c1 : cntN N (leadB N G (shut1 v)) = cntN N (fun u => leadB N G (shut1 v) u && !decide (u = u0)) + 1 := by
      rw [← cntN_one (p := fun u => leadB N G (shut1 v) u && !decide (u = u0)) hu0 (by simp)]
      refine cntN_congr fun u _ => ?_
      by_cases e : u = u0
      · subst e; simp [leadB_iff.2 hl0]
      · simp [e]
    have c2 : cntN N (leadB N G (fun _ => false)) = cntN N (fun u => leadB N G (fun _ => false) u && !decide (u = m)) + 1 := by
      rw [← cntN_one (p := fun u => leadB N G (fun _ => false) u && !decide (u = m)) (show m < N by omega) (by simp)]
      refine cntN_congr fun u _ => ?_
      by_cases e : u = m
      · subst e; simp [leadB_iff.2 h1]
      · simp [e]
    rw [c1, c2]
    have := cntN_mono (n := N) (p := fun u => leadB N G (shut1 v) u && !decide (u = u0)) (q := fun u => leadB N G (fun _ => false) u && !decide (u = m)) (fun u hu hp => by
      simp only [Bool.and_eq_true, Bool.not_eq_true', decide_eq_false_iff_not] at hp ⊢
      have hl := leadB_iff.1 hp.1
      have huv : u ≠ v := fun e => by have := hl.1; rw [e] at this; unfold shut1 at this; simp at this
      have hn : ¬ Rch N G (fun _ => false) u v := fun k => hp.2 (huniq u hu hl k)
      exact ⟨leadB_iff.2 (far u huv hl hn), fun e => hn (by rw [e]; exact h2)⟩)
    omega
  · refine cntN_mono fun u hu hp => ?_
    have hl := leadB_iff.1 hp
    have huv : u ≠ v := fun e => by have := hl.1; rw [e] at this; unfold shut1 at this; simp at this
    exact leadB_iff.2 (far u huv hl fun k => hex ⟨u, hu, hl, k⟩)
/-- A node that keeps two of its neighbours apart: more components without it. -/
theorem parts_shut_lt {v a b : Nat} (hG : Gr N G) (hv : v < N) (ha : AG N G v a) (hb : AG N G v b) (h : ¬ Rch N G (shut1 v) a b) : partsF N G (fun _ => false) < partsF N G (shut1 v) := by
  have hs := hG.sym
  have hA := hG.nbs
  have hav : a ≠ v := fun e => hA.irr v (by rw [e] at ha; exact ha)
  have hbv : b ≠ v := fun e => hA.irr v (by rw [e] at hb; exact hb)
  obtain ⟨m, l1, h1, h2⟩ := lead_of (N := N) (G := G) (S := fun _ => false) (a := v) rfl
  obtain ⟨p, p1, p2, p3⟩ := lead_of (N := N) (G := G) (S := shut1 v) (shut1_ne hav)
  obtain ⟨q, q1, q2, q3⟩ := lead_of (N := N) (G := G) (S := shut1 v) (shut1_ne hbv)
  have hpq : p ≠ q := fun e => h ((rch_symS hs p2.1 p3).trans (by rw [e]; exact q3))
  have hpN : p < N := Nat.lt_of_le_of_lt p1 ha.2.1
  have hqN : q < N := Nat.lt_of_le_of_lt q1 hb.2.1
  have hpv : Rch N G (fun _ => false) p v := (rch_open p3).trans (.step .refl ha.2.1 hv (hA.sym _ _ ha).2.2 rfl)
  have hqv : Rch N G (fun _ => false) q v := (rch_open q3).trans (.step .refl hb.2.1 hv (hA.sym _ _ hb).2.2 rfl)
  have onlym : ∀ u, Lead N G (fun _ => false) u → Rch N G (fun _ => false) u v → u = m := fun u hl hr => lead_uniq hs hl h1 (hr.trans (rch_symS hs rfl h2))
  unfold partsF
  rw [cnt_eq, cnt_eq]
  have c2 : cntN N (leadB N G (fun _ => false)) = cntN N (fun u => leadB N G (fun _ => false) u && !decide (u = m)) + 1 := by
    rw [← cntN_one (p := fun u => leadB N G (fun _ => false) u && !decide (u = m)) (show m < N by omega) (by simp)]
    refine cntN_congr fun u _ => ?_
    by_cases e : u = m
    · subst e; simp [leadB_iff.2 h1]
    · simp [e]
  have c3 := cntN_one (n := N) (p := fun u => leadB N G (fun _ => false) u && !decide (u = m)) (y := p) hpN (by
    cases e : leadB N G (fun _ => false) p with
    | false => simp
    | true => simp [onlym p (leadB_iff.1 e) hpv])
  have c4 := cntN_one (n := N) (p := fun u => (leadB N G (fun _ => false) u && !decide (u = m)) || decide (u = p)) (y := q) hqN (by
    cases e : leadB N G (fun _ => false) q with
    | false => simp [Ne.symm hpq]
    | true => simp [onlym q (leadB_iff.1 e) hqv]; exact fun k => hpq (k.symm.trans (onlym q (leadB_iff.1 e) hqv).symm))
  have c5 := cntN_mono (n := N) (p := fun u => ((leadB N G (fun _ => false) u && !decide (u = m)) || decide (u = p)) || decide (u = q)) (q := leadB N G (shut1 v)) (fun u hu hp => by
    simp only [Bool.or_eq_true, Bool.and_eq_true, Bool.not_eq_true', decide_eq_false_iff_not, decide_eq_true_eq] at hp
    rcases hp with (⟨k1, k2⟩ | rfl) | rfl
    · have hl := leadB_iff.1 k1
      have huv : u ≠ v := fun e => k2 (onlym u hl (by rw [e]; exact .refl))
      exact leadB_iff.2 ⟨shut1_ne huv, fun x hx _ hr => hl.2 x hx rfl (rch_open hr)⟩
    · exact leadB_iff.2 p2
    · exact leadB_iff.2 q2)
  omega
/-- A node cuts just if two edges at it are kept apart. -/
theorem parts_cut {v : Nat} (hG : Gr N G) (hv : v < N) : partsF N G (fun _ => false) < partsF N G (shut1 v) ↔ ∃ a b, AG N G v a ∧ AG N G v b ∧ ¬ Twn (AG N G) ((v : Int), (a : Int)) ((v : Int), (b : Int)) := by
  have hA := hG.nbs
  constructor
  · intro h
    refine Classical.byContradiction fun hn => ?_
    have := parts_shut_le hG hv fun a b ha hb => by
      have ht : Twn (AG N G) ((v : Int), (a : Int)) ((v : Int), (b : Int)) := Classical.byContradiction fun k => hn ⟨a, b, ha, hb, k⟩
      have hav : a ≠ v := fun e => hA.irr v (by rw [e] at ha; exact ha)
      have hbv : b ≠ v := fun e => hA.irr v (by rw [e] at hb; exact hb)
      exact (way_rch.1 (ht v a b (endOf_pair.2 (.inr rfl)) (endOf_pair.2 (.inr rfl)) hav hbv)).2
    omega
  · rintro ⟨a, b, ha, hb, hn⟩
    refine parts_shut_lt hG hv ha hb fun k => hn (Twn.at hA ha hb (way_rch.2 ⟨fun e => hA.irr v (by rw [e] at ha; exact ha), k⟩))

/-- An edge whose ends hang together without it has a fellow. -/
theorem fellow {a b : Nat} (hG : Gr N G) (ha : AG N G a b) (h : Rch N (lessG G a b) (fun _ => false) a b) : ∃ c, AG N G a c ∧ c ≠ b ∧ Twn (AG N G) ((a : Int), (b : Int)) ((a : Int), (c : Int)) := by
  have hA := hG.nbs
  have hne : b ≠ a := fun e => hA.irr a (by rw [e] at ha; exact ha)
  have key : ∀ x, Rch N (lessG G a b) (fun _ => false) a x → x = a ∨ ∃ c, AG N G a c ∧ c ≠ b ∧ Way (AG N G) (fun q => q ≠ a) c x := by
    intro x hx
    induction hx with
    | refl => exact .inl rfl
    | @step x y _ h1 h2 h3 h4 ih =>
      have hg : G x y = true := by unfold lessG at h3; rw [Bool.and_eq_true] at h3; exact h3.1
      by_cases e : y = a
      · exact .inl e
      · right
        rcases ih with rfl | ⟨c, c1, c2, c3⟩
        · refine ⟨y, ⟨h1, h2, hg⟩, fun e2 => ?_, .refl e⟩
          subst e2
          unfold lessG at h3; simp at h3
        · exact ⟨c, c1, c2, .step c3 ⟨h1, h2, hg⟩ e⟩
  rcases key b h with e | ⟨c, c1, c2, c3⟩
  · exact absurd e hne
  · exact ⟨c, c1, c2, Twn.at hA ha c1 (c3.symm hA.sym)⟩
/-- An edge with a fellow: its ends hang together without it. -/
theorem no_bridge {a b : Nat} {f : Int × Int} (hG : Gr N G) (ha : AG N G a b) (hf : IsE (AG N G) f) (h : Twn (AG N G) ((a : Int), (b : Int)) f) (hne : ¬ ∀ c, EndOf f c → c = a ∨ c = b) : Rch N (lessG G a b) (fun _ => false) a b := by
  have hA := hG.nbs
  have hab : a ≠ b := fun e => hA.irr b (by rw [e] at ha; exact ha)
  have : ∃ c, EndOf f c ∧ c ≠ a ∧ c ≠ b := Classical.byContradiction fun k => hne fun c hc => Classical.byContradiction fun hn => k ⟨c, hc, fun e => hn (.inl e), fun e => hn (.inr e)⟩
  obtain ⟨c, hc, hca, hcb⟩ := this
  have h1 := h b a c (endOf_pair.2 (.inl rfl)) hc hab hcb
  have h2 := h a b c (endOf_pair.2 (.inr rfl)) hc (Ne.symm hab) hca
  have conv : ∀ x, (x = a ∨ x = b) → ∀ u w, Way (AG N G) (fun q => q ≠ x) u w → Rch N (lessG G a b) (fun _ => false) u w := by
    intro x hx u w hw
    induction hw with
    | refl _ => exact .refl
    | @step y z h3 h4 h5 ih =>
      refine .step ih h4.1 h4.2.1 ?_ rfl
      have h6 := h3.last
      unfold lessG
      rw [h4.2.2]
      simp only [Bool.true_and, Bool.not_eq_true', Bool.or_eq_false_iff, decide_eq_false_iff_not]
      rcases hx with rfl | rfl
      · exact ⟨fun k => h6 k.1, fun k => h5 k.2⟩
      · exact ⟨fun k => h5 k.2, fun k => h6 k.1⟩
  exact (conv b (.inr rfl) _ _ h1).trans (rch_symS (less_sym hG.sym a b) rfl (conv a (.inl rfl) _ _ h2))
end
end Go.Proofs.Ytnhhohhhpaejmaa
namespace Go.Proofs.Ytnhhohhhpaejmaa
open Go Go.RowKit

theorem cnt_posW {I : Nat → Bool} : ∀ {n}, cnt I n ≠ 0 ↔ ∃ x, x < n ∧ I x = true
  | 0 => by simp [cnt]
  | n + 1 => by
    rw [cnt]
    constructor
    · intro h
      by_cases e : I n = true
      · exact ⟨n, by omega, e⟩
      · rw [if_neg e] at h
        obtain ⟨x, h1, h2⟩ := cnt_posW.1 h
        exact ⟨x, by omega, h2⟩
    · rintro ⟨x, h1, h2⟩
      by_cases e : x = n
      · subst e; rw [if_pos h2]; omega
      · have := cnt_posW.2 ⟨x, show x < n by omega, h2⟩
        omega
theorem cnt_twoW {I : Nat → Bool} {x y : Nat} : ∀ {n}, x < y → y < n → I x = true → I y = true → 2 ≤ cnt I n
  | 0, _, h, _, _ => absurd h (Nat.not_lt_zero _)
  | n + 1, hxy, hy, h1, h2 => by
    rw [cnt]
    by_cases e : y = n
    · subst e
      have := cnt_posW.2 ⟨x, hxy, h1⟩
      rw [if_pos h2]; omega
    · have := cnt_twoW (n := n) hxy (by omega) h1 h2
      omega
theorem cnt_oneW {I : Nat → Bool} {x : Nat} : ∀ {n}, x < n → I x = true → (∀ u, u < n → I u = true → u = x) → cnt I n = 1
  | 0, h, _, _ => absurd h (Nat.not_lt_zero _)
  | n + 1, hx, h1, h2 => by
    rw [cnt]
    by_cases e : x = n
    · subst e
      have : cnt I x = 0 := by
        rcases Nat.eq_zero_or_pos (cnt I x) with h | h
        · exact h
        · obtain ⟨u, hu, hi⟩ := cnt_posW.1 (show cnt I x ≠ 0 by omega)
          have := h2 u (by omega) hi
          omega
      rw [if_pos h1, this]
    · rw [if_neg (fun h => e (h2 n (by omega) h).symm), cnt_oneW (n := n) (by omega) h1 fun u hu hi => h2 u (by omega) hi]

/-- One component just where all hang together. -/
theorem parts_oneW {N : Nat} {G : Nat → Nat → Bool} {S : Nat → Bool} (hG : ∀ i j, G i j = G j i) : (∃ x, x < N ∧ S x = false) → (partsF N G S = 1 ↔ ∀ a b, a < N → b < N → S a = false → S b = false → Rch N G S a b) := by
  rintro ⟨x, hx, hs⟩
  have symm : ∀ a b, S a = false → Rch N G S a b → Rch N G S b a := fun a b ha h => by
    induction h with
    | refl => exact .refl
    | @step b c h1 h2 h3 h4 h5 ih => exact (Rch.step .refl h3 h2 (by rw [hG]; exact h4) (h1.free ha)).trans ih
  -- each open node is reached from the first node of its component
  have lead : ∀ n a, a ≤ n → a < N → S a = false → ∃ u, u ≤ a ∧ Lead N G S u ∧ Rch N G S u a := by
    intro n
    induction n with
    | zero =>
      intro a h0 hN ha
      obtain rfl : a = 0 := by omega
      exact ⟨0, Nat.le_refl _, ⟨ha, fun u hu => absurd hu (Nat.not_lt_zero _)⟩, .refl⟩
    | succ n ih =>
      intro a h0 hN ha
      by_cases h : ∃ u, u < a ∧ S u = false ∧ Rch N G S u a
      · obtain ⟨u, hu, hsu, hr⟩ := h
        obtain ⟨v, hv, hl, hr2⟩ := ih u (by omega) (by omega) hsu
        exact ⟨v, by omega, hl, hr2.trans hr⟩
      · exact ⟨a, Nat.le_refl _, ⟨ha, fun u hu hsu hr => h ⟨u, hu, hsu, hr⟩⟩, .refl⟩
  constructor
  · intro h1 a b ha hb hsa hsb
    obtain ⟨u, hu, hlu, hru⟩ := lead a a (Nat.le_refl _) ha hsa
    obtain ⟨v, hv, hlv, hrv⟩ := lead b b (Nat.le_refl _) hb hsb
    have e : u = v := by
      rcases Nat.lt_trichotomy u v with h | h | h
      · have := cnt_twoW (I := leadB N G S) h (show v < N by omega) (leadB_iff.2 hlu) (leadB_iff.2 hlv)
        unfold partsF at h1; omega
      · exact h
      · have := cnt_twoW (I := leadB N G S) h (show u < N by omega) (leadB_iff.2 hlv) (leadB_iff.2 hlu)
        unfold partsF at h1; omega
    subst e
    exact (symm u a hlu.1 hru).trans hrv
  · intro h
    obtain ⟨u, hu, hlu, hru⟩ := lead x x (Nat.le_refl _) hx hs
    refine cnt_oneW (x := u) (by omega) (leadB_iff.2 hlu) fun v hv hi => ?_
    have hlv := leadB_iff.1 hi
    rcases Nat.lt_trichotomy u v with h2 | h2 | h2
    · exact absurd (h u v (by omega) hv hlu.1 hlv.1) (hlv.2 u h2 hlu.1)
    · exact h2.symm
    · exact absurd (h v u hv (by omega) hlv.1 hlu.1) (hlu.2 v h2 hlv.1)

end Go.Proofs.Ytnhhohhhpaejmaa
namespace Go.Proofs.Ytnhhohhhpaejmaa
open Go Go.RowKit

/-- The nodes of a set, below n. -/
def selL (n s : Nat) : List Nat := (List.range n).filter fun v => s.testBit v
theorem mem_selL {n s v : Nat} : v ∈ selL n s ↔ v < n ∧ s.testBit v = true := by unfold selL; rw [List.mem_filter, List.mem_range]
theorem selL_nodup (n s : Nat) : (selL n s).Nodup := List.nodup_range.sublist List.filter_sublist
theorem selL_succ (n s : Nat) : selL (n + 1) s = if s.testBit n = true then selL n s ++ [n] else selL n s := by
  unfold selL
  rw [List.range_succ, List.filter_append]
  cases h : s.testBit n <;> simp [h]
theorem selL_len (n s : Nat) : (selL n s).length ≤ n := by
  have := List.length_filter_le (fun v => s.testBit v) (List.range n)
  rwa [List.length_range] at this
/-- What is shut: all outside of a set. -/
def outS (N s : Nat) (v : Nat) : Bool := decide (v < N) && !s.testBit v
/-- Such a set. -/
def HoleS (N : Nat) (G : Nat → Nat → Bool) (s : Nat) : Prop := 4 ≤ (selL N s).length ∧ (∀ x ∈ selL N s, ((selL N s).filter (G x)).length = 2) ∧ partsF N G (outS N s) = 1
theorem mask_ex (f : Nat → Bool) : ∀ N, ∃ s, s < 2 ^ N ∧ ∀ v, s.testBit v = (decide (v < N) && f v)
  | 0 => ⟨0, by simp, fun v => by simp⟩
  | N + 1 => by
    obtain ⟨s, hs, h⟩ := mask_ex f N
    cases e : f N
    · refine ⟨s, Nat.lt_of_lt_of_le hs (Nat.pow_le_pow_right (by omega) (by omega)), fun v => ?_⟩
      rw [h]
      by_cases e2 : v = N
      · subst e2; simp [e]
      · have : (v < N) = (v < N + 1) := by simp; omega
        simp only [this]
    · have hb : ∀ v, (lor s (pow2 N)).testBit v = (decide (v < N + 1) && f v) := fun v => by
        rw [lor_bit, pow2_bit, h]
        by_cases e2 : N = v
        · subst e2; simp [e]
        · have : (v < N) = (v < N + 1) := by simp; omega
          simp only [this, decide_eq_false e2, Bool.or_false]
      refine ⟨lor s (pow2 N), few_of_bit fun i hi => ?_, hb⟩
      rw [hb] at hi
      simp at hi
      exact hi.1
theorem len_two {l : List Nat} (hn : l.Nodup) {a b : Nat} (hne : a ≠ b) (h : ∀ x, x ∈ l ↔ x = a ∨ x = b) : l.length = 2 := by
  have h1 := List.Nodup.length_le_of_subset (l₂ := [a, b]) hn fun x hx => by simpa using (h x).1 hx
  have h2 := List.Nodup.length_le_of_subset (l₁ := [a, b]) (l₂ := l) (by simp [hne]) fun x hx => (h x).2 (by simpa using hx)
  simp at h1 h2
  omega
section
variable {N : Nat} {G : Nat → Nat → Bool}
theorem HolR.nodup {m : List Nat} (h : HolR N G m) : m.Nodup := by
  rw [List.nodup_iff_pairwise_ne, List.pairwise_iff_getElem]
  intro i j hi hj hij e
  have := h.nd j i hj hij
  simp only [List.getD, List.getElem?_eq_getElem hi, List.getElem?_eq_getElem hj, Option.getD_some] at this
  exact this e.symm
theorem getD_memI {m : List Nat} {i : Nat} (h : i < m.length) : m.getD i 0 ∈ m := by rw [List.getD, List.getElem?_eq_getElem h]; exact List.getElem_mem _
theorem mem_getDI {m : List Nat} {x : Nat} (h : x ∈ m) : ∃ i, i < m.length ∧ m.getD i 0 = x := by
  obtain ⟨i, hi, e⟩ := List.mem_iff_getElem.1 h
  exact ⟨i, hi, by rw [List.getD, List.getElem?_eq_getElem hi]; exact e⟩
theorem HolR.next {m : List Nat} (h : HolR N G m) {i : Nat} (hi : i + 1 < m.length) : G (m.getD i 0) (m.getD (i + 1) 0) = true := by
  have := h.on i (by omega)
  rwa [Nat.mod_eq_of_lt hi] at this
theorem HolR.wrap {m : List Nat} (h : HolR N G m) : G (m.getD (m.length - 1) 0) (m.getD 0 0) = true := by
  have := h.on (m.length - 1) (by have := h.ge; omega)
  rwa [show m.length - 1 + 1 = m.length by have := h.ge; omega, Nat.mod_self] at this
/-- Who is near whom on the ring. -/
theorem HolR.near {m : List Nat} (hsym : ∀ i j, G i j = G j i) (hirr : ∀ i, i < N → G i i = false) (h : HolR N G m) {i j : Nat} (hi : i < m.length) (hj : j < m.length) :
    G (m.getD i 0) (m.getD j 0) = true ↔ (j = i + 1 ∨ i = j + 1 ∨ (i + 1 = m.length ∧ j = 0) ∨ (j + 1 = m.length ∧ i = 0)) := by
  have hge := h.ge
  constructor
  · intro hg
    refine Classical.byContradiction fun hn => ?_
    rcases Nat.lt_trichotomy i j with h1 | h1 | h1
    · have := h.no j i hj h1 (by omega) (by omega)
      rw [hsym, this] at hg; cases hg
    · subst h1
      rw [hirr _ (h.lt i hi)] at hg; cases hg
    · have := h.no i j hi h1 (by omega) (by omega)
      rw [this] at hg; cases hg
  · rintro (h1 | h1 | ⟨h1, h2⟩ | ⟨h1, h2⟩)
    · subst h1; exact h.next hj
    · subst h1; rw [hsym]; exact h.next hi
    · subst h2
      have := h.wrap
      rwa [show m.length - 1 = i by omega] at this
    · subst h2
      have := h.wrap
      rw [show m.length - 1 = j by omega] at this
      rw [hsym]; exact this
theorem HolR.inj {m : List Nat} (h : HolR N G m) {i j : Nat} (hi : i < m.length) (hj : j < m.length) (e : m.getD i 0 = m.getD j 0) : i = j := by
  rcases Nat.lt_trichotomy i j with h1 | h1 | h1
  · exact absurd e.symm (h.nd j i hj h1)
  · exact h1
  · exact absurd e (h.nd i j hi h1)
theorem hole_mask (hsym : ∀ i j, G i j = G j i) (hirr : ∀ i, i < N → G i i = false) {m : List Nat} (h : HolR N G m) : ∃ s, s < 2 ^ N ∧ HoleS N G s := by
  obtain ⟨s, hs, hb⟩ := mask_ex (fun v => decide (v ∈ m)) N
  have hge := h.ge
  have hm : ∀ x, x ∈ selL N s ↔ x ∈ m := fun x => by
    rw [mem_selL, hb]
    constructor
    · intro hx; simpa [hx.1] using hx.2
    · intro hx
      obtain ⟨i, hi, rfl⟩ := mem_getDI hx
      exact ⟨h.lt i hi, by rw [decide_eq_true (h.lt i hi), decide_eq_true hx]; rfl⟩
  refine ⟨s, hs, ?_, fun x hx => ?_, ?_⟩
  · have := List.Nodup.length_le_of_subset (l₂ := selL N s) h.nodup fun x hx => (hm x).2 hx
    omega
  · obtain ⟨i, hi, rfl⟩ := mem_getDI ((hm x).1 hx)
    have hnd : ((selL N s).filter (G (m.getD i 0))).Nodup := (selL_nodup N s).sublist List.filter_sublist
    have key : ∀ a b, a < m.length → b < m.length → a ≠ b → (∀ j, j < m.length → (G (m.getD i 0) (m.getD j 0) = true ↔ j = a ∨ j = b)) → ((selL N s).filter (G (m.getD i 0))).length = 2 := by
      intro a b ha hb' hab hk
      refine len_two hnd (a := m.getD a 0) (b := m.getD b 0) (fun e => hab (h.inj ha hb' e)) fun x => ?_
      rw [List.mem_filter, hm]
      constructor
      · rintro ⟨h1, h2⟩
        obtain ⟨j, hj, rfl⟩ := mem_getDI h1
        rcases (hk j hj).1 h2 with rfl | rfl
        · exact .inl rfl
        · exact .inr rfl
      · rintro (rfl | rfl)
        · exact ⟨getD_memI ha, (hk a ha).2 (.inl rfl)⟩
        · exact ⟨getD_memI hb', (hk b hb').2 (.inr rfl)⟩
    rcases Nat.eq_zero_or_pos i with e | e
    · subst e
      exact key 1 (m.length - 1) (by omega) (by omega) (by omega) fun j hj => by
        rw [h.near hsym hirr hi hj]; omega
    · rcases Nat.lt_or_ge (i + 1) m.length with e2 | e2
      · exact key (i + 1) (i - 1) (by omega) (by omega) (by omega) fun j hj => by
          rw [h.near hsym hirr hi hj]; omega
      · exact key 0 (i - 1) (by omega) (by omega) (by omega) fun j hj => by
          rw [h.near hsym hirr hi hj]; omega
  · have hout : ∀ i, i < m.length → outS N s (m.getD i 0) = false := fun i hi => by
      unfold outS
      rw [(mem_selL.1 ((hm _).2 (getD_memI hi))).2]
      simp
    have hrun : ∀ i, i < m.length → Rch N G (outS N s) (m.getD 0 0) (m.getD i 0) := by
      intro i
      induction i with
      | zero => intro _; exact .refl
      | succ i ih => intro hi; exact .step (ih (by omega)) (h.lt i (by omega)) (h.lt (i + 1) hi) (h.next hi) (hout (i + 1) hi)
    refine (parts_oneW hsym ⟨m.getD 0 0, h.lt 0 (by omega), hout 0 (by omega)⟩).2 fun a b ha hb' sa sb => ?_
    have inm : ∀ a, a < N → outS N s a = false → a ∈ m := fun a ha sa => by
      refine (hm a).1 (mem_selL.2 ⟨ha, ?_⟩)
      unfold outS at sa
      simpa [ha] using sa
    obtain ⟨i, hi, rfl⟩ := mem_getDI (inm a ha sa)
    obtain ⟨j, hj, rfl⟩ := mem_getDI (inm b hb' sb)
    exact ((hrun i hi).back (fun i j _ _ => hsym i j) (hout 0 (by omega))).trans (hrun j hj)
end
end Go.Proofs.Ytnhhohhhpaejmaa
