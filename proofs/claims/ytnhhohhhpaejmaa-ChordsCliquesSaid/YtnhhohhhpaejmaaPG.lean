/- Sets of nodes as numbers: the nodes that a node sees. Neighbours both ways. No walk. Masks under way in a variable of its own; a variable that holds a function. All greatest cliques by all sets of nodes, put in order one by one: plain. No program in sight. Memory of arborref.Cliques: a row is moved within the list. -/
import Derived.Test.YtnhhohhhpaejmaaGridOf
import Derived.Test.YtnhhohhhpaejmaaPA
import Derived.Test.YtnhhohhhpaejmaaGCheck
import Derived.Test.YtnhhohhhpaejmaaPD
import Derived.Test.YtnhhohhhpaejmaaPE
import Derived.Laws.OwnMore
namespace Go.Proofs.Ytnhhohhhpaejmaa
open Go.RowKit

/-- The bits below n that r tells. -/
def maskOf (r : Nat → Bool) : Nat → Nat
  | 0 => 0
  | n + 1 => lor (maskOf r n) (if r n then pow2 n else 0)
theorem maskOf_bit (r : Nat → Bool) : ∀ n i, (maskOf r n).testBit i = (decide (i < n) && r i)
  | 0, i => by simp [maskOf]
  | n + 1, i => by
    rw [maskOf, lor_bit, maskOf_bit r n i]
    by_cases h : r n = true
    · rw [if_pos h, pow2_bit]
      by_cases e : n = i
      · subst e; simp [h]
      · have : (i < n + 1) ↔ i < n := by omega
        simp [e, this]
    · have h' : r n = false := by simpa using h
      rw [if_neg h]
      by_cases e : n = i
      · subst e; simp [h']
      · have : (i < n + 1) ↔ i < n := by omega
        simp [this]
theorem maskOf_few (r : Nat → Bool) {n : Nat} (h : n ≤ 62) : Few (maskOf r n) := by
  rw [Few, few_two]
  refine few_of_bit fun i hi => ?_
  rw [maskOf_bit] at hi
  simp at hi
  omega

/-- What is near node i. -/
def near (l : List (Int × Int)) (N i : Nat) : Nat := maskOf (adj l i) N

theorem near_nil (N i : Nat) : near [] N i = 0 := by
  refine Nat.eq_of_testBit_eq fun j => ?_
  unfold near
  rw [maskOf_bit]
  simp [adj, hasE]

theorem near_succ {l : List (Int × Int)} {k X Y N : Nat} (hk : k < l.length) (he : l.getD k (0, 0) = ((X : Int), (Y : Int))) (hX : X < N) (hY : Y < N) (hXY : X ≠ Y) (i : Nat) :
    (if i = Y then lor (near (l.take k) N Y) (pow2 X) else if i = X then lor (near (l.take k) N X) (pow2 Y) else near (l.take k) N i) = near (l.take (k + 1)) N i := by
  refine Nat.eq_of_testBit_eq fun j => ?_
  unfold near
  rw [maskOf_bit, ← adj_succ hk he]
  by_cases h1 : i = Y
  · subst h1
    rw [if_pos rfl, lor_bit, maskOf_bit, pow2_bit]
    by_cases e : j = X
    · subst e; simp [hX]
    · have e' : ¬ X = j := fun h => e h.symm
      simp [e, e', Ne.symm hXY]
  · rw [if_neg h1]
    by_cases h2 : i = X
    · subst h2
      rw [if_pos rfl, lor_bit, maskOf_bit, pow2_bit]
      by_cases e : j = Y
      · subst e; simp [hY, h1]
      · have e' : ¬ Y = j := fun h => e h.symm
        simp [e, e', h1]
    · rw [if_neg h2, maskOf_bit]
      simp [h1, h2]

/-- The masks under way. -/
structure MState (w wr : World) (s : Value) (b N : Nat) (M : Nat → Nat) : Prop where
  hb : Below w.heap.size w wr
  up : w.heap.size < b
  cs : wr.cell? ⟨w.heap.size, 1, none⟩ = some s
  row : wr.rowIs b 3 N (rn M)
theorem MState.below {w wr w' : World} {s : Value} {b N : Nat} {M : Nat → Nat} (h : MState w wr s b N M) (hb : Below wr.heap.size wr w') : MState w w' s b N M :=
  ⟨h.hb.trans (hb.mono h.hb.size), h.up, below_cell hb h.cs, h.row.of_block (hb.block _ h.row.lt)⟩
theorem MState.set {w wr : World} {s : Value} {b N : Nat} {M : Nat → Nat} (h : MState w wr s b N M) (x y : Nat) : MState w (wr.setCell ⟨b, x, none⟩ (.int .i64 (y : Int))) s b N (fun i => if i = x then y else M i) := by
  have := h.up
  refine ⟨h.hb.setCell (show w.heap.size ≤ b by omega) _, h.up, ?_, row_set_rn h.row x y⟩
  rw [World.cell?_setCell_far _ _ _ _ (show b ≠ w.heap.size by omega)]; exact h.cs
theorem MState.start (w : World) (n s : Value) (N : Nat) : MState w ((w.alloc (Obj.cells #[n, s] 24)).alloc (.cells (madeCells #[.int .i64 0] N) 3)) s (w.heap.size + 1) N (fun _ => 0) := by
  have c0 := two_cells w n s 24
  have h1 := World.rowIs_made (w.alloc (Obj.cells #[n, s] 24)) (.int .i64 0) N 3
  rw [World.size_alloc] at h1
  exact ⟨below2 _ _ _, by omega, below_cell (below1 _ _) c0.2, h1.congr fun i _ => rfl⟩

/-- The slice of n numbers that are told by a function, in a block of its own. -/
def NumsPost (N : Nat) (M : Nat → Nat) (w : World) (e : Ending) (w' : World) : Prop := ∃ b, e = .returned (.slice (some ⟨b, 0, none⟩) N N) ∧ w.heap.size ≤ b ∧ w'.rowIs b 3 N (rn M) ∧ Below w.heap.size w w'

end Go.Proofs.Ytnhhohhhpaejmaa
namespace Go.Proofs.Ytnhhohhhpaejmaa
open Go Go.RowKit

theorem adj_sy (l : List (Int × Int)) (i j : Nat) : adj l i j = adj l j i := by
  unfold adj hasE
  congr 1
  funext e
  simp only [decide_eq_decide]
  unfold Meets
  omega
theorem adj_self {l : List (Int × Int)} (h : ∀ j, j < l.length → (l.getD j (0, 0)).1 ≠ (l.getD j (0, 0)).2) (i : Nat) : adj l i i = false := by
  cases e : adj l i i with
  | false => rfl
  | true =>
    unfold adj hasE at e
    obtain ⟨x, hx, hm⟩ := List.any_eq_true.1 e
    obtain ⟨j, hj, rfl⟩ := List.getElem_of_mem hx
    have h1 := h j hj
    have h2 : l.getD j (0, 0) = l[j] := by simp [List.getD, hj]
    rw [h2] at h1
    have hm := of_decide_eq_true hm
    unfold Meets at hm
    omega

end Go.Proofs.Ytnhhohhhpaejmaa
namespace Go.Proofs.Ytnhhohhhpaejmaa
open Go Go.RowKit

/-- The masks under way, where their slice lies in a variable of its own. -/
structure MB (w0 wr : World) (R NN N : Nat) (M : Nat → Nat) : Prop where
  hb : Below w0.heap.size w0 wr
  up : w0.heap.size ≤ R
  ne : R < NN
  cs : wr.cell? ⟨NN, 0, none⟩ = some (.slice (some ⟨R, 0, none⟩) N N)
  row : wr.rowIs R 3 N (rn M)
theorem MB.below {w0 wr w' : World} {R NN N : Nat} {M : Nat → Nat} (h : MB w0 wr R NN N M) (hb : Below wr.heap.size wr w') : MB w0 w' R NN N M :=
  ⟨h.hb.trans (hb.mono h.hb.size), h.up, h.ne, below_cell hb h.cs, h.row.of_block (hb.block _ h.row.lt)⟩
theorem MB.set {w0 wr : World} {R NN N : Nat} {M : Nat → Nat} (h : MB w0 wr R NN N M) (x y : Nat) : MB w0 (wr.setCell ⟨R, x, none⟩ (.int .i64 (y : Int))) R NN N (fun i => if i = x then y else M i) := by
  have := h.up
  have := h.ne
  refine ⟨h.hb.setCell (show w0.heap.size ≤ R by omega) _, h.up, h.ne, ?_, row_set_rn h.row x y⟩
  rw [World.cell?_setCell_far _ _ _ _ (show R ≠ NN by omega)]; exact h.cs
theorem MB.start (w : World) (N : Nat) : MB w ((w.alloc (.cells (madeCells #[.int .i64 0] N) 3)).alloc (Obj.cells #[.slice (some ⟨w.heap.size, 0, none⟩) N N] 29)) w.heap.size (w.heap.size + 1) N (fun _ => 0) := by
  have h1 := World.rowIs_made w (.int .i64 0) N 3
  refine ⟨below2 _ _ _, Nat.le_refl _, by omega, ?_, (h1.of_block ((below1 _ _).block _ h1.lt)).congr fun i _ => rfl⟩
  rw [World.cell?_alloc_at _ _ _ _ (by simp)]; rfl

theorem run_store_fn {P : Program} (w : World) (a : Addr) (f : Fn) (ts cs : Array Value) : (store a (.func f ts cs) .plain).run P w = stored P w a (.func f ts cs) .plain := run_store P w a _ _ rfl

theorem GRes.chg {w wr w' : World} {A B K : Nat} {n : Int} {s : Value} (h : GRes w wr A B n s) (hc : Chg (· = K) wr w') (hK : B < K) (hw : w.heap.size ≤ K) : GRes w w' A B n s := by
  have hA := h.hA
  have hs := h.hb.size
  refine ⟨h.hb.trans (hc.toBelow hs fun k hk => ?_), hc.cell h.cn (show ¬ A = K by omega), hc.cell h.cs (show ¬ A = K by omega), hc.rowIs h.hz (show ¬ B = K by omega), h.hB, h.hA⟩
  show ¬ k = K
  omega

theorem IsInts.setOff {w : World} {v : Value} {l : List Int} {B k : Nat} {x : Value} (h : IsInts w v l) (hv : ∀ g, v.ownBlock = some g → B ≠ g) : IsInts (w.setCell ⟨B, k, none⟩ x) v l := by
  obtain ⟨a, cap, b, o, rfl, h1, h2, h3, h4, h5⟩ := h
  refine ⟨a, cap, b, o, rfl, h1, h2, h3, h4, fun j hj => ?_⟩
  obtain rfl := h3 (by omega)
  rw [World.cell?_setCell_far _ _ _ _ (hv b rfl)]
  exact h5 j hj

theorem graph_good {n : Int} {l : List (Int × Int)} {a : Int} (h : GraphSpec n l 0 a) : a = 0 ∧ 0 ≤ n ∧ n ≤ 100 ∧ l.length ≤ 1000 ∧ ∀ j, j < l.length → EndsOk n (l.getD j (0, 0)) ∧ (l.getD j (0, 0)).1 ≠ (l.getD j (0, 0)).2 := by
  rcases h with ⟨_, h, _⟩ | ⟨hb, ⟨_, _, _, hw, _⟩ | ⟨h, _, h2⟩⟩
  · cases h
  · exact absurd rfl hw.ne0
  · unfold TooBig at hb
    exact ⟨h2, by omega, by omega, by omega, fun j hj => ⟨(h j hj).1, (h j hj).2.1⟩⟩

end Go.Proofs.Ytnhhohhhpaejmaa
namespace Go.Proofs.Ytnhhohhhpaejmaa
open Go Go.RowKit

/-- The nodes of a set. -/
def setL (N s : Nat) : List Nat := (List.range N).filter fun v => s.testBit v
theorem setL_mem {N s v : Nat} : v ∈ setL N s ↔ v < N ∧ s.testBit v = true := by unfold setL; rw [List.mem_filter, List.mem_range]
theorem setL_asc (N s : Nat) : (setL N s).Pairwise (· < ·) := List.Pairwise.filter _ List.pairwise_lt_range
theorem setL_succ (k s : Nat) : setL (k + 1) s = setL k s ++ if s.testBit k then [k] else [] := by
  unfold setL
  rw [List.range_succ, List.filter_append]
  cases h : s.testBit k <;> simp [h]
theorem setL_len (N s : Nat) : (setL N s).length ≤ N := Nat.le_trans (List.length_filter_le _ _) (by rw [List.length_range]; exact Nat.le_refl _)
/-- Any two of them are near. -/
def ClqS (N : Nat) (G : Nat → Nat → Bool) (s : Nat) : Prop := ∀ v w, v < N → w < v → s.testBit v = true → s.testBit w = true → G v w = true
section
variable {N : Nat} {G : Nat → Nat → Bool} {s : Nat}
theorem set_ext {t : Nat} (hs : s < 2 ^ N) (ht : t < 2 ^ N) (h : setL N s = setL N t) : s = t := by
  refine Nat.eq_of_testBit_eq fun i => ?_
  by_cases hi : i < N
  · have h1 : (i ∈ setL N s) ↔ (i ∈ setL N t) := by rw [h]
    rw [setL_mem, setL_mem] at h1
    cases e1 : s.testBit i <;> cases e2 : t.testBit i <;> simp_all
  · have e1 : s.testBit i = false := Nat.testBit_lt_two_pow (Nat.lt_of_lt_of_le hs (Nat.pow_le_pow_right (by decide) (by omega)))
    have e2 : t.testBit i = false := Nat.testBit_lt_two_pow (Nat.lt_of_lt_of_le ht (Nat.pow_le_pow_right (by decide) (by omega)))
    rw [e1, e2]
theorem set_of {K : List Nat} (ha : K.Pairwise (· < ·)) (hl : ∀ v ∈ K, v < N) : ∃ s, s < 2 ^ N ∧ setL N s = K := by
  refine ⟨maskOf (fun v => decide (v ∈ K)) N, few_of_bit fun i hi => ?_, ?_⟩
  · rw [maskOf_bit] at hi
    simp at hi; exact hi.1
  · refine asc_ext (setL_asc _ _) ha fun x => ?_
    rw [setL_mem, maskOf_bit, Bool.and_eq_true, decide_eq_true_eq, decide_eq_true_eq]
    exact ⟨fun ⟨_, _, h3⟩ => h3, fun h => ⟨hl x h, hl x h, h⟩⟩
theorem max_iff (hsym : ∀ i j, i < N → j < N → G i j = G j i) : MaxCl N G (setL N s) ↔ ClqS N G s ∧ ∀ v, v < N → s.testBit v = true ∨ ¬ ClqS N G (lor s (pow2 v)) := by
  constructor
  · intro h
    refine ⟨fun v w hv hw b1 b2 => h.clq v (setL_mem.2 ⟨hv, b1⟩) w (setL_mem.2 ⟨by omega, b2⟩) (by omega), fun v hv => ?_⟩
    cases hb : s.testBit v with
    | true => exact .inl rfl
    | false =>
      refine .inr fun hc => ?_
      obtain ⟨x, hx, hg⟩ := h.top v hv (fun e => by rw [setL_mem, hb] at e; cases e.2)
      rw [setL_mem] at hx
      have hxv : x ≠ v := fun e => by rw [e, hb] at hx; cases hx.2
      have b1 : (lor s (pow2 v)).testBit v = true := by rw [lor_bit, pow2_bit]; simp
      have b2 : (lor s (pow2 v)).testBit x = true := by rw [lor_bit, hx.2]; rfl
      rcases Nat.lt_or_gt_of_ne hxv with e | e
      · rw [hc v x hv e b1 b2] at hg; cases hg
      · have := hc x v hx.1 e b2 b1
        rw [hsym _ _ hx.1 hv, hg] at this; cases this
  · rintro ⟨hc, ht⟩
    refine ⟨setL_asc _ _, fun v hv => (setL_mem.1 hv).1, fun u hu v hv hne => ?_, fun u hu hn => ?_⟩
    · rw [setL_mem] at hu hv
      rcases Nat.lt_or_gt_of_ne hne with e | e
      · rw [hsym _ _ hu.1 hv.1]; exact hc v u hv.1 e hv.2 hu.2
      · exact hc u v hu.1 e hu.2 hv.2
    · have hb : s.testBit u = false := by
        cases e : s.testBit u with
        | false => rfl
        | true => exact absurd (setL_mem.2 ⟨hu, e⟩) hn
      rcases ht u hu with h | h
      · rw [hb] at h; cases h
      · by_cases hex : ∃ x, x ∈ setL N s ∧ G u x = false
        · obtain ⟨x, h1, h2⟩ := hex
          exact ⟨x, h1, h2⟩
        · exfalso
          have hall : ∀ x, x < N → s.testBit x = true → G u x = true := fun x hx hb2 => by
            cases e : G u x with
            | true => rfl
            | false => exact absurd ⟨x, setL_mem.2 ⟨hx, hb2⟩, e⟩ hex
          refine h fun v w hv hw b1 b2 => ?_
          rw [lor_bit, pow2_bit, Bool.or_eq_true, decide_eq_true_eq] at b1 b2
          rcases b1 with b1 | b1 <;> rcases b2 with b2 | b2
          · exact hc v w hv hw b1 b2
          · subst b2; rw [hsym _ _ hv (by omega)]; exact hall v hv b1
          · subst b1; exact hall w (by omega) b2
          · omega

/-- What has come out when the sets below s0 are through. -/
structure RcI (N : Nat) (G : Nat → Nat → Bool) (s0 : Nat) (X : List (List Nat)) : Prop where
  asc : X.Pairwise LstLt
  iff : ∀ K, K ∈ X ↔ ∃ s, 0 < s ∧ s < s0 ∧ MaxCl N G (setL N s) ∧ K = setL N s
theorem RcI.start : RcI N G 1 [] := ⟨List.Pairwise.nil, fun K => ⟨fun h => by (cases h), fun ⟨s, h1, h2, _⟩ => by omega⟩⟩
theorem RcI.skip {s0 : Nat} {X : List (List Nat)} (h : RcI N G s0 X) (hn : ¬ MaxCl N G (setL N s0)) : RcI N G (s0 + 1) X :=
  ⟨h.asc, fun K => (h.iff K).trans ⟨fun ⟨s, h1, h2, h3⟩ => ⟨s, h1, by omega, h3⟩, fun ⟨s, h1, h2, h3, h4⟩ => ⟨s, h1, by
    rcases Nat.lt_or_ge s s0 with e | e
    · exact e
    · exfalso
      have : s = s0 := by omega
      subst this; exact hn h3, h3, h4⟩⟩⟩
theorem ins_asc {X : List (List Nat)} {x : List Nat} {k : Nat} (hk : k ≤ X.length) (h : X.Pairwise LstLt) (hx : x ∉ X) (h1 : ∀ z ∈ X.drop k, LstLt x z) (h2 : 0 < k → ¬ LstLt x (X.getD (k - 1) [])) : (X.take k ++ x :: X.drop k).Pairwise LstLt := by
  rw [List.pairwise_append, List.pairwise_cons]
  have h0 := h
  rw [← List.take_append_drop k X, List.pairwise_append] at h0
  obtain ⟨a1, a2, a3⟩ := h0
  have hlt : ∀ a ∈ X.take k, LstLt a x := fun a ha => by
    obtain ⟨i, hi, rfl⟩ := List.mem_iff_getElem.1 ha
    rw [List.length_take] at hi
    have hk0 : 0 < k := by omega
    have hl : X.getD (k - 1) [] = X[k - 1] := by rw [List.getD, List.getElem?_eq_getElem (by omega)]; rfl
    have h3 := h2 hk0
    rw [hl] at h3
    have h4 : LstLt X[k - 1] x := by
      rcases LstLt.tri x X[k - 1] with e | e | e
      · exact absurd e h3
      · exact absurd (e ▸ List.getElem_mem _) hx
      · exact e
    rw [List.getElem_take]
    by_cases e : i = k - 1
    · subst e; exact h4
    · exact LstLt.tr _ _ _ ((List.pairwise_iff_getElem.1 h) i (k - 1) (by omega) (by omega) (by omega)) h4
  refine ⟨a1, ⟨h1, a2⟩, fun a ha b hb => ?_⟩
  rcases List.mem_cons.1 hb with rfl | hb
  · exact hlt a ha
  · exact a3 a ha b hb
theorem RcI.put {s0 k : Nat} {X : List (List Nat)} (h : RcI N G s0 X) (hs0 : 0 < s0) (hs : s0 < 2 ^ N) (hm : MaxCl N G (setL N s0)) (hk : k ≤ X.length) (h1 : ∀ z ∈ X.drop k, LstLt (setL N s0) z) (h2 : 0 < k → ¬ LstLt (setL N s0) (X.getD (k - 1) [])) : RcI N G (s0 + 1) (X.take k ++ setL N s0 :: X.drop k) := by
  have hn : setL N s0 ∉ X := fun e => by
    obtain ⟨s, q1, q2, -, q4⟩ := (h.iff _).1 e
    have := set_ext hs (by omega) q4
    omega
  refine ⟨ins_asc hk h.asc hn h1 h2, fun K => ?_⟩
  have e : K ∈ X.take k ++ setL N s0 :: X.drop k ↔ K ∈ X ∨ K = setL N s0 := by
    rw [List.mem_append, List.mem_cons]
    have : K ∈ X ↔ K ∈ X.take k ∨ K ∈ X.drop k := by rw [← List.mem_append, List.take_append_drop]
    rw [this]
    constructor
    · rintro (a | a | a)
      · exact .inl (.inl a)
      · exact .inr a
      · exact .inl (.inr a)
    · rintro ((a | a) | a)
      · exact .inl a
      · exact .inr (.inr a)
      · exact .inr (.inl a)
  rw [e, h.iff]
  constructor
  · rintro (⟨s, q1, q2, q3, q4⟩ | rfl)
    · exact ⟨s, q1, by omega, q3, q4⟩
    · exact ⟨s0, hs0, by omega, hm, rfl⟩
  · rintro ⟨s, q1, q2, q3, q4⟩
    by_cases e2 : s = s0
    · subst e2; exact .inr q4
    · exact .inl ⟨s, q1, by omega, q3, q4⟩
theorem RcI.done {X : List (List Nat)} (h : RcI N G (2 ^ N) X) : X.Pairwise LstLt ∧ ∀ K, K ∈ X ↔ MaxCl N G K ∧ K ≠ [] := by
  have h0 : setL N 0 = [] := by unfold setL; simp
  refine ⟨h.asc, fun K => (h.iff K).trans ⟨?_, ?_⟩⟩
  · rintro ⟨s, h1, h2, h3, rfl⟩
    refine ⟨h3, fun e => ?_⟩
    have := set_ext h2 (Nat.two_pow_pos N) (e.trans h0.symm)
    omega
  · rintro ⟨h1, h2⟩
    obtain ⟨s, hs, rfl⟩ := set_of h1.asc h1.lt
    refine ⟨s, ?_, hs, h1, rfl⟩
    rcases Nat.eq_zero_or_pos s with e | e
    · subst e; exact absurd h0 h2
    · exact e
/-- How many there are. -/
theorem RcI.len {s0 : Nat} {X : List (List Nat)} (h : RcI N G s0 X) (hs : s0 ≤ 2 ^ N) : X.length ≤ s0 := by
  have hX : X.Nodup := h.asc.imp fun {a b} hab e => by subst e; exact LstLt.irr _ hab
  have hsub : ∀ K ∈ X, K ∈ (List.range s0).map (setL N) := fun K hK => by
    obtain ⟨s, -, h2, -, rfl⟩ := (h.iff K).1 hK
    exact List.mem_map.2 ⟨s, List.mem_range.2 h2, rfl⟩
  have : X.length ≤ ((List.range s0).map (setL N)).length := by
    clear h hs
    generalize (List.range s0).map (setL N) = Y at *
    induction X generalizing Y with
    | nil => exact Nat.zero_le _
    | cons a X ih =>
      have ha := hsub a (by simp)
      have hX2 := List.nodup_cons.1 hX
      have := ih (Y := Y.erase a) hX2.2 (fun K hK => (List.mem_erase_of_ne (fun e => hX2.1 (by rw [← e]; exact hK))).2 (hsub K (by simp [hK])))
      rw [List.length_erase_of_mem ha] at this
      have hp : 0 < Y.length := List.length_pos_of_mem ha
      rw [List.length_cons]; omega
  simpa using this
end
end Go.Proofs.Ytnhhohhhpaejmaa
namespace Go.Proofs.Ytnhhohhhpaejmaa
open Go.RowKit Go.Maps

theorem IRow.at' {w : World} {B g n cap k : Nat} {m : List (List Int)} (h : IRow w B (.slice (some ⟨g, 0, none⟩) n cap) m) (hk : k < m.length) :
    ∃ a c, w.cell? ⟨g, k, none⟩ = some (.slice a (m.getD k []).length c) ∧ w.frozen? ⟨g, k, none⟩ = false ∧ w.ownsRow B 3 1 (.slice a (m.getD k []).length c) (m.getD k []).length (ivals (m.getD k [])) := by
  obtain ⟨vals, h1, h2⟩ := h
  obtain ⟨r, e, ho⟩ := h2 k hk
  obtain ⟨a, c, rfl⟩ := ownsRow_form ho
  have hc := h1.cells (g := g) rfl _ _ e
  rw [Addr.add_lit, Nat.zero_add] at hc
  refine ⟨a, c, hc, ?_, ho⟩
  rcases h1.2 with ⟨h3, -⟩ | ⟨g', cap', cur, h3, -, hgg, -⟩
  · simp at h3
  · simp only [Value.slice.injEq, Option.some.injEq, Addr.mk.injEq] at h3
    obtain ⟨⟨rfl, -⟩, -⟩ := h3
    simp [World.frozen?, hgg]
theorem IRow.put {w : World} {B g n cap k : Nat} {m : List (List Int)} {r : Value} {x : List Int} (h : IRow w B (.slice (some ⟨g, 0, none⟩) n cap) m) (hk : k < m.length) (hr : w.ownsRow B 3 1 r x.length (ivals x)) :
    IRow (w.setCell ⟨g, k, none⟩ r) B (.slice (some ⟨g, 0, none⟩) n cap) (m.set k x) := by
  obtain ⟨vals, h1, h2⟩ := h
  have hn : n = m.length := by
    obtain ⟨a, c, e⟩ := ownsRow_form h1
    simp only [Value.slice.injEq] at e
    exact e.2.1
  subst hn
  have hlv : vals.length = m.length := by have := h1.1; omega
  have ty := ownsRow_type h1 g rfl
  obtain ⟨cc, fz, ty⟩ := ty
  have hst := World.ownsRow.stored h1 k r
  have keep : ∀ {q : Value} {y : List Int}, w.ownsRow B 3 1 q y.length (ivals y) → (w.setCell ⟨g, k, none⟩ r).ownsRow B 3 1 q y.length (ivals y) := fun {q y} ho => ownsRow_typed ho (grown_set w g k r) fun g' e => by
    obtain rfl := Option.some.inj e
    exact ⟨cc, _, fz, ty, by decide⟩
  refine ⟨vals.set k r, ?_, fun j hj => ?_⟩
  · rw [List.length_set]
    exact hst.1
  · rw [List.length_set] at hj
    by_cases e : j = k
    · subst e
      refine ⟨r, by rw [List.getElem?_set_self (by omega)], ?_⟩
      have e2 : (m.set j x).getD j [] = x := by rw [List.getD, List.getElem?_set_self hk]; rfl
      rw [e2]; exact keep hr
    · obtain ⟨q, e3, ho⟩ := h2 j hj
      refine ⟨q, by rw [List.getElem?_set_ne (Ne.symm e)]; exact e3, ?_⟩
      have e2 : (m.set k x).getD j [] = m.getD j [] := by rw [List.getD, List.getElem?_set_ne (Ne.symm e)]; rfl
      rw [e2]; exact keep ho

theorem ownsRow_some2 {w : World} {base : Nat} {e : TypeId} {v : Value} {n : Nat} {xs : List Value} (h : w.ownsRow base e 1 v (n + 1) xs) : ∃ g c, v = .slice (some ⟨g, 0, none⟩) (n + 1) c := by
  rcases h.2 with ⟨-, h0⟩ | ⟨g, cap, cur, rfl, -⟩
  · omega
  · exact ⟨g, cap, rfl⟩
/-- A list more; the new row stays one's own. -/
theorem IRow.app {w1 w2 : World} {B B2 : Nat} {v r v' : Value} {X : List (List Nat)} {x : List Nat} {vals : List Value} {o : Obj}
    (hown : w1.ownsRow B 29 1 v X.length vals) (hv : ∀ j, j < X.length → ∃ r, vals[j]? = some r ∧ w1.ownsRow B 3 1 r ((X.map ints).getD j []).length (ivals ((X.map ints).getD j [])))
    (hr : w1.ownsRow B2 3 1 r x.length (nvals x)) (hB : B ≤ B2) (h2 : w2.ownsRow B 29 1 v' (X.length + 1) (vals ++ [r])) (g2 : (w1.alloc o).grownBy w2 v.ownBlock) : IRow w2 B v' ((X ++ [x]).map ints) ∧ w2.ownsRow B 3 1 r (ints x).length (ivals (ints x)) := by
  have hl : (X.map ints).length = X.length := List.length_map _
  have hr' : w1.ownsRow B 3 1 r (ints x).length (ivals (ints x)) := by rw [ints_length]; exact ownsRow_low hr hB
  refine ⟨?_, ?_⟩
  · rw [List.map_append]
    exact IRow.more (m := X.map ints) (x := ints x) (o := o) (by rw [hl]; exact hown) (by rw [hl]; exact hv) hr' (by rw [hl]; exact h2) g2
  · refine ownsRow_typed (hr'.alloc o) g2 fun g hg => ?_
    obtain ⟨c, fz, hc⟩ := ownsRow_type (hown.alloc o) g hg
    exact ⟨c, _, fz, hc, show 29 ≠ 3 by decide⟩
theorem IRow.keepL {w : World} {B g n cap k m : Nat} {L : List (List Int)} {r q : Value} {y : List Int} (h : IRow w B (.slice (some ⟨g, 0, none⟩) n cap) L) (hq : w.ownsRow B 3 1 q m (ivals y)) : (w.setCell ⟨g, k, none⟩ r).ownsRow B 3 1 q m (ivals y) := by
  obtain ⟨vals, h1, -⟩ := h
  obtain ⟨cc, fz, ty⟩ := ownsRow_type h1 g rfl
  refine ownsRow_typed hq (grown_set w g k r) fun g' e => ?_
  obtain rfl := Option.some.inj e
  exact ⟨cc, _, fz, ty, by decide⟩
section
variable {X : List (List Nat)} {y x : List Nat} {k : Nat}
theorem ins_len (hk : k ≤ X.length) : (X.take k ++ y :: X.drop k).length = X.length + 1 := by
  rw [List.length_append, List.length_cons, List.length_take, List.length_drop]; omega
theorem ins_at (hk : k < X.length) : (X.take (k + 1) ++ y :: X.drop (k + 1)).getD k [] = X.getD k [] := by
  rw [List.getD, List.getElem?_append_left (by rw [List.length_take]; omega), List.getElem?_take, if_pos (by omega)]; rfl
theorem ins_set (hk : k ≤ X.length) : (X.take k ++ y :: X.drop k).set k x = X.take k ++ x :: X.drop k := by
  rw [List.set_append_right _ _ (by rw [List.length_take]; omega), List.length_take, show k - min k X.length = 0 by omega]; rfl
theorem ins_shift (hk : k < X.length) : (X.take (k + 1) ++ y :: X.drop (k + 1)).set (k + 1) (X.getD k []) = X.take k ++ X.getD k [] :: X.drop k := by
  rw [ins_set (by omega), List.take_add_one, List.getElem?_eq_getElem hk, List.append_assoc]
  have e : X.getD k [] = X[k] := by rw [List.getD, List.getElem?_eq_getElem hk]; rfl
  rw [e, List.drop_eq_getElem_cons hk]; rfl
theorem ins_start : X.take X.length ++ x :: X.drop X.length = X ++ [x] := by rw [List.take_length, List.drop_length]
end
end Go.Proofs.Ytnhhohhhpaejmaa
