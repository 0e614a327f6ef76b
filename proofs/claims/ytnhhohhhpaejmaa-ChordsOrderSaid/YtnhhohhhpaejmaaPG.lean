/- Sets of nodes as numbers: the nodes that a node sees. Neighbours both ways. No walk. Masks under way in a variable of its own; a variable that holds a function. -/
import Derived.Test.YtnhhohhhpaejmaaGridOf
import Derived.Test.YtnhhohhhpaejmaaPA
import Derived.Test.YtnhhohhhpaejmaaGCheck
namespace Go.Proofs.Ytnhhohhhpaejmaa
open Go.RowKit

/-- The bits below n that r tells. -/
def maskOf (r : Nat → Bool) : Nat → Nat
  | 0 => 0
  | n + 1 => lor (maskOf r n) (if r n then pow2 n else 0)
theorem maskOf_bit (r : Nat → Bool) : ∀ n i, (maskOf r n).testBit i = (decide (i < n) && r i)
  | 0, i => by simp [maskOf]
  | n + 1, i => by
    rw [maskOf, lor_bit, maskOf_bit r n i]
    by_cases h : r n = true
    · rw [if_pos h, pow2_bit]
      by_cases e : n = i
      · subst e; simp [h]
      · have : (i < n + 1) ↔ i < n := by omega
        simp [e, this]
    · have h' : r n = false := by simpa using h
      rw [if_neg h]
      by_cases e : n = i
      · subst e; simp [h']
      · have : (i < n + 1) ↔ i < n := by omega
        simp [this]
theorem maskOf_few (r : Nat → Bool) {n : Nat} (h : n ≤ 62) : Few (maskOf r n) := by
  rw [Few, few_two]
  refine few_of_bit fun i hi => ?_
  rw [maskOf_bit] at hi
  simp at hi
  omega

/-- What is near node i. -/
def near (l : List (Int × Int)) (N i : Nat) : Nat := maskOf (adj l i) N

theorem near_nil (N i : Nat) : near [] N i = 0 := by
  refine Nat.eq_of_testBit_eq fun j => ?_
  unfold near
  rw [maskOf_bit]
  simp [adj, hasE]

theorem near_succ {l : List (Int × Int)} {k X Y N : Nat} (hk : k < l.length) (he : l.getD k (0, 0) = ((X : Int), (Y : Int))) (hX : X < N) (hY : Y < N) (hXY : X ≠ Y) (i : Nat) :
    (if i = Y then lor (near (l.take k) N Y) (pow2 X) else if i = X then lor (near (l.take k) N X) (pow2 Y) else near (l.take k) N i) = near (l.take (k + 1)) N i := by
  refine Nat.eq_of_testBit_eq fun j => ?_
  unfold near
  rw [maskOf_bit, ← adj_succ hk he]
  by_cases h1 : i = Y
  · subst h1
    rw [if_pos rfl, lor_bit, maskOf_bit, pow2_bit]
    by_cases e : j = X
    · subst e; simp [hX]
    · have e' : ¬ X = j := fun h => e h.symm
      simp [e, e', Ne.symm hXY]
  · rw [if_neg h1]
    by_cases h2 : i = X
    · subst h2
      rw [if_pos rfl, lor_bit, maskOf_bit, pow2_bit]
      by_cases e : j = Y
      · subst e; simp [hY, h1]
      · have e' : ¬ Y = j := fun h => e h.symm
        simp [e, e', h1]
    · rw [if_neg h2, maskOf_bit]
      simp [h1, h2]

/-- The masks under way. -/
structure MState (w wr : World) (s : Value) (b N : Nat) (M : Nat → Nat) : Prop where
  hb : Below w.heap.size w wr
  up : w.heap.size < b
  cs : wr.cell? ⟨w.heap.size, 1, none⟩ = some s
  row : wr.rowIs b 3 N (rn M)
theorem MState.below {w wr w' : World} {s : Value} {b N : Nat} {M : Nat → Nat} (h : MState w wr s b N M) (hb : Below wr.heap.size wr w') : MState w w' s b N M :=
  ⟨h.hb.trans (hb.mono h.hb.size), h.up, below_cell hb h.cs, h.row.of_block (hb.block _ h.row.lt)⟩
theorem MState.set {w wr : World} {s : Value} {b N : Nat} {M : Nat → Nat} (h : MState w wr s b N M) (x y : Nat) : MState w (wr.setCell ⟨b, x, none⟩ (.int .i64 (y : Int))) s b N (fun i => if i = x then y else M i) := by
  have := h.up
  refine ⟨h.hb.setCell (show w.heap.size ≤ b by omega) _, h.up, ?_, row_set_rn h.row x y⟩
  rw [World.cell?_setCell_far _ _ _ _ (show b ≠ w.heap.size by omega)]; exact h.cs
theorem MState.start (w : World) (n s : Value) (N : Nat) : MState w ((w.alloc (Obj.cells #[n, s] 24)).alloc (.cells (madeCells #[.int .i64 0] N) 3)) s (w.heap.size + 1) N (fun _ => 0) := by
  have c0 := two_cells w n s 24
  have h1 := World.rowIs_made (w.alloc (Obj.cells #[n, s] 24)) (.int .i64 0) N 3
  rw [World.size_alloc] at h1
  exact ⟨below2 _ _ _, by omega, below_cell (below1 _ _) c0.2, h1.congr fun i _ => rfl⟩

/-- The slice of n numbers that are told by a function, in a block of its own. -/
def NumsPost (N : Nat) (M : Nat → Nat) (w : World) (e : Ending) (w' : World) : Prop := ∃ b, e = .returned (.slice (some ⟨b, 0, none⟩) N N) ∧ w.heap.size ≤ b ∧ w'.rowIs b 3 N (rn M) ∧ Below w.heap.size w w'

end Go.Proofs.Ytnhhohhhpaejmaa
namespace Go.Proofs.Ytnhhohhhpaejmaa
open Go Go.RowKit

theorem adj_sy (l : List (Int × Int)) (i j : Nat) : adj l i j = adj l j i := by
  unfold adj hasE
  congr 1
  funext e
  simp only [decide_eq_decide]
  unfold Meets
  omega
theorem adj_self {l : List (Int × Int)} (h : ∀ j, j < l.length → (l.getD j (0, 0)).1 ≠ (l.getD j (0, 0)).2) (i : Nat) : adj l i i = false := by
  cases e : adj l i i with
  | false => rfl
  | true =>
    unfold adj hasE at e
    obtain ⟨x, hx, hm⟩ := List.any_eq_true.1 e
    obtain ⟨j, hj, rfl⟩ := List.getElem_of_mem hx
    have h1 := h j hj
    have h2 : l.getD j (0, 0) = l[j] := by simp [List.getD, hj]
    rw [h2] at h1
    have hm := of_decide_eq_true hm
    unfold Meets at hm
    omega

end Go.Proofs.Ytnhhohhhpaejmaa
namespace Go.Proofs.Ytnhhohhhpaejmaa
open Go Go.RowKit

/-- The masks under way, where their slice lies in a variable of its own. -/
structure MB (w0 wr : World) (R NN N : Nat) (M : Nat → Nat) : Prop where
  hb : Below w0.heap.size w0 wr
  up : w0.heap.size ≤ R
  ne : R < NN
  cs : wr.cell? ⟨NN, 0, none⟩ = some (.slice (some ⟨R, 0, none⟩) N N)
  row : wr.rowIs R 3 N (rn M)
theorem MB.below {w0 wr w' : World} {R NN N : Nat} {M : Nat → Nat} (h : MB w0 wr R NN N M) (hb : Below wr.heap.size wr w') : MB w0 w' R NN N M :=
  ⟨h.hb.trans (hb.mono h.hb.size), h.up, h.ne, below_cell hb h.cs, h.row.of_block (hb.block _ h.row.lt)⟩
theorem MB.set {w0 wr : World} {R NN N : Nat} {M : Nat → Nat} (h : MB w0 wr R NN N M) (x y : Nat) : MB w0 (wr.setCell ⟨R, x, none⟩ (.int .i64 (y : Int))) R NN N (fun i => if i = x then y else M i) := by
  have := h.up
  have := h.ne
  refine ⟨h.hb.setCell (show w0.heap.size ≤ R by omega) _, h.up, h.ne, ?_, row_set_rn h.row x y⟩
  rw [World.cell?_setCell_far _ _ _ _ (show R ≠ NN by omega)]; exact h.cs
theorem MB.start (w : World) (N : Nat) : MB w ((w.alloc (.cells (madeCells #[.int .i64 0] N) 3)).alloc (Obj.cells #[.slice (some ⟨w.heap.size, 0, none⟩) N N] 29)) w.heap.size (w.heap.size + 1) N (fun _ => 0) := by
  have h1 := World.rowIs_made w (.int .i64 0) N 3
  refine ⟨below2 _ _ _, Nat.le_refl _, by omega, ?_, (h1.of_block ((below1 _ _).block _ h1.lt)).congr fun i _ => rfl⟩
  rw [World.cell?_alloc_at _ _ _ _ (by simp)]; rfl

theorem run_store_fn {P : Program} (w : World) (a : Addr) (f : Fn) (ts cs : Array Value) : (store a (.func f ts cs) .plain).run P w = stored P w a (.func f ts cs) .plain := run_store P w a _ _ rfl

theorem GRes.chg {w wr w' : World} {A B K : Nat} {n : Int} {s : Value} (h : GRes w wr A B n s) (hc : Chg (· = K) wr w') (hK : B < K) (hw : w.heap.size ≤ K) : GRes w w' A B n s := by
  have hA := h.hA
  have hs := h.hb.size
  refine ⟨h.hb.trans (hc.toBelow hs fun k hk => ?_), hc.cell h.cn (show ¬ A = K by omega), hc.cell h.cs (show ¬ A = K by omega), hc.rowIs h.hz (show ¬ B = K by omega), h.hB, h.hA⟩
  show ¬ k = K
  omega

theorem IsInts.setOff {w : World} {v : Value} {l : List Int} {B k : Nat} {x : Value} (h : IsInts w v l) (hv : ∀ g, v.ownBlock = some g → B ≠ g) : IsInts (w.setCell ⟨B, k, none⟩ x) v l := by
  obtain ⟨a, cap, b, o, rfl, h1, h2, h3, h4, h5⟩ := h
  refine ⟨a, cap, b, o, rfl, h1, h2, h3, h4, fun j hj => ?_⟩
  obtain rfl := h3 (by omega)
  rw [World.cell?_setCell_far _ _ _ _ (hv b rfl)]
  exact h5 j hj

theorem graph_good {n : Int} {l : List (Int × Int)} {a : Int} (h : GraphSpec n l 0 a) : a = 0 ∧ 0 ≤ n ∧ n ≤ 100 ∧ l.length ≤ 1000 ∧ ∀ j, j < l.length → EndsOk n (l.getD j (0, 0)) ∧ (l.getD j (0, 0)).1 ≠ (l.getD j (0, 0)).2 := by
  rcases h with ⟨_, h, _⟩ | ⟨hb, ⟨_, _, _, hw, _⟩ | ⟨h, _, h2⟩⟩
  · cases h
  · exact absurd rfl hw.ne0
  · unfold TooBig at hb
    exact ⟨h2, by omega, by omega, by omega, fun j hj => ⟨(h j hj).1, (h j hj).2.1⟩⟩

end Go.Proofs.Ytnhhohhhpaejmaa
