/- graph.Table: the table of a graph. -/
import Derived.Test.YtnhhohhhpaejmaaGOwn
import Derived.Test.YtnhhohhhpaejmaaOpen
import Derived.Deep.RegionHeld3
namespace Go.Proofs.Ytnhhohhhpaejmaa
open Go.RowKit

theorem infoG : (Try.prog.info? 39).map (fun i => (i.zero, i.size, i.bytes)) = some (some (.slice none 0 0), 1, 24) := by kernel_rfl

/-- Near each other. -/
def adj (l : List (Int × Int)) (i j : Nat) : Bool := hasE l (i : Int) (j : Int)

theorem hasE_snoc (l : List (Int × Int)) (e : Int × Int) (a b : Int) : hasE (l ++ [e]) a b = (hasE l a b || decide (Meets e a b)) := by
  unfold hasE; rw [List.any_append]; simp
theorem take_snoc {l : List (Int × Int)} {k : Nat} {x y : Int} (hk : k < l.length) (he : l.getD k (0, 0) = (x, y)) : l.take (k + 1) = l.take k ++ [(x, y)] := by
  rw [List.take_succ_eq_append_getElem hk]
  have : l[k] = (x, y) := by rw [← he]; simp [List.getD, hk]
  rw [this]
theorem adj_succ {l : List (Int × Int)} {k X Y : Nat} (hk : k < l.length) (he : l.getD k (0, 0) = ((X : Int), (Y : Int))) (i j : Nat) :
    (if i = Y ∧ j = X then true else if i = X ∧ j = Y then true else adj (l.take k) i j) = adj (l.take (k + 1)) i j := by
  unfold adj
  rw [take_snoc hk he, hasE_snoc]
  by_cases h1 : i = Y ∧ j = X
  · have : Meets ((X : Int), (Y : Int)) i j := by unfold Meets; simp only; omega
    simp [h1, this]
    obtain ⟨rfl, rfl⟩ := h1
    exact Or.inr this
  · by_cases h2 : i = X ∧ j = Y
    · have : Meets ((X : Int), (Y : Int)) i j := by unfold Meets; simp only; omega
      rw [if_neg h1, if_pos h2]; simp [this]
    · have : ¬ Meets ((X : Int), (Y : Int)) i j := by unfold Meets; simp only; omega
      rw [if_neg h1, if_neg h2]; simp [this]

/-- k rows are made. -/
structure TMade (w wr : World) (n : Int) (s : Value) (N k : Nat) : Prop where
  hb : Below w.heap.size w wr
  cn : wr.cell? ⟨w.heap.size, 0, none⟩ = some (.int .i64 n)
  cs : wr.cell? ⟨w.heap.size, 1, none⟩ = some s
  size : wr.heap.size = w.heap.size + 2 + k
  head : wr.rowIs (w.heap.size + 1) 39 N (fun i => if i < k then .slice (some ⟨w.heap.size + 2 + i, 0, none⟩) N N else .slice none 0 0)
  row : ∀ i, i < k → wr.rowIs (w.heap.size + 2 + i) 4 N (rb fun _ => false)

theorem TMade.start (w : World) (n : Int) (s : Value) (N : Nat) : TMade w ((w.alloc (Obj.cells #[.int .i64 n, s] 24)).alloc (.cells (madeCells #[.slice none 0 0] N) 39)) n s N 0 := by
  have c0 := two_cells w (.int .i64 n) s 24
  have h1 := World.rowIs_made (w.alloc (Obj.cells #[.int .i64 n, s] 24)) (.slice none 0 0) N 39
  rw [World.size_alloc] at h1
  exact ⟨below2 _ _ _, below_cell (below1 _ _) c0.1, below_cell (below1 _ _) c0.2, by rw [World.size_alloc, World.size_alloc], h1.congr fun i _ => by simp, fun i hi => absurd hi (Nat.not_lt_zero _)⟩

theorem TMade.step {w wr : World} {n : Int} {s : Value} {N k : Nat} (h : TMade w wr n s N k) :
    TMade w ((wr.alloc (.cells (madeCells #[.bool false] N) 4)).setCell ⟨w.heap.size + 1, k, none⟩ (.slice (some ⟨wr.heap.size, 0, none⟩) N N)) n s N (k + 1) := by
  have hsz := h.size
  have hb1 := below1 wr (.cells (madeCells #[.bool false] N) 4)
  have hr := World.rowIs_made wr (.bool false) N 4
  refine ⟨(h.hb.alloc h.hb.size _).setCell (by simp) _, ?_, ?_, ?_, ?_, fun i hi => ?_⟩
  · rw [World.cell?_setCell_far _ _ _ _ (show w.heap.size + 1 ≠ w.heap.size by omega)]; exact below_cell hb1 h.cn
  · rw [World.cell?_setCell_far _ _ _ _ (show w.heap.size + 1 ≠ w.heap.size by omega)]; exact below_cell hb1 h.cs
  · rw [size_setCell, World.size_alloc, hsz]; omega
  · refine ((h.head.of_block (hb1.block _ (by omega))).set k _).congr fun i _ => ?_
    by_cases e : i = k
    · subst e; rw [if_pos rfl, if_pos (by omega), hsz]
    · rw [if_neg e]
      by_cases e2 : i < k
      · rw [if_pos e2, if_pos (by omega)]
      · rw [if_neg e2, if_neg (by omega)]
  · by_cases e : i = k
    · subst e
      have := hr.setOther (a := ⟨w.heap.size + 1, i, none⟩) (show wr.heap.size ≠ w.heap.size + 1 by omega) (.slice (some ⟨wr.heap.size, 0, none⟩) N N)
      rw [hsz] at this ⊢
      exact this
    · have := ((h.row i (by omega)).of_block (hb1.block _ (by omega))).setOther (a := ⟨w.heap.size + 1, k, none⟩) (show w.heap.size + 2 + i ≠ w.heap.size + 1 by omega) (.slice (some ⟨wr.heap.size, 0, none⟩) N N)
      exact this

theorem TMade.grid {w wr : World} {n : Int} {s : Value} {N : Nat} (h : TMade w wr n s N N) : Grid wr w.heap.size (w.heap.size + 1) 0 N (fun i => w.heap.size + 2 + i) (adj []) :=
  ⟨fun i _ => by omega, fun i j _ _ e => by omega, fun i hi => by have := h.head.cell hi; rw [Nat.zero_add, this, if_pos hi], fun i hi => row_rb (h.row i hi) fun _ _ => rfl, fun i _ => by omega⟩

/-- The table under way. -/
structure TState (w wr : World) (n : Int) (s : Value) (b N : Nat) (R : Nat → Nat) (G : Nat → Nat → Bool) : Prop where
  hb : Below w.heap.size w wr
  cn : wr.cell? ⟨w.heap.size, 0, none⟩ = some (.int .i64 n)
  cs : wr.cell? ⟨w.heap.size, 1, none⟩ = some s
  grid : Grid wr w.heap.size b 0 N R G
  up : ∀ i, i < N → w.heap.size < R i

theorem TState.below {w wr w' : World} {n : Int} {s : Value} {b N : Nat} {R : Nat → Nat} {G : Nat → Nat → Bool} (h : TState w wr n s b N R G) (hb : Below wr.heap.size wr w') : TState w w' n s b N R G :=
  ⟨h.hb.trans (hb.mono h.hb.size), below_cell hb h.cn, below_cell hb h.cs, h.grid.below hb, h.up⟩
theorem TState.set {w wr : World} {n : Int} {s : Value} {b N : Nat} {R : Nat → Nat} {G : Nat → Nat → Bool} (h : TState w wr n s b N R G) {x : Nat} (hx : x < N) (y : Nat) :
    TState w (wr.setCell ⟨R x, y, none⟩ (.bool true)) n s b N R (fun i j => if i = x ∧ j = y then true else G i j) := by
  have := h.up x hx
  refine ⟨h.hb.setCell (show w.heap.size ≤ R x by omega) _, ?_, ?_, h.grid.set hx y true, h.up⟩
  · rw [World.cell?_setCell_far _ _ _ _ (show R x ≠ w.heap.size by omega)]; exact h.cn
  · rw [World.cell?_setCell_far _ _ _ _ (show R x ≠ w.heap.size by omega)]; exact h.cs

/-- A table comes back. -/
def GridPost (N : Nat) (G : Nat → Nat → Bool) (w : World) (e : Ending) (w' : World) : Prop := ∃ v, e = .returned v ∧ IsGrid w' w.heap.size v N G ∧ Below w.heap.size w w'

end Go.Proofs.Ytnhhohhhpaejmaa
