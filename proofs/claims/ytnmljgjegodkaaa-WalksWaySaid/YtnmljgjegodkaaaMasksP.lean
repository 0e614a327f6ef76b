/- Sets of nodes as numbers: the nodes that a node sees. -/
import Derived.Test.YtnmljgjegodkaaaGridOf
import Derived.Test.YtnmljgjegodkaaaPA
namespace Go.Proofs.Ytnmljgjegodkaaa
open Go.RowKit

/-- The bits below n that r tells. -/
def maskOf (r : Nat → Bool) : Nat → Nat
  | 0 => 0
  | n + 1 => lor (maskOf r n) (if r n then pow2 n else 0)
theorem maskOf_bit (r : Nat → Bool) : ∀ n i, (maskOf r n).testBit i = (decide (i < n) && r i)
  | 0, i => by simp [maskOf]
  | n + 1, i => by
    rw [maskOf, lor_bit, maskOf_bit r n i]
    by_cases h : r n = true
    · rw [if_pos h, pow2_bit]
      by_cases e : n = i
      · subst e; simp [h]
      · have : (i < n + 1) ↔ i < n := by omega
        simp [e, this]
    · have h' : r n = false := by simpa using h
      rw [if_neg h]
      by_cases e : n = i
      · subst e; simp [h']
      · have : (i < n + 1) ↔ i < n := by omega
        simp [this]
theorem maskOf_few (r : Nat → Bool) {n : Nat} (h : n ≤ 62) : Few (maskOf r n) := by
  rw [Few, few_two]
  refine few_of_bit fun i hi => ?_
  rw [maskOf_bit] at hi
  simp at hi
  omega

/-- What is near node i. -/
def near (l : List (Int × Int)) (N i : Nat) : Nat := maskOf (adj l i) N

theorem near_nil (N i : Nat) : near [] N i = 0 := by
  refine Nat.eq_of_testBit_eq fun j => ?_
  unfold near
  rw [maskOf_bit]
  simp [adj, hasE]

theorem near_succ {l : List (Int × Int)} {k X Y N : Nat} (hk : k < l.length) (he : l.getD k (0, 0) = ((X : Int), (Y : Int))) (hX : X < N) (hY : Y < N) (hXY : X ≠ Y) (i : Nat) :
    (if i = Y then lor (near (l.take k) N Y) (pow2 X) else if i = X then lor (near (l.take k) N X) (pow2 Y) else near (l.take k) N i) = near (l.take (k + 1)) N i := by
  refine Nat.eq_of_testBit_eq fun j => ?_
  unfold near
  rw [maskOf_bit, ← adj_succ hk he]
  by_cases h1 : i = Y
  · subst h1
    rw [if_pos rfl, lor_bit, maskOf_bit, pow2_bit]
    by_cases e : j = X
    · subst e; simp [hX]
    · have e' : ¬ X = j := fun h => e h.symm
      simp [e, e', Ne.symm hXY]
  · rw [if_neg h1]
    by_cases h2 : i = X
    · subst h2
      rw [if_pos rfl, lor_bit, maskOf_bit, pow2_bit]
      by_cases e : j = Y
      · subst e; simp [hY, h1]
      · have e' : ¬ Y = j := fun h => e h.symm
        simp [e, e', h1]
    · rw [if_neg h2, maskOf_bit]
      simp [h1, h2]

/-- The masks under way. -/
structure MState (w wr : World) (s : Value) (b N : Nat) (M : Nat → Nat) : Prop where
  hb : Below w.heap.size w wr
  up : w.heap.size < b
  cs : wr.cell? ⟨w.heap.size, 1, none⟩ = some s
  row : wr.rowIs b 3 N (rn M)
theorem MState.below {w wr w' : World} {s : Value} {b N : Nat} {M : Nat → Nat} (h : MState w wr s b N M) (hb : Below wr.heap.size wr w') : MState w w' s b N M :=
  ⟨h.hb.trans (hb.mono h.hb.size), h.up, below_cell hb h.cs, h.row.of_block (hb.block _ h.row.lt)⟩
theorem MState.set {w wr : World} {s : Value} {b N : Nat} {M : Nat → Nat} (h : MState w wr s b N M) (x y : Nat) : MState w (wr.setCell ⟨b, x, none⟩ (.int .i64 (y : Int))) s b N (fun i => if i = x then y else M i) := by
  have := h.up
  refine ⟨h.hb.setCell (show w.heap.size ≤ b by omega) _, h.up, ?_, row_set_rn h.row x y⟩
  rw [World.cell?_setCell_far _ _ _ _ (show b ≠ w.heap.size by omega)]; exact h.cs
theorem MState.start (w : World) (n s : Value) (N : Nat) : MState w ((w.alloc (Obj.cells #[n, s] 24)).alloc (.cells (madeCells #[.int .i64 0] N) 3)) s (w.heap.size + 1) N (fun _ => 0) := by
  have c0 := two_cells w n s 24
  have h1 := World.rowIs_made (w.alloc (Obj.cells #[n, s] 24)) (.int .i64 0) N 3
  rw [World.size_alloc] at h1
  exact ⟨below2 _ _ _, by omega, below_cell (below1 _ _) c0.2, h1.congr fun i _ => rfl⟩

/-- The slice of n numbers that are told by a function, in a block of its own. -/
def NumsPost (N : Nat) (M : Nat → Nat) (w : World) (e : Ending) (w' : World) : Prop := ∃ b, e = .returned (.slice (some ⟨b, 0, none⟩) N N) ∧ w.heap.size ≤ b ∧ w'.rowIs b 3 N (rn M) ∧ Below w.heap.size w w'

end Go.Proofs.Ytnmljgjegodkaaa
