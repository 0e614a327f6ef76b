/- Graphs and faults in variables. -/
import Derived.Test.YtbnbhjeknocboaaKept
namespace Go.Proofs.Ytbnbhjeknocboaa
open Go.RowKit

/-- Edges in a block of one's own from B on, below T. -/
def EdgesIn (w : World) (B T : Nat) (v : Value) (l : List (Int × Int)) : Prop := OwnE w B v l ∧ ∀ g, v.ownBlock = some g → g < T
theorem OwnE.inside {w : World} {B : Nat} {v : Value} {l : List (Int × Int)} (h : OwnE w B v l) : EdgesIn w B w.heap.size v l := ⟨h, fun g e => (World.ownsRow.lt h g e).2⟩
theorem EdgesIn.below {w w' : World} {B T : Nat} {v : Value} {l : List (Int × Int)} (h : EdgesIn w B T v l) (hb : Below w.heap.size w w') : EdgesIn w' B T v l := ⟨h.1.below hb, h.2⟩
theorem EdgesIn.set {w : World} {B T : Nat} {v : Value} {l : List (Int × Int)} (h : EdgesIn w B T v l) {X : Nat} (hX : X < B ∨ T ≤ X) (k : Nat) (x : Value) : EdgesIn (w.setCell ⟨X, k, none⟩ x) B T v l := by
  have h0 : w.ownsRow B 44 2 v l.length (cells2 l) := h.1
  refine ⟨h0.kept (grown_set w X k x) ?_, h.2⟩
  cases hv : v.ownBlock with
  | none => exact Or.inl rfl
  | some g =>
    have h1 := (h0.lt g hv).1
    have h2 := h.2 g hv
    exact Or.inr (fun e => by cases e; omega)

theorem EdgesIn.edges {w : World} {B T : Nat} {v : Value} {l : List (Int × Int)} (h : EdgesIn w B T v l) : IsEdges w v l := h.1.edges

/-- A graph's variable. -/
structure VarG (w : World) (b : Nat) (n : Int) (v : Value) (l : List (Int × Int)) : Prop where
  c0 : w.cell? ⟨b, 0, none⟩ = some (.int .i64 n)
  c1 : w.cell? ⟨b, 1, none⟩ = some v
  he : IsEdges w v l
theorem VarG.below {w w' : World} {b : Nat} {n : Int} {v : Value} {l : List (Int × Int)} (h : VarG w b n v l) (hb : Below w.heap.size w w') : VarG w' b n v l := ⟨below_cell hb h.c0, below_cell hb h.c1, h.he.below hb⟩
theorem VarG.lt {w : World} {b : Nat} {n : Int} {v : Value} {l : List (Int × Int)} (h : VarG w b n v l) : b < w.heap.size := World.block_lt_of_cell? _ _ h.c0
/-- A fault's variable. -/
structure VarF (w : World) (b : Nat) (c a : Int) : Prop where
  c0 : w.cell? ⟨b, 0, none⟩ = some (.int .i64 c)
  c1 : w.cell? ⟨b, 1, none⟩ = some (.int .i64 a)
theorem VarF.below {w w' : World} {b : Nat} {c a : Int} (h : VarF w b c a) (hb : Below w.heap.size w w') : VarF w' b c a := ⟨below_cell hb h.c0, below_cell hb h.c1⟩
theorem VarF.lt {w : World} {b : Nat} {c a : Int} (h : VarF w b c a) : b < w.heap.size := World.block_lt_of_cell? _ _ h.c0
theorem VarG.new {w : World} {n : Int} {v : Value} {l : List (Int × Int)} (T : TypeId) (he : IsEdges w v l) : VarG (w.alloc (Obj.cells #[.int .i64 n, v] T)) w.heap.size n v l :=
  ⟨(two_cells w _ _ T).1, (two_cells w _ _ T).2, he.below (below1 _ _)⟩
theorem VarF.new (w : World) (c a : Int) (T : TypeId) : VarF (w.alloc (Obj.cells #[.int .i64 c, .int .i64 a] T)) w.heap.size c a := ⟨(two_cells w _ _ T).1, (two_cells w _ _ T).2⟩

/-- A graph and a fault lie in two variables that may be written. -/
def ZCut (wb : World) (Z U : Nat) (n : Int) (l : List (Int × Int)) (c d : Int) (wx : World) : Prop :=
  ∃ a q, wx.rowIs Z 24 2 (fun i => if i = 0 then .int .i64 n else .slice a l.length q) ∧ IsEdges wx (.slice a l.length q) l ∧ wx.rowIs U 28 2 (fun i => if i = 0 then .int .i64 c else .int .i64 d) ∧ Below wb.heap.size wb wx

theorem ZCut.put {wb w : World} {Z U : Nat} {f g : Nat → Value} {n : Int} {l : List (Int × Int)} {c d : Int} {v : Value} {B : Nat} (hz : w.rowIs Z 24 2 f) (hu : w.rowIs U 28 2 g) (hne : Z ≠ U) (ho : OwnE w B v l) (hZ : Z < B) (hU : U < B)
    (hb : Below wb.heap.size wb w) (hZb : wb.heap.size ≤ Z) (hUb : wb.heap.size ≤ U) :
    ZCut wb Z U n l c d ((((w.setCell ⟨Z, 0, none⟩ (.int .i64 n)).setCell ⟨Z, 1, none⟩ v).setCell ⟨U, 0, none⟩ (.int .i64 c)).setCell ⟨U, 1, none⟩ (.int .i64 d)) := by
  obtain ⟨a, q, rfl⟩ := ho.form
  refine ⟨a, q, ?_, ((((ho.set hZ 0 _).set hZ 1 _).set hU 0 _).set hU 1 _).edges, ?_, (((hb.setCell hZb _).setCell hZb _).setCell hUb _).setCell hUb _⟩
  · refine ((((hz.set 0 _).set 1 _).setOther (a := ⟨U, 0, none⟩) hne _).setOther (a := ⟨U, 1, none⟩) hne _).congr fun i hi => ?_
    match i, hi with
    | 0, _ => rfl
    | 1, _ => rfl
  · refine ((((hu.setOther (a := ⟨Z, 0, none⟩) (Ne.symm hne) _).setOther (a := ⟨Z, 1, none⟩) (Ne.symm hne) _).set 0 _).set 1 _).congr fun i hi => ?_
    match i, hi with
    | 0, _ => rfl
    | 1, _ => rfl

theorem EdgesIn.set2 {w : World} {B T : Nat} {v : Value} {l : List (Int × Int)} (h : EdgesIn w B T v l) {X : Nat} (hX : X < B ∨ T ≤ X) (x y : Value) : EdgesIn ((w.setCell ⟨X, 0, none⟩ x).setCell ⟨X, 1, none⟩ y) B T v l := (h.set hX 0 x).set hX 1 y
theorem below_set2 {w0 w : World} (h : Below w0.heap.size w0 w) {X : Nat} (hX : w0.heap.size ≤ X) (x y : Value) : Below w0.heap.size w0 ((w.setCell ⟨X, 0, none⟩ x).setCell ⟨X, 1, none⟩ y) := (h.setCell hX _).setCell hX _

/-- Two blocks of two cells, both written. -/
theorem four_cells {w : World} {X Y : Nat} {x y z u : Value} (h0 : (w.cell? ⟨X, 0, none⟩).isSome = true) (h1 : (w.cell? ⟨X, 1, none⟩).isSome = true) (k0 : (w.cell? ⟨Y, 0, none⟩).isSome = true) (k1 : (w.cell? ⟨Y, 1, none⟩).isSome = true) (hne : X ≠ Y) :
    ((((w.setCell ⟨X, 0, none⟩ x).setCell ⟨X, 1, none⟩ y).setCell ⟨Y, 0, none⟩ z).setCell ⟨Y, 1, none⟩ u).cell? ⟨X, 0, none⟩ = some x ∧
    ((((w.setCell ⟨X, 0, none⟩ x).setCell ⟨X, 1, none⟩ y).setCell ⟨Y, 0, none⟩ z).setCell ⟨Y, 1, none⟩ u).cell? ⟨X, 1, none⟩ = some y ∧
    ((((w.setCell ⟨X, 0, none⟩ x).setCell ⟨X, 1, none⟩ y).setCell ⟨Y, 0, none⟩ z).setCell ⟨Y, 1, none⟩ u).cell? ⟨Y, 0, none⟩ = some z ∧
    ((((w.setCell ⟨X, 0, none⟩ x).setCell ⟨X, 1, none⟩ y).setCell ⟨Y, 0, none⟩ z).setCell ⟨Y, 1, none⟩ u).cell? ⟨Y, 1, none⟩ = some u := by
  have d01 : ∀ b : Nat, (⟨b, 1, none⟩ : Addr) ≠ ⟨b, 0, none⟩ := fun b e => by simp at e
  have d10 : ∀ b : Nat, (⟨b, 0, none⟩ : Addr) ≠ ⟨b, 1, none⟩ := fun b e => by simp at e
  refine ⟨?_, ?_, ?_, ?_⟩
  · rw [World.cell?_setCell_far _ _ _ _ (Ne.symm hne), World.cell?_setCell_far _ _ _ _ (Ne.symm hne), World.cell?_setCell_other _ _ _ _ (d01 X)]
    exact World.cell?_setCell_same' _ _ _ h0
  · rw [World.cell?_setCell_far _ _ _ _ (Ne.symm hne), World.cell?_setCell_far _ _ _ _ (Ne.symm hne)]
    exact World.cell?_setCell_same' _ _ _ (by rw [World.cell?_setCell_other _ _ _ _ (d10 X)]; exact h1)
  · rw [World.cell?_setCell_other _ _ _ _ (d01 Y)]
    exact World.cell?_setCell_same' _ _ _ (by rw [World.cell?_setCell_far _ _ _ _ hne, World.cell?_setCell_far _ _ _ _ hne]; exact k0)
  · exact World.cell?_setCell_same' _ _ _ (by rw [World.cell?_setCell_other _ _ _ _ (d10 Y), World.cell?_setCell_far _ _ _ _ hne, World.cell?_setCell_far _ _ _ _ hne]; exact k1)

theorem VarF.pair {w w' : World} {c a : Int} {T : TypeId} (hb : Below (w.alloc (Obj.cells #[.int .i64 c, .int .i64 a] T)).heap.size (w.alloc (Obj.cells #[.int .i64 c, .int .i64 a] T)) w') :
    w'.rowIs w.heap.size T 2 (fun i => if i = 0 then .int .i64 c else .int .i64 a) := (two_row w _ _ T).of_block (hb.block _ (by rw [World.size_alloc]; omega))

end Go.Proofs.Ytbnbhjeknocboaa
