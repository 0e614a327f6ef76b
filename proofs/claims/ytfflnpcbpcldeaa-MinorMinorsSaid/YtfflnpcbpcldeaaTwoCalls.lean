/- A drawn region of two calls that make memory, and two new variables: what is kept. -/
import Derived.Test.YtfflnpcbpcldeaaBoth
namespace Go.Proofs.Ytfflnpcbpcldeaa
open Go.RowKit

/-- A table whose blocks lie from B on, and below T. -/
def GridIn (w : World) (B T : Nat) (v : Value) (n : Nat) (G : Nat → Nat → Bool) : Prop :=
  ∃ (a : Option Addr) (cap b o : Nat) (R : Nat → Nat), v = .slice a n cap ∧ n ≤ cap ∧ (0 < n → a = some ⟨b, o, none⟩ ∧ B ≤ b ∧ b < T) ∧ Grid w B b o n R G ∧ ∀ i, i < n → R i < T

theorem IsGrid.inside {w : World} {B : Nat} {v : Value} {n : Nat} {G : Nat → Nat → Bool} (h : IsGrid w B v n G) : GridIn w B w.heap.size v n G := by
  obtain ⟨a, c, b, o, R, h1, h2, h3, h4⟩ := h
  exact ⟨a, c, b, o, R, h1, h2, fun hp => ⟨(h3 hp).1, (h3 hp).2, World.block_lt_of_cell? _ _ (h4.head 0 hp)⟩, h4, fun i hi => (h4.row i hi).lt⟩
theorem GridIn.below {w w' : World} {B T : Nat} {v : Value} {n : Nat} {G : Nat → Nat → Bool} (h : GridIn w B T v n G) (hb : Below w.heap.size w w') : GridIn w' B T v n G := by
  obtain ⟨a, c, b, o, R, h1, h2, h3, h4, h5⟩ := h
  exact ⟨a, c, b, o, R, h1, h2, h3, h4.below hb, h5⟩
theorem GridIn.set {w : World} {B T : Nat} {v : Value} {n : Nat} {G : Nat → Nat → Bool} (h : GridIn w B T v n G) {X : Nat} (hX : X < B ∨ T ≤ X) (k : Nat) (x : Value) : GridIn (w.setCell ⟨X, k, none⟩ x) B T v n G := by
  obtain ⟨a, c, b, o, R, h1, h2, h3, h4, h5⟩ := h
  refine ⟨a, c, b, o, R, h1, h2, h3, ⟨h4.new, h4.inj, fun i hi => ?_, fun i hi => ?_, h4.off⟩, h5⟩
  · have := h3 (by omega)
    rw [World.cell?_setCell_far _ _ _ _ (show X ≠ b by omega)]
    exact h4.head i hi
  · have := h4.new i hi
    have := h5 i hi
    exact (h4.row i hi).setOther (show R i ≠ X by omega) x
theorem GridIn.has {w : World} {B T : Nat} {v : Value} {n : Nat} {G : Nat → Nat → Bool} (h : GridIn w B T v n G) : HasGrid w v n G := by
  obtain ⟨a, c, b, o, R, h1, h2, h3, h4, h5⟩ := h
  exact ⟨B, a, c, b, o, R, h1, h2, fun hp => ⟨(h3 hp).1, (h3 hp).2.1⟩, h4⟩

/-- The two graphs' own variables. -/
abbrev Own4 (A : Nat) (n : Int) (s : Value) (m : Int) (t : Value) (w : World) : Prop :=
  w.cell? ⟨A, 0, none⟩ = some (.int .i64 n) ∧ w.cell? ⟨A, 1, none⟩ = some s ∧ w.cell? ⟨A + 1, 0, none⟩ = some (.int .i64 m) ∧ w.cell? ⟨A + 1, 1, none⟩ = some t
theorem Own4.below {A : Nat} {n : Int} {s : Value} {m : Int} {t : Value} {w w' : World} (h : Own4 A n s m t w) (hb : Below w.heap.size w w') : Own4 A n s m t w' :=
  ⟨below_cell hb h.1, below_cell hb h.2.1, below_cell hb h.2.2.1, below_cell hb h.2.2.2⟩
theorem Own4.set {A X : Nat} {n : Int} {s : Value} {m : Int} {t : Value} {w : World} (h : Own4 A n s m t w) (hX : A + 1 < X) (x : Value) : Own4 A n s m t (w.setCell ⟨X, 0, none⟩ x) :=
  ⟨by rw [World.cell?_setCell_far _ _ _ _ (show X ≠ A by omega)]; exact h.1, by rw [World.cell?_setCell_far _ _ _ _ (show X ≠ A by omega)]; exact h.2.1, by rw [World.cell?_setCell_far _ _ _ _ (show X ≠ A + 1 by omega)]; exact h.2.2.1, by rw [World.cell?_setCell_far _ _ _ _ (show X ≠ A + 1 by omega)]; exact h.2.2.2⟩
theorem TwoSt.own4 {w wr : World} {n : Int} {s : Value} {l : List (Int × Int)} {m : Int} {t : Value} {k : List (Int × Int)} (h : TwoSt w wr n s l m t k) : Own4 w.heap.size n s m t wr := ⟨h.cn, h.cs, h.dm, h.dt⟩

/-- Two tables lie in two variables. -/
def TabCut (w : World) (N M : Nat) (S T : Nat → Nat → Bool) (s7 s8 : Value) (wx : World) : Prop :=
  ∃ X Y a1 c1 a2 c2, s7 = .pointer (some ⟨X, 0, none⟩) ∧ s8 = .pointer (some ⟨Y, 0, none⟩) ∧ wx.cell? ⟨X, 0, none⟩ = some (.slice a1 N c1) ∧ HasGrid wx (.slice a1 N c1) N S ∧
    wx.cell? ⟨Y, 0, none⟩ = some (.slice a2 M c2) ∧ HasGrid wx (.slice a2 M c2) M T ∧ Below w.heap.size w wx

theorem TabCut.mk {w wl : World} {N M X Y B1 T1 B2 T2 : Nat} {S T : Nat → Nat → Bool} {a1 a2 : Option Addr} {c1 c2 : Nat} {x y : Value} {E E' : TypeId} (hb : Below w.heap.size w wl)
    (hX : wl.heap[X]? = some (.cells #[x] E (0, 0))) (hY : wl.heap[Y]? = some (.cells #[y] E' (0, 0))) (hXY : X ≠ Y) (hX0 : w.heap.size ≤ X) (hY0 : w.heap.size ≤ Y)
    (g1 : GridIn wl B1 T1 (.slice a1 N c1) N S) (g2 : GridIn wl B2 T2 (.slice a2 M c2) M T) (x1 : X < B1 ∨ T1 ≤ X) (x2 : X < B2 ∨ T2 ≤ X) (y1 : Y < B1 ∨ T1 ≤ Y) (y2 : Y < B2 ∨ T2 ≤ Y) :
    TabCut w N M S T (.pointer (some ⟨X, 0, none⟩)) (.pointer (some ⟨Y, 0, none⟩)) ((wl.setCell ⟨X, 0, none⟩ (.slice a1 N c1)).setCell ⟨Y, 0, none⟩ (.slice a2 M c2)) := by
  refine ⟨X, Y, a1, c1, a2, c2, rfl, rfl, ?_, ((g1.set x1 0 _).set y1 0 _).has, ?_, ((g2.set x2 0 _).set y2 0 _).has, (hb.setCell hX0 _).setCell hY0 _⟩
  · rw [World.cell?_setCell_far _ _ _ _ (show Y ≠ X from Ne.symm hXY)]
    exact World.cell?_setCell_same _ _ _ (cell_of_one hX)
  · refine World.cell?_setCell_same (u := y) _ _ _ ?_
    rw [World.cell?_setCell_far _ _ _ _ (show X ≠ Y from hXY)]
    exact cell_of_one hY

theorem bcell {W w1 : World} (hb : Below W.heap.size W w1) : (∀ b o, b < W.heap.size → w1.cell? ⟨b, o, none⟩ = W.cell? ⟨b, o, none⟩) ∧ (∀ b o, b < W.heap.size → w1.frozen? ⟨b, o, none⟩ = W.frozen? ⟨b, o, none⟩) :=
  ⟨fun b o h => hb.cell (p := ⟨b, o, none⟩) h, fun b o h => hb.frozen (p := ⟨b, o, none⟩) h⟩

/-- .. and two results. -/
structure JSt (w wr : World) (n : Int) (s : Value) (l : List (Int × Int)) (m : Int) (t : Value) (k : List (Int × Int)) : Prop where
  ts : TwoSt w wr n s l m t k
  r0 : wr.rowIs (w.heap.size + 1 + 1) 24 2 (fun i => if i = 0 then .int .i64 0 else .slice none 0 0)
  r1 : wr.rowIs (w.heap.size + 1 + 1 + 1) 27 2 (fun i => if i = 0 then .int .i64 0 else .int .i64 0)
theorem JSt.start {w : World} {n : Int} {s : Value} {l : List (Int × Int)} {m : Int} {t : Value} {k : List (Int × Int)} (h : IsEdges w s l) (h' : IsEdges w t k) :
    JSt w ((((w.alloc (Obj.cells #[.int .i64 n, s] 24)).alloc (Obj.cells #[.int .i64 m, t] 24)).alloc (Obj.cells #[.int .i64 0, .slice none 0 0] 24)).alloc (Obj.cells #[.int .i64 0, .int .i64 0] 27)) n s l m t k := by
  have st := TwoSt.start (n := n) (m := m) h h'
  have h0 := two_row ((w.alloc (Obj.cells #[.int .i64 n, s] 24)).alloc (Obj.cells #[.int .i64 m, t] 24)) (.int .i64 0) (.slice none 0 0) 24
  have h1 := two_row (((w.alloc (Obj.cells #[.int .i64 n, s] 24)).alloc (Obj.cells #[.int .i64 m, t] 24)).alloc (Obj.cells #[.int .i64 0, .slice none 0 0] 24)) (.int .i64 0) (.int .i64 0) 27
  rw [World.size_alloc, World.size_alloc] at h0
  rw [World.size_alloc, World.size_alloc, World.size_alloc] at h1
  exact ⟨st.below (below2 _ _ _), h0.alloc _, h1⟩
theorem JSt.below {w wr w' : World} {n : Int} {s : Value} {l : List (Int × Int)} {m : Int} {t : Value} {k : List (Int × Int)} (h : JSt w wr n s l m t k) (hb : Below wr.heap.size wr w') : JSt w w' n s l m t k :=
  ⟨h.ts.below hb, h.r0.of_block (hb.block _ h.r0.lt), h.r1.of_block (hb.block _ h.r1.lt)⟩

end Go.Proofs.Ytfflnpcbpcldeaa
