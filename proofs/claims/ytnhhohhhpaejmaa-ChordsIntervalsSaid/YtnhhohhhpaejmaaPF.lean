/- A fault in a variable of its own. A small graph: what may be wrong. -/
import Derived.Test.YtnhhohhhpaejmaaRCheck
import Derived.Test.YtnhhohhhpaejmaaGCheck
import Derived.WalkArith
namespace Go.Proofs.Ytnhhohhhpaejmaa
open Go.RowKit

/-- A fault's variable. -/
structure FV (w : World) (b : Nat) (c a : Int) : Prop where
  r : w.rowIs b 27 2 (fun i => if i = 0 then .int .i64 c else .int .i64 a)
theorem FV.below {w w' : World} {b : Nat} {c a : Int} (h : FV w b c a) (hb : Below w.heap.size w w') : FV w' b c a := ⟨h.r.of_block (hb.block _ h.r.lt)⟩
theorem FV.facts {w : World} {b : Nat} {c a : Int} (h : FV w b c a) : w.cell? ⟨b, 0, none⟩ = some (.int .i64 c) ∧ w.cell? ⟨b, 1, none⟩ = some (.int .i64 a) ∧ w.frozen? ⟨b, 0, none⟩ = false ∧ w.frozen? ⟨b, 1, none⟩ = false ∧ b < w.heap.size :=
  ⟨by rw [h.r.cell (show 0 < 2 by omega)]; rfl, by rw [h.r.cell (show 1 < 2 by omega)]; rfl, h.r.frozen 0, h.r.frozen 1, h.r.lt⟩
theorem FV.new (w : World) (c a : Int) : FV (w.alloc (Obj.cells #[.int .i64 c, .int .i64 a] 27)) w.heap.size c a :=
  ⟨World.rowIs_alloc w #[.int .i64 c, .int .i64 a] 27 (fun i => if i = 0 then .int .i64 c else .int .i64 a) (fun i hi => by
    match i, hi with
    | 0, _ => rfl
    | 1, _ => rfl)⟩
theorem FV.put {w : World} {b : Nat} {c a : Int} (h : FV w b c a) (c' a' : Int) : FV ((w.setCell ⟨b, 0, none⟩ (.int .i64 c')).setCell ⟨b, 1, none⟩ (.int .i64 a')) b c' a' :=
  ⟨((h.r.set 0 (.int .i64 c')).set 1 (.int .i64 a')).congr fun i hi => by
    match i, hi with
    | 0, _ => rfl
    | 1, _ => rfl⟩

end Go.Proofs.Ytnhhohhhpaejmaa
namespace Go.Proofs.Ytnhhohhhpaejmaa
open Go.RowKit

/-- What is wrong with a graph that has to be small. -/
def SmallSpec (n : Int) (l : List (Int × Int)) (m : Int) (c a : Int) : Prop := (GraphSpec n l c a ∧ c ≠ 0) ∨ (GraphSpec n l 0 0 ∧ ((m < n ∧ c = 2 ∧ a = 0) ∨ (n ≤ m ∧ c = 0 ∧ a = 0)))
theorem SmallSpec.uniq {n : Int} {l : List (Int × Int)} {m c a c' a' : Int} (h : SmallSpec n l m c a) (h' : SmallSpec n l m c' a') : c = c' ∧ a = a' := by
  rcases h with ⟨h1, h2⟩ | ⟨h1, h2⟩ <;> rcases h' with ⟨h1', h2'⟩ | ⟨h1', h2'⟩
  · exact h1.uniq h1'
  · exact absurd (h1.uniq h1').1 h2
  · exact absurd (h1'.uniq h1).1 h2'
  · omega
theorem spec_zero {n : Int} {l : List (Int × Int)} {a : Int} (h : GraphSpec n l 0 a) : a = 0 := by
  rcases h with ⟨_, h, _⟩ | ⟨_, ⟨_, _, _, hw, _⟩ | ⟨_, _, h⟩⟩
  · cases h
  · exact absurd rfl hw.ne0
  · exact h
theorem upc {a b c : World} (h : Below a.heap.size a b) (k : Below b.heap.size b c) : Below a.heap.size a c := h.trans (k.mono h.size)
theorem GRes.setOff {w wr : World} {A B F : Nat} {n : Int} {s : Value} (h : GRes w wr A B n s) (hF : B < F) (k : Nat) (x : Value) : GRes w (wr.setCell ⟨F, k, none⟩ x) A B n s := by
  have hA := h.hA
  have hB := h.hB
  refine ⟨h.hb.setCell (show w.heap.size ≤ F by omega) _, ?_, ?_, h.hz.setOther (a := ⟨F, k, none⟩) (show B ≠ F by omega) x, h.hB, h.hA⟩
  · rw [World.cell?_setCell_far _ _ _ _ (show F ≠ A by omega)]; exact h.cn
  · rw [World.cell?_setCell_far _ _ _ _ (show F ≠ A by omega)]; exact h.cs

theorem small_good {n : Int} {l : List (Int × Int)} {a : Int} (h : SmallSpec n l 12 0 a) : a = 0 ∧ 0 ≤ n ∧ n ≤ 12 ∧ l.length ≤ 1000 ∧ ∀ j, j < l.length → EndsOk n (l.getD j (0, 0)) ∧ (l.getD j (0, 0)).1 ≠ (l.getD j (0, 0)).2 := by
  rcases h with ⟨_, h⟩ | ⟨h, ⟨_, h2, _⟩ | ⟨h1, _, h2⟩⟩
  · exact absurd rfl h
  · cases h2
  · rcases h with ⟨_, h, _⟩ | ⟨hb, ⟨_, _, _, hw, _⟩ | ⟨h, _, _⟩⟩
    · cases h
    · exact absurd rfl hw.ne0
    · unfold TooBig at hb
      exact ⟨h2, by omega, h1, by omega, fun j hj => ⟨(h j hj).1, (h j hj).2.1⟩⟩

end Go.Proofs.Ytnhhohhhpaejmaa
