/- flow.Most. -/
import Derived.Test.YtfflnpcbpcldeaaFMost
import Derived.Test.YtfflnpcbpcldeaaSide
import Derived.Test.YtfflnpcbpcldeaaEnds
import Derived.Test.YtfflnpcbpcldeaaNetLaw
import Derived.Test.YtfflnpcbpcldeaaCutLaw
namespace Go.Proofs.Ytfflnpcbpcldeaa
open Go.RowKit

/-- What is wrong with a net and two nodes. -/
def MostSpec (n : Int) (l : List (Int × Int × Int)) (s t : Int) (c a : Int) : Prop := (NetSpec n l c a ∧ c ≠ 0) ∨ (NetSpec n l 0 0 ∧ EndsSpec n s t c a)
theorem NetSpec.zero {n : Int} {l : List (Int × Int × Int)} {a : Int} (h : NetSpec n l 0 a) : a = 0 ∧ ¬ NetBig n l ∧ ∀ j, j < l.length → ArcOk n (l.getD j (0, 0, 0)) := by
  rcases h with ⟨-, h, -⟩ | ⟨h1, ⟨i, -, -, -, h, -⟩ | ⟨h2, -, h3⟩⟩
  · omega
  · omega
  · exact ⟨h3, h1, h2⟩
theorem MostSpec.uniq {n : Int} {l : List (Int × Int × Int)} {s t c a c' a' : Int} (h : MostSpec n l s t c a) (h' : MostSpec n l s t c' a') : c = c' ∧ a = a' := by
  rcases h with ⟨h1, h2⟩ | ⟨h1, h2⟩ <;> rcases h' with ⟨h1', h2'⟩ | ⟨h1', h2'⟩
  · exact h1.uniq h1'
  · exact absurd (h1.uniq h1').1 h2
  · exact absurd (h1'.uniq h1).1 h2'
  · exact h2.uniq h2'

/-- What flow.Most answers where all is well. -/
def MostOk (N M : Nat) (l : List (Int × Int × Int)) (s t sum : Nat) (X : Nat → List Nat) (lev : Nat → Int) : Prop := Sent N M s t (netX l) X sum ∧ LevOk N X s lev ∧ lev t < 0
/-- The flows. -/
def flowsL (X : Nat → List Nat) (k : Nat) : List Nat := (List.range k).map fun j => leftX X (2 * j + 1)
theorem flowsL_succ (X : Nat → List Nat) (k : Nat) : flowsL X (k + 1) = flowsL X k ++ [leftX X (2 * k + 1)] := by
  unfold flowsL
  rw [List.range_succ, List.map_append]
  rfl
theorem flowsL_length (X : Nat → List Nat) (k : Nat) : (flowsL X k).length = k := by simp [flowsL]

/-- flow.Most comes back. -/
def FlowPost (n : Int) (l : List (Int × Int × Int)) (s t : Int) (w : World) (e : Ending) (w' : World) : Prop :=
  ∃ c a v fv sv, e = .returned (.tuple #[v, fv, sv, .agg #[.int .i64 c, .int .i64 a]]) ∧ MostSpec n l s t c a ∧ Below w.heap.size w w' ∧
    ((c ≠ 0 ∧ v = .int .i64 0 ∧ fv = .slice none 0 0 ∧ sv = .slice none 0 0) ∨
     (c = 0 ∧ a = 0 ∧ ∃ (N s' t' sum : Nat) (X : Nat → List Nat) (lev : Nat → Int), n = N ∧ s = s' ∧ t = t' ∧ v = .int .i64 (sum : Int) ∧ MostOk N (2 * l.length) l s' t' sum X lev ∧
        w'.ownsRow w.heap.size 3 1 fv l.length ((ints (flowsL X l.length)).map (Value.int .i64)) ∧ w'.ownsRow w.heap.size 3 1 sv (sideL lev N).length ((ints (sideL lev N)).map (Value.int .i64))))

/-- The result's fault cell holds c, a. -/
structure NRes (w wr : World) (A B : Nat) (n : Int) (v : Value) (c a : Int) : Prop where
  hb : Below w.heap.size w wr
  cn : wr.cell? ⟨A, 0, none⟩ = some (.int .i64 n)
  cs : wr.cell? ⟨A, 1, none⟩ = some v
  hf : wr.rowIs B 27 2 (fun i => if i = 0 then .int .i64 c else .int .i64 a)
  hB : w.heap.size ≤ B
  hA : A < B
section
variable {w wr w' : World} {A B : Nat} {n : Int} {v : Value} {c a : Int}
theorem GRes.toN (h : GRes w wr A B n v) (c a : Int) : NRes w ((wr.setCell ⟨B, 0, none⟩ (.int .i64 c)).setCell ⟨B, 1, none⟩ (.int .i64 a)) A B n v c a where
  hb := (h.hb.setCell h.hB _).setCell h.hB _
  cn := by
    have := h.hA
    rw [World.cell?_setCell_far _ _ _ _ (by show B ≠ A; omega), World.cell?_setCell_far _ _ _ _ (by show B ≠ A; omega)]; exact h.cn
  cs := by
    have := h.hA
    rw [World.cell?_setCell_far _ _ _ _ (by show B ≠ A; omega), World.cell?_setCell_far _ _ _ _ (by show B ≠ A; omega)]; exact h.cs
  hf := ((h.hz.set 0 (.int .i64 c)).set 1 (.int .i64 a)).congr fun i hi => by
    match i, hi with
    | 0, _ => rfl
    | 1, _ => rfl
  hB := h.hB
  hA := h.hA
theorem NRes.put (h : NRes w wr A B n v c a) (c' a' : Int) : NRes w ((wr.setCell ⟨B, 0, none⟩ (.int .i64 c')).setCell ⟨B, 1, none⟩ (.int .i64 a')) A B n v c' a' where
  hb := (h.hb.setCell h.hB _).setCell h.hB _
  cn := by
    have := h.hA
    rw [World.cell?_setCell_far _ _ _ _ (by show B ≠ A; omega), World.cell?_setCell_far _ _ _ _ (by show B ≠ A; omega)]; exact h.cn
  cs := by
    have := h.hA
    rw [World.cell?_setCell_far _ _ _ _ (by show B ≠ A; omega), World.cell?_setCell_far _ _ _ _ (by show B ≠ A; omega)]; exact h.cs
  hf := ((h.hf.set 0 (.int .i64 c')).set 1 (.int .i64 a')).congr fun i hi => by
    match i, hi with
    | 0, _ => rfl
    | 1, _ => rfl
  hB := h.hB
  hA := h.hA
theorem NRes.below (h : NRes w wr A B n v c a) (hb : Below wr.heap.size wr w') : NRes w w' A B n v c a :=
  ⟨h.hb.trans (hb.mono h.hb.size), below_cell hb h.cn, below_cell hb h.cs, h.hf.of_block (hb.block _ h.hf.lt), h.hB, h.hA⟩
theorem NRes.drew (h : NRes w wr A B n v c a) : NRes w wr.drew A B n v c a := h.below (Below.refl _ _).drew
theorem NRes.f0 (h : NRes w wr A B n v c a) : wr.cell? ⟨B, 0, none⟩ = some (.int .i64 c) := by rw [h.hf.cell (show 0 < 2 by omega)]; rfl
theorem NRes.f1 (h : NRes w wr A B n v c a) : wr.cell? ⟨B, 1, none⟩ = some (.int .i64 a) := by rw [h.hf.cell (show 1 < 2 by omega)]; rfl
end

end Go.Proofs.Ytfflnpcbpcldeaa
