/- Ways in memory, read back: for the laws of Menger. -/
import Derived.Test.YtbnbhjeknocboaaWaysM
import Derived.Test.YtbnbhjeknocboaaWalkR
namespace Go.Proofs.Ytbnbhjeknocboaa
open Go.RowKit

/-- What stands throughout: the argument's box, one's own copy's box, both graphs' edges. -/
structure LB (w wr : World) (n : Int) (v v2 : Value) (l : List (Int × Int)) (B : Nat) : Prop where
  hb : Below w.heap.size w wr
  cn : wr.cell? ⟨w.heap.size, 0, none⟩ = some (.int .i64 n)
  cs : wr.cell? ⟨w.heap.size, 1, none⟩ = some v
  on : wr.cell? ⟨B, 0, none⟩ = some (.int .i64 n)
  os : wr.cell? ⟨B, 1, none⟩ = some v2
  he : IsEdges wr v l
  ho : IsEdges wr v2 l
theorem LB.below {w wr w' : World} {n : Int} {v v2 : Value} {l : List (Int × Int)} {B : Nat} (h : LB w wr n v v2 l B) (hb : Below wr.heap.size wr w') : LB w w' n v v2 l B :=
  ⟨h.hb.trans (hb.mono h.hb.size), below_cell hb h.cn, below_cell hb h.cs, below_cell hb h.on, below_cell hb h.os, h.he.below hb, h.ho.below hb⟩

/-- A way has no more nodes than there are. -/
theorem WayP.few {l : List (Int × Int)} {N s t : Nat} {o : List Nat} (h : WayP l N s t o) : o.length ≤ N := by
  have hnd : o.Nodup := List.pairwise_iff_getElem.2 fun i j hi hj hij => by
    have := h.dif i j hij hj
    simpa [List.getD, hi, hj] using this
  have hsub : o ⊆ List.range N := fun x hx => by
    obtain ⟨i, hi, rfl⟩ := List.getElem_of_mem hx
    have := h.lt i hi
    simp only [List.getD, List.getElem?_eq_getElem hi, Option.getD_some] at this
    exact List.mem_range.2 this
  have := hnd.length_le_of_subset hsub
  simpa using this

theorem ways_at {w wr : World} {m : List (List Nat)} {a : Option Addr} {c n : Nat} (h : IsRows w (.slice a n c) (m.map ints)) (hb : Below w.heap.size w wr) {j : Nat} (hj : j < m.length) :
    ∃ b o ra rc, a = some ⟨b, o, none⟩ ∧ wr.cell? ⟨b, o + j, none⟩ = some (.slice ra (m.getD j []).length rc) ∧ IsInts wr (.slice ra (m.getD j []).length rc) (ints (m.getD j [])) := by
  obtain ⟨a', cap, b, o, e, -, -, hadr, -, hcell⟩ := h.below hb
  simp only [Value.slice.injEq] at e
  obtain ⟨rfl, -, rfl⟩ := e
  have hl : (m.map ints).length = m.length := List.length_map _
  obtain ⟨r, hr, hi⟩ := hcell j (by omega)
  have e2 : (m.map ints).getD j [] = ints (m.getD j []) := by simp [List.getD, hj]
  rw [e2] at hi
  obtain ⟨ra, rc, _, _, rfl, -⟩ := id hi
  rw [ints_length] at hr hi
  exact ⟨b, o, ra, rc, hadr (by omega), hr, hi⟩

end Go.Proofs.Ytbnbhjeknocboaa
