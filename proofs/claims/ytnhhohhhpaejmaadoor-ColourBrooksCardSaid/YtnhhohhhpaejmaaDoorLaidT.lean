/- What the listed tables give: math/bits.deBruijn64tab lies where the walk reads it. No condition. -/
import Derived.Test.YtnhhohhhpaejmaaDoorRows
import Derived.Test.YtnhhohhhpaejmaaDoorCtz
import Derived.Lib.LaidTab
import Derived.LaidMore
namespace Go.Proofs.YtnhhohhhpaejmaaDoor
open Go Go.RowKit

theorem g64 : Tryd.prog.globalNamed "math/bits.deBruijn64tab" = some 1 := by kernel_rfl
theorem t64 : (Tryd.prog.globals[1]?).map (·.type) = some 118 := by kernel_rfl
theorem c64 : Tryd.prog.cellsOf 118 = 64 := by kernel_rfl
theorem c8 : Tryd.prog.cellsOf 5 = 1 := by kernel_rfl
theorem d64 : (Rows.laid_math_bits_deBruijn64tab : DataW Unit) = Lib.tabData .u8 (Lib.deBruijn64tab.map fun (n : Nat) => (n : Int)) := rfl

theorem tab_cell (l : List Nat) (j : Nat) (hj : j < l.length) : ((l.map fun (n : Nat) => (n : Int)).map fun z => Value.int .u8 z)[j]? = some (.int .u8 (l.getD j 0)) := by
  simp [List.getElem?_map, List.getD, List.getElem?_eq_getElem hj]
theorem tab_of_laid {W : World} (h : laidMetH Tryd.prog [("math/bits.deBruijn32tab", Rows.laid_math_bits_deBruijn32tab), ("math/bits.deBruijn64tab", Rows.laid_math_bits_deBruijn64tab)] W) : TabAt 1 Lib.deBruijn64tab W := by
  rw [MakeChecks.laidMetH_plain _ _ _ (by kernel_rfl)] at h
  obtain ⟨ps, ⟨g0, t0, cs0, f0, p0, q0, hg0, ht0, hv0, hd0, ⟨g1, t1, cs1, f1, p1, q1, hg1, ht1, hv1, hd1, _, _⟩, _⟩, _, _⟩ := h
  obtain rfl := Option.some.inj (g64.symm.trans hg1)
  obtain rfl := Option.some.inj (t64.symm.trans ht1)
  rw [d64] at hd1
  have hc := Lib.cells_of_tab Tryd.underlying118 Tryd.underlying5 c8 c64 hd1
  intro j hj
  have := World.var?_cell hg1 hv1 j
  rw [this]
  have e : cs1[j]? = cs1.toList[j]? := Array.getElem?_toList.symm
  rw [e, hc]
  exact tab_cell Lib.deBruijn64tab j hj

theorem door_met (os : Os) (args : Array Value) : laidMetH Tryd.prog [("math/bits.deBruijn32tab", Rows.laid_math_bits_deBruijn32tab), ("math/bits.deBruijn64tab", Rows.laid_math_bits_deBruijn64tab)] ((World.doorLaid Tryd.prog 400 os).forCall (fun _ _ => 0) ⟨#[], args, []⟩).memory :=
  laidMetH_of_parts3 (fuel := 8) (laidMet_of_run' 8 (by kernel_rfl) (by kernel_rfl)) (by kernel_rfl) (by kernel_rfl)

end Go.Proofs.YtnhhohhhpaejmaaDoor
