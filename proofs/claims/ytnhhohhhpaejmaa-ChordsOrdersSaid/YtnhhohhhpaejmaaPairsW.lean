/- arborref.Pairs: are two lists of pairs the same. -/
import Derived.Test.YtnhhohhhpaejmaaSame
import Derived.Test.YtnhhohhhpaejmaaGOwn
namespace Go.Proofs.Ytnhhohhhpaejmaa
open Go.RowKit

set_option maxHeartbeats 1600000 in
theorem rpairs_any (l m : List (Int × Int)) (s t : Value) (w : World) (h : IsEdges w s l) (h' : IsEdges w t m) :
    Calls Try.prog 23 #[s, t] w fun e w' => e = .returned (.bool (decide (l = m))) ∧ Below w.heap.size w w' := by
  obtain ⟨a1, c1, rfl⟩ := h.form
  obtain ⟨a2, c2, rfl⟩ := h'.form
  have H1 := Lib.hid h; have H2 := Lib.hid h'
  clear h h'
  go_enter Try.func23, Try.ntmps23
  go_wp2_with fail
  refine (same_any l m 0 0 _ _ w H1.out H2.out).mono ?_
  rintro e w2 ⟨rfl, hb⟩
  rw [show decide ((0 : Int) = 0 ∧ l = m) = decide (l = m) by simp]
  have Hb := Lib.hid hb
  clear hb
  go_wp2
  go_ret
  exact ⟨rfl, Hb.out⟩

end Go.Proofs.Ytnhhohhhpaejmaa
