/- A table of rows of one's own, in memory: rows are put in order. -/
import Derived.Test.YtnhhohhhpaejmaaPD
import Derived.Test.YtnhhohhhpaejmaaShelf
import Derived.Sort.OwnSortedInts
namespace Go.Proofs.Ytnhhohhhpaejmaa
open Go.RowKit Go.Sort

/-- slices.Sort over a row of one's own. -/
theorem sortI_any {w : World} {base : Nat} {v : Value} {m : List Int} (h : w.ownsRow base 3 1 v m.length (m.map (Value.int .i64))) (hl : m.length ≤ 100000) :
    Calls Try.prog 69 #[v] w fun e w' => e = .returned (.tuple #[]) ∧ w'.ownsRow base 3 1 v m.length ((m.mergeSort fun x y => decide (x ≤ y)).map (Value.int .i64)) ∧ w.grownBy w' v.ownBlock := by
  rcases h.2 with ⟨rfl, h2⟩ | ⟨g, cap, cur, rfl, hb, hgg, h3, h4, h5, h6⟩
  · obtain rfl : m = [] := List.eq_nil_of_length_eq_zero h2
    refine (Try.slices_Sort_int_none none 0 w).mono ?_
    rintro e w' ⟨rfl, rfl⟩
    exact ⟨rfl, by simpa using h, ⟨rfl, rfl, rfl, Nat.le_refl _, fun _ _ _ => rfl⟩⟩
  · have hg : g < w.heap.size := (Array.getElem?_eq_some_iff.1 hgg).1
    refine (Try.slices_Sort_int g 0 cap m w (holds_of_blockI hgg (by rw [← h6]; simp)) hg (by omega)).mono ?_
    rintro e w' ⟨rfl, n, os, rfl⟩
    exact ⟨rfl, ownsRow_sortedI (by simp) hb hgg h3 h4 h5, grownBy_sortedI _⟩

end Go.Proofs.Ytnhhohhhpaejmaa
