/- slices.Reverse over a row of one's own. -/
import Derived.Test.YtnmljgjegodkaaaDoorPD
import Derived.Test.YtnmljgjegodkaaaDoorShelf
import Derived.Sort.OwnSortedInts
namespace Go.Proofs.YtnmljgjegodkaaaDoor
open Go.RowKit Go.Sort

theorem revI_any {w : World} {base : Nat} {v : Value} {m : List Int} (h : w.ownsRow base 3 1 v m.length (m.map (Value.int .i64))) (hl : m.length ≤ 100000) :
    Calls Tryd.prog 50 #[v] w fun e w' => e = .returned (.tuple #[]) ∧ w'.ownsRow base 3 1 v m.length (m.reverse.map (Value.int .i64)) ∧ w.grownBy w' v.ownBlock := by
  rcases h.2 with ⟨rfl, h2⟩ | ⟨g, cap, cur, rfl, hb, hgg, h3, h4, h5, h6⟩
  · obtain rfl : m = [] := List.eq_nil_of_length_eq_zero h2
    refine (Tryd.slices_Reverse_int_empty none 0 w).mono ?_
    rintro e w' ⟨rfl, rfl⟩
    exact ⟨rfl, by simpa using h, ⟨rfl, rfl, rfl, Nat.le_refl _, fun _ _ _ => rfl⟩⟩
  · refine (Tryd.slices_Reverse_int g 0 cap m w (holds_of_blockI hgg (by rw [← h6]; simp)) (by omega)).mono ?_
    rintro e w' ⟨rfl, n, rfl⟩
    have e1 : grow (putRow (Value.int .i64) (Sort.ahead w n) g 0 m.reverse.toArray) #[] = putRow (Value.int .i64) (Sort.ahead w n) g 0 m.reverse.toArray := grow_empty _
    rw [← e1]
    exact ⟨rfl, ownsRow_sortedI (by simp) hb hgg h3 h4 h5, grownBy_sortedI _⟩

end Go.Proofs.YtnmljgjegodkaaaDoor
