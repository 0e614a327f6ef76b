/- arborlaw.full: the graph of all edges. -/
import Derived.Test.YtmhcnekbfngafaaOf
import Derived.Test.YtmhcnekbfngafaaNot
import Derived.Test.YtmhcnekbfngafaaGood
namespace Go.Proofs.Ytmhcnekbfngafaa
open Go.RowKit

def fullE (n : Nat) : List (Int × Int) := prsTo n (notP (adj [])) n
/-- A graph comes back. -/
def GraphIs (n : Int) (l : List (Int × Int)) (w : World) (e : Ending) (w' : World) : Prop := ∃ v, e = .returned (.agg #[.int .i64 n, v]) ∧ IsEdges w' v l ∧ Below w.heap.size w w'
theorem upf {a b c : World} (h : Below a.heap.size a b) (k : Below b.heap.size b c) : Below a.heap.size a c := h.trans (k.mono h.size)

set_option maxHeartbeats 800000 in
theorem full_any (n : Nat) (w : World) (hn : n ≤ 100) : Calls Try.prog 50 #[.int .i64 (n : Int)] w (GraphIs n (fullE n) w) := by
  have hr := two_row w (.int .i64 0) (.slice none 0 0) 24
  have Hr := Lib.hid hr
  have hlt := hr.lt
  have Hb := Lib.hid (below1 w (Obj.cells #[.int .i64 0, .slice none 0 0] 24))
  clear hr
  go_enter Try.func50, Try.ntmps50
  go_wp2_with fail
  refine (gridOf_any [] n _ _ (IsEdges.nil _) hn (fun j hj => absurd hj (Nat.not_lt_zero _))).mono ?_
  rintro e w2 ⟨v2, rfl, hg2, hb2⟩
  obtain ⟨a2, c2, rfl⟩ := HasGrid.form ⟨_, hg2⟩
  go_wp2_with fail
  refine (not_any n _ _ w2 hn ⟨_, hg2⟩).mono ?_
  rintro e w3 ⟨v3, rfl, hg3, hb3⟩
  obtain ⟨a3, c3, rfl⟩ := HasGrid.form ⟨_, hg3⟩
  go_wp2_with fail
  refine (of_any n _ _ w3 hn ⟨_, hg3⟩).mono ?_
  rintro e w4 ⟨v4, ho4, hb4, rfl⟩
  obtain ⟨a4, c4, rfl⟩ := ho4.form
  have hb := upf (upf (upf Hb.out hb2) hb3) hb4
  have r4 := Hr.out.of_block ((upf (upf hb2 hb3) hb4).block _ hlt)
  obtain ⟨z0, z1, f0, f1, l0⟩ := row_facts r4
  have R4 := Lib.hid r4
  have Ho4 := Lib.hid ho4
  have Hb4 := Lib.hid hb
  have hz3 : w.heap.size + 1 ≤ w3.heap.size := by have h1 := hb2.size; have h2 := hb3.size; rw [World.size_alloc] at h1; omega
  clear hb2 hb3 hb4 hb hg2 hg3 ho4 r4
  go_wp2
  have e0 := ((R4.out.set 0 (.int .i64 (n : Int))).set 1 (.slice a4 (prsTo n (notP (adj [])) n).length c4)).cell (show 0 < 2 by omega)
  have e1 := ((R4.out.set 0 (.int .i64 (n : Int))).set 1 (.slice a4 (prsTo n (notP (adj [])) n).length c4)).cell (show 1 < 2 by omega)
  simp only [if_true, show ¬ (1 : Nat) = 0 by omega, show ¬ (0 : Nat) = 1 by omega, if_false] at e0 e1
  exact bodyPost_ret (v := .agg #[.int .i64 (n : Int), .slice a4 (prsTo n (notP (adj [])) n).length c4]) (by simp [results, Try.results50, go_sem, e0, e1]) rfl ⟨_, rfl, ((Ho4.out.set (show w.heap.size < w3.heap.size by omega) 0 _).set (show w.heap.size < w3.heap.size by omega) 1 _).edges, (Hb4.out.setCell (p := ⟨w.heap.size, 0, none⟩) (Nat.le_refl _) _).setCell (p := ⟨w.heap.size, 1, none⟩) (Nat.le_refl _) _⟩

end Go.Proofs.Ytmhcnekbfngafaa
