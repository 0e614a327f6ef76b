/- Arguments opened: a slice of integers. -/
import Derived.Test.YtnmljgjegodkaaaDoorOpenG
import Derived.ChangeSlices
namespace Go.Proofs.YtnmljgjegodkaaaDoor
open Go.ChangeShapes Go.WideShapes Go.ChangeAt Go.RowKit Go.Deep

set_option maxRecDepth 100000 in
/-- A slice of integers, opened. -/
theorem ints_of_trod {H : Type} {enc : TypeId × Value → H} {W : World} {base : Nat} {held : Bool} {v : Value} {d : DataW H} {p : List MemPlace} {ts : List TypeId} {ds : List (DataW H)} {j : Nat}
    (h : DataW.Trod enc Tryd.prog W base (fun _ => true) held 30 v d p) (hv : ∃ a len cap, v = .slice a len cap) (hsz : (DataW.weightsEach Tryd.prog ts ds).all (· ≤ reachBytes) = true) (ht : ts[j]? = some 30) (hd : ds[j]? = some d) :
    ∃ l, IsInts W v l ∧ l.length * 8 ≤ 140737488351232 := by
  obtain ⟨a0, len, cap, rfl⟩ := hv
  obtain ⟨fuel, hf⟩ := h
  rcases open_ints Tryd.underlying30 Tryd.underlying3 Tryd.cellsInt hf with ⟨hcs, hx⟩ | ⟨a, len', cap', zs, hcs, _, hl, hm, hz, hx, hcell, _⟩
  · simp [Value.cells] at hcs
    obtain ⟨rfl, rfl, rfl⟩ := hcs
    exact ⟨[], IsInts.nil W, by simp⟩
  · simp [Value.cells] at hcs
    obtain ⟨rfl, rfl, rfl⟩ := hcs
    simp only [Prod.mk.injEq] at hx
    obtain ⟨rfl, rfl⟩ := hx
    simp only [if_true] at hz
    have hout := sized_slice hsz ht hd Tryd.underlying30
    simp only [lits, List.length_map, List.length_take, List.length_drop, Tryd.bytesInt, reach_eq] at hout
    refine ⟨zs.take len, ints_of_row hl hm hz (fun e => by cases e) (fun a' e c hc => ?_), by rw [List.length_take]; omega⟩
    cases e
    exact hcell c (by omega)

end Go.Proofs.YtnmljgjegodkaaaDoor
