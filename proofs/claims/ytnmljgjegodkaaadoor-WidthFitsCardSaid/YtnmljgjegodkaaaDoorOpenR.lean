/- An argument [][]int, opened. -/
import Derived.Test.YtnmljgjegodkaaaDoorOpen
namespace Go.Proofs.YtnmljgjegodkaaaDoor
open Go.ChangeShapes Go.WideShapes Go.ChangeAt Go.RowKit Go.Deep

theorem rows_of_trod {H : Type} {enc : TypeId × Value → H} {W : World} {a0 : Option Addr} {len cap base : Nat} {held : Bool} {d : DataW H} {p : List MemPlace} {ts : List TypeId} {ds : List (DataW H)} {j : Nat}
    (h0 : DataW.Trod enc Tryd.prog W base (fun _ => true) held 29 (.slice a0 len cap) d p) (hsz : (DataW.weightsEach Tryd.prog ts ds).all (· ≤ reachBytes) = true) (ht : ts[j]? = some 29) (hd : ds[j]? = some d) :
    ∃ m, IsRows W (.slice a0 len cap) m ∧ m.length * 24 ≤ 140737488351232 ∧ ∀ i, i < m.length → (m.getD i []).length * 8 ≤ 140737488351232 := by
  obtain ⟨fuel, hf⟩ := h0
  rcases open_int_rows Tryd.underlying29 Tryd.underlying30 Tryd.underlying3 Tryd.cellsRow Tryd.cellsInt hf with ⟨hcs, hx⟩ | ⟨a, len', cap', A, L, C, Z, hcs, _, hl, hm, hx, hrows⟩
  · simp [Value.cells] at hcs
    obtain ⟨rfl, rfl, rfl⟩ := hcs
    exact ⟨[], ⟨none, 0, 0, 0, rfl, Nat.le_refl _, by omega, by simp, by simp, by simp⟩, by simp, by simp⟩
  simp [Value.cells] at hcs
  obtain ⟨rfl, rfl, rfl⟩ := hcs
  simp only [Prod.mk.injEq] at hx
  obtain ⟨rfl, rfl⟩ := hx
  have hout := sized_slice hsz ht hd Tryd.underlying29
  simp only [List.length_map, List.length_range, Tryd.bytesRow, reach_eq] at hout
  have hlen : ((List.range len).map fun r => (Z r).take (L r)).length = len := by simp
  have hget : ∀ r, r < len → ((List.range len).map fun r => (Z r).take (L r)).getD r [] = (Z r).take (L r) := fun r hr => by
    simp [List.getD_eq_getElem?_getD, hr]
  refine ⟨(List.range len).map fun r => (Z r).take (L r), ?_, by rw [hlen]; omega, ?_⟩
  · obtain ⟨gb, go, gs⟩ := a
    have hgs : 0 < len → gs = none := fun hp => by simpa [Addr.add] using World.cell?_spot (hrows 0 (by omega)).1
    refine ⟨some ⟨gb, go, gs⟩, cap, gb, go, by rw [hlen], by omega, by unfold maxLen at hm; omega, fun hp => by rw [hgs (by omega)], by simp, ?_⟩
    intro r hr
    rw [hlen] at hr
    have hs := hgs (by omega)
    subst hs
    obtain ⟨h1, h2, h3, h4, _, h5, h6⟩ := hrows r (by omega)
    refine ⟨_, by rw [← add_plain]; exact h1, ?_⟩
    rw [hget r hr]
    exact ints_of_row h2 h3 h4 h5 (fun a' ha => (h6 a' ha).2)
  · intro r hr
    rw [hlen] at hr
    rw [hget r hr]
    obtain ⟨h1, h2, h3, h4, _, h5, h6⟩ := hrows r (by omega)
    cases hA : A r with
    | none => have := h5 hA; simp; omega
    | some a' =>
      have hin := sized_inner hsz (q := 3) ht hd Tryd.underlying29 Tryd.underlying30
        (e' := lits .i64 ((Z r).take (L r))) (sp' := lits .i64 ((Z r).drop (L r)))
        (List.mem_map.2 ⟨r, List.mem_range.2 hr, by simp [intRow, hA]⟩)
      simp only [lits, List.length_map, List.length_take, List.length_drop, Tryd.bytesInt, reach_eq] at hin
      simp only [List.length_take]
      omega

end Go.Proofs.YtnmljgjegodkaaaDoor
