/- Arguments opened: a slice of integers, a slice of slices of integers, as the lists that the contracts name. -/
import Derived.Test.YtbnbhjeknocboaaBase
import Derived.Test.YtbnbhjeknocboaaPA
import Derived.Test.YtbnbhjeknocboaaChecked
import Derived.ProofKit
import Derived.SizedLaws
import Derived.Deep.Matrix
import Derived.Deep.Modes
import Derived.Deep.Frames
namespace Go.Proofs.Ytbnbhjeknocboaa
open Go.ChangeShapes Go.WideShapes Go.ChangeAt Go.RowKit Go.Deep

theorem Try.own : ownKnob Try.prog.godebug = none := by kernel_rfl
theorem Try.laidOut : laidOutB Try.prog = true := by kernel_rfl
theorem Try.cellsRow : Try.prog.cellsOf 25 = 1 := by kernel_rfl
theorem Try.cellsInt : Try.prog.cellsOf 3 = 1 := by kernel_rfl
theorem Try.bytesRow : Try.prog.bytesOf 25 = 24 := by kernel_rfl
theorem Try.bytesInt : Try.prog.bytesOf 3 = 8 := by kernel_rfl
theorem reach_eq : reachBytes = 140737488351232 := rfl

theorem weightsAll_mem {H : Type} {P : Program} {e : TypeId} : ∀ {l : List (DataW H)} {d : DataW H}, d ∈ l → ∀ n ∈ d.weights P e, n ∈ DataW.weightsAll P e l
  | d' :: r, d, hd, n, hn => by
    simp only [DataW.weightsAll, List.mem_append]
    rcases List.mem_cons.1 hd with rfl | h
    · exact Or.inl hn
    · exact Or.inr (weightsAll_mem h n hn)

/-- The weight of a row inside a slice of slices. -/
theorem sized_inner {H : Type} {P : Program} {ts : List TypeId} {ds : List (DataW H)} (h : (DataW.weightsEach P ts ds).all (· ≤ reachBytes) = true) {j : Nat} {t e q : TypeId} {elems spare e' sp' : List (DataW H)}
    (ht : ts[j]? = some t) (hd : ds[j]? = some (.slice elems spare)) (hu : P.underlying t = some (.slice e)) (hu2 : P.underlying e = some (.slice q)) (hx : DataW.slice e' sp' ∈ elems) : (e'.length + sp'.length) * P.bytesOf q ≤ reachBytes := by
  refine of_decide_eq_true (List.all_eq_true.1 h _ (DataW.weights_mem_each ht hd _ ?_))
  simp only [DataW.weights, hu, List.mem_cons, List.mem_append]
  exact Or.inr (Or.inl (weightsAll_mem hx _ (by simp [DataW.weights, hu2])))

/-- A row's value reads as its numbers. -/
theorem ints_of_row {w : World} {A : Option Addr} {L C : Nat} {Z : List Int} (h1 : L ≤ C) (h2 : C ≤ maxLen) (h3 : Z.length = C) (h4 : A = none → C = 0)
    (h5 : ∀ a', A = some a' → ∀ c, c < C → w.cell? (a'.add c) = some (.int .i64 (Z.getD c 0))) : IsInts w (.slice A L C) (Z.take L) := by
  have hl : (Z.take L).length = L := by simp; omega
  have key : 0 < L → A = some ⟨(A.getD default).block, (A.getD default).off, none⟩ := fun hp => by
    cases A with
    | none => have := h4 rfl; omega
    | some a' =>
      obtain ⟨ab, ao, asp⟩ := a'
      have has : asp = none := by simpa [Addr.add] using World.cell?_spot (h5 _ rfl 0 (by omega))
      subst has
      rfl
  refine ⟨A, C, (A.getD default).block, (A.getD default).off, by rw [hl], by omega, by unfold maxLen at h2; omega, fun hp => key (by omega), h4, ?_⟩
  intro j hj
  have hj' : j < L := by omega
  have := h5 _ (key (by omega)) j (by omega)
  rw [add_plain] at this
  rw [this]
  congr 2
  simp [List.getD_eq_getElem?_getD, hj']

theorem rows_of_trod {H : Type} {enc : TypeId × Value → H} {W : World} {a0 : Option Addr} {len cap base : Nat} {held : Bool} {d : DataW H} {p : List MemPlace} {ts : List TypeId} {ds : List (DataW H)} {j : Nat}
    (h0 : DataW.Trod enc Try.prog W base (fun _ => true) held 48 (.slice a0 len cap) d p) (hsz : (DataW.weightsEach Try.prog ts ds).all (· ≤ reachBytes) = true) (ht : ts[j]? = some 48) (hd : ds[j]? = some d) :
    ∃ m, IsRows W (.slice a0 len cap) m ∧ m.length * 24 ≤ 140737488351232 ∧ ∀ i, i < m.length → (m.getD i []).length * 8 ≤ 140737488351232 := by
  obtain ⟨fuel, hf⟩ := h0
  rcases open_int_rows Try.underlying48 Try.underlying25 Try.underlying3 Try.cellsRow Try.cellsInt hf with ⟨hcs, hx⟩ | ⟨a, len', cap', A, L, C, Z, hcs, _, hl, hm, hx, hrows⟩
  · simp [Value.cells] at hcs
    obtain ⟨rfl, rfl, rfl⟩ := hcs
    exact ⟨[], ⟨none, 0, 0, 0, rfl, Nat.le_refl _, by omega, by simp, by simp, by simp⟩, by simp, by simp⟩
  simp [Value.cells] at hcs
  obtain ⟨rfl, rfl, rfl⟩ := hcs
  simp only [Prod.mk.injEq] at hx
  obtain ⟨rfl, rfl⟩ := hx
  have hout := sized_slice hsz ht hd Try.underlying48
  simp only [List.length_map, List.length_range, Try.bytesRow, reach_eq] at hout
  have hlen : ((List.range len).map fun r => (Z r).take (L r)).length = len := by simp
  have hget : ∀ r, r < len → ((List.range len).map fun r => (Z r).take (L r)).getD r [] = (Z r).take (L r) := fun r hr => by
    simp [List.getD_eq_getElem?_getD, hr]
  refine ⟨(List.range len).map fun r => (Z r).take (L r), ?_, by rw [hlen]; omega, ?_⟩
  · obtain ⟨gb, go, gs⟩ := a
    have hgs : 0 < len → gs = none := fun hp => by simpa [Addr.add] using World.cell?_spot (hrows 0 (by omega)).1
    refine ⟨some ⟨gb, go, gs⟩, cap, gb, go, by rw [hlen], by omega, by unfold maxLen at hm; omega, fun hp => by rw [hgs (by omega)], by simp, ?_⟩
    intro r hr
    rw [hlen] at hr
    have hs := hgs (by omega)
    subst hs
    obtain ⟨h1, h2, h3, h4, _, h5, h6⟩ := hrows r (by omega)
    refine ⟨_, by rw [← add_plain]; exact h1, ?_⟩
    rw [hget r hr]
    exact ints_of_row h2 h3 h4 h5 (fun a' ha => (h6 a' ha).2)
  · intro r hr
    rw [hlen] at hr
    rw [hget r hr]
    obtain ⟨h1, h2, h3, h4, _, h5, h6⟩ := hrows r (by omega)
    cases hA : A r with
    | none => have := h5 hA; simp; omega
    | some a' =>
      have hin := sized_inner hsz (q := 3) ht hd Try.underlying48 Try.underlying25
        (e' := lits .i64 ((Z r).take (L r))) (sp' := lits .i64 ((Z r).drop (L r)))
        (List.mem_map.2 ⟨r, List.mem_range.2 hr, by simp [intRow, hA]⟩)
      simp only [lits, List.length_map, List.length_take, List.length_drop, Try.bytesInt, reach_eq] at hin
      simp only [List.length_take]
      omega

end Go.Proofs.Ytbnbhjeknocboaa
