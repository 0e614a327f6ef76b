/- Arguments opened: a slice of integers, a slice of slices of integers, as the lists that the contracts name. -/
import Derived.Test.YtnhhohhhpaejmaaBase0
import Derived.Test.YtnhhohhhpaejmaaPA
import Derived.Test.YtnhhohhhpaejmaaChecked
import Derived.ProofKit
import Derived.SizedLaws
import Derived.Deep.Matrix
import Derived.Deep.Modes
import Derived.Deep.Frames
namespace Go.Proofs.Ytnhhohhhpaejmaa
open Go.ChangeShapes Go.WideShapes Go.ChangeAt Go.RowKit Go.Deep

theorem Try.own : ownKnob Try.prog.godebug = none := by kernel_rfl
theorem Try.laidOut : laidOutB Try.prog = true := by kernel_rfl
theorem Try.cellsRow : Try.prog.cellsOf 29 = 1 := by kernel_rfl
theorem Try.cellsInt : Try.prog.cellsOf 3 = 1 := by kernel_rfl
theorem Try.bytesRow : Try.prog.bytesOf 29 = 24 := by kernel_rfl
theorem Try.bytesInt : Try.prog.bytesOf 3 = 8 := by kernel_rfl
theorem reach_eq : reachBytes = 140737488351232 := rfl

theorem weightsAll_mem {H : Type} {P : Program} {e : TypeId} : ∀ {l : List (DataW H)} {d : DataW H}, d ∈ l → ∀ n ∈ d.weights P e, n ∈ DataW.weightsAll P e l
  | d' :: r, d, hd, n, hn => by
    simp only [DataW.weightsAll, List.mem_append]
    rcases List.mem_cons.1 hd with rfl | h
    · exact Or.inl hn
    · exact Or.inr (weightsAll_mem h n hn)

/-- The weight of a row inside a slice of slices. -/
theorem sized_inner {H : Type} {P : Program} {ts : List TypeId} {ds : List (DataW H)} (h : (DataW.weightsEach P ts ds).all (· ≤ reachBytes) = true) {j : Nat} {t e q : TypeId} {elems spare e' sp' : List (DataW H)}
    (ht : ts[j]? = some t) (hd : ds[j]? = some (.slice elems spare)) (hu : P.underlying t = some (.slice e)) (hu2 : P.underlying e = some (.slice q)) (hx : DataW.slice e' sp' ∈ elems) : (e'.length + sp'.length) * P.bytesOf q ≤ reachBytes := by
  refine of_decide_eq_true (List.all_eq_true.1 h _ (DataW.weights_mem_each ht hd _ ?_))
  simp only [DataW.weights, hu, List.mem_cons, List.mem_append]
  exact Or.inr (Or.inl (weightsAll_mem hx _ (by simp [DataW.weights, hu2])))

/-- A row's value reads as its numbers. -/
theorem ints_of_row {w : World} {A : Option Addr} {L C : Nat} {Z : List Int} (h1 : L ≤ C) (h2 : C ≤ maxLen) (h3 : Z.length = C) (h4 : A = none → C = 0)
    (h5 : ∀ a', A = some a' → ∀ c, c < C → w.cell? (a'.add c) = some (.int .i64 (Z.getD c 0))) : IsInts w (.slice A L C) (Z.take L) := by
  have hl : (Z.take L).length = L := by simp; omega
  have key : 0 < L → A = some ⟨(A.getD default).block, (A.getD default).off, none⟩ := fun hp => by
    cases A with
    | none => have := h4 rfl; omega
    | some a' =>
      obtain ⟨ab, ao, asp⟩ := a'
      have has : asp = none := by simpa [Addr.add] using World.cell?_spot (h5 _ rfl 0 (by omega))
      subst has
      rfl
  refine ⟨A, C, (A.getD default).block, (A.getD default).off, by rw [hl], by omega, by unfold maxLen at h2; omega, fun hp => key (by omega), h4, ?_⟩
  intro j hj
  have hj' : j < L := by omega
  have := h5 _ (key (by omega)) j (by omega)
  rw [add_plain] at this
  rw [this]
  congr 2
  simp [List.getD_eq_getElem?_getD, hj']

end Go.Proofs.Ytnhhohhhpaejmaa
