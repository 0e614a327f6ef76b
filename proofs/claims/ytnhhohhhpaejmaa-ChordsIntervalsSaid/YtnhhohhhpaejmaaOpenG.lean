/- Arguments opened: a graph, as the edges that the contracts name. -/
import Derived.Test.YtnhhohhhpaejmaaOpen
import Derived.Test.YtnhhohhhpaejmaaGraph
import Derived.Test.YtnhhohhhpaejmaaPairMap
import Derived.OpenShut
import Derived.Lib.SmallJoins
import Derived.Deep.Slices
namespace Go.Proofs.Ytnhhohhhpaejmaa
open Go.ChangeShapes Go.WideShapes Go.ChangeAt Go.RowKit Go.Deep Go.Joins

theorem Try.bytesEdge : Try.prog.bytesOf 52 = 16 := by kernel_rfl
theorem Try.oneGraph : oneCellFields Try.prog #[{ name := "N", type := 3, offset := 0, embedded := false, tag := "", pkgPath := "", byteOffset := 0 }, { name := "Edges", type := 22, offset := 1, embedded := false, tag := "", pkgPath := "", byteOffset := 8 }] = true := by kernel_rfl
theorem Try.cellsGraph : Try.prog.cellsOf 24 = 2 := by kernel_rfl

set_option maxRecDepth 100000 in
/-- A slice of pairs of integers, opened. -/
theorem edges_of_trod {H : Type} {enc : TypeId × Value → H} {W : World} {base : Nat} {held : Bool} {fuel : Nat} {v : Value} {x : DataW H × List MemPlace}
    (h : DataW.trod enc Try.prog W base (fun _ => true) held fuel 22 [v] = some x) (hsz : (x.1.weights Try.prog 22).all (· ≤ reachBytes) = true) : ∃ l, IsEdges W v l ∧ l.length * 16 ≤ 140737488351232 := by
  rcases open_slice Try.underlying22 h with ⟨hcs, hx⟩ | ⟨a, len, cap, m, n, D, Pl, hcs, hb, hl, hm, hmm, hx, hi⟩
  · simp only [List.cons.injEq, and_true] at hcs
    subst hcs
    exact ⟨[], IsEdges.nil W, by simp⟩
  · simp only [List.cons.injEq, and_true] at hcs
    subst hcs
    subst hx
    simp only [if_true] at hmm
    subst hmm
    have key : ∀ i, i < len → ∃ p q : Int, W.cell? (a.add (i * 2)) = some (.int .i64 p) ∧ W.cell? (a.add (i * 2 + 1)) = some (.int .i64 q) := by
      intro i hil
      obtain ⟨cs', hc, ht⟩ := hi i (by omega)
      rw [pair_cells2] at hc
      obtain ⟨_, hcl, hat⟩ := World.cells?_some hc
      obtain ⟨ys, k, _, _, _, hyl, hf⟩ := DataW.trod_array pair_type ht
      obtain ⟨c0, c1, rfl⟩ : ∃ c0 c1, cs' = [c0, c1] := by
        match cs', hcl with
        | [c0, c1], _ => exact ⟨c0, c1, rfl⟩
      have g0 := hf 0 (by omega)
      have g1 := hf 1 (by omega)
      rw [Try.cellsInt] at g0 g1
      have y0 : ys[0]? = some (ys[0]'(by omega)) := List.getElem?_eq_getElem (by omega)
      have y1 : ys[1]? = some (ys[1]'(by omega)) := List.getElem?_eq_getElem (by omega)
      rw [y0] at g0
      rw [y1] at g1
      simp only [Nat.zero_mul, Nat.one_mul, List.drop_zero, List.drop_succ_cons, List.take_succ_cons, List.take_zero] at g0 g1
      obtain ⟨p, hp, _⟩ := DataW.trod_int Try.underlying3 g0
      obtain ⟨q, hq, _⟩ := DataW.trod_int Try.underlying3 g1
      simp only [List.cons.injEq, and_true] at hp hq
      have e0 := hat 0 (by omega)
      have e1 := hat 1 (by omega)
      rw [Go.Deep.add_add] at e0 e1
      exact ⟨p, q, by simpa [hp] using e0, by simpa [hq] using e1⟩
    have key2 : ∀ i, ∃ e : Int × Int, i < len → W.cell? (a.add (i * 2)) = some (.int .i64 e.1) ∧ W.cell? (a.add (i * 2 + 1)) = some (.int .i64 e.2) := fun i => by
      by_cases hil : i < len
      · obtain ⟨p, q, h1, h2⟩ := key i hil
        exact ⟨(p, q), fun _ => ⟨h1, h2⟩⟩
      · exact ⟨(0, 0), fun h => absurd h hil⟩
    let E : Nat → Int × Int := fun i => (key2 i).choose
    have hE : ∀ i, i < len → W.cell? (a.add (i * 2)) = some (.int .i64 (E i).1) ∧ W.cell? (a.add (i * 2 + 1)) = some (.int .i64 (E i).2) := fun i hil => (key2 i).choose_spec hil
    have hlen : ((List.range len).map E).length = len := by simp
    obtain ⟨ab, ao, asp⟩ := a
    have hsp : 0 < len → asp = none := fun hp => by simpa [Addr.add] using World.cell?_spot (hE 0 hp).1
    refine ⟨(List.range len).map E, ⟨some ⟨ab, ao, asp⟩, m, ab, ao, by rw [hlen], by omega, by unfold maxLen at hm; omega, fun hp => by rw [hsp (by omega)], by simp, fun j hj => ?_⟩, ?_⟩
    · rw [hlen] at hj
      have hs := hsp (by omega)
      subst hs
      have e : ((List.range len).map E).getD j (0, 0) = E j := by simp [List.getD, hj]
      rw [e]
      have h1 := (hE j hj).1
      have h2 := (hE j hj).2
      rw [add_plain] at h1 h2
      exact ⟨h1, by rw [Nat.add_assoc]; exact h2⟩
    · have hw := of_decide_eq_true (List.all_eq_true.1 hsz ((len + (m - len)) * 16) (by
        simp only [DataW.weights, Try.underlying22, List.length_map, List.length_range, Try.bytesEdge]
        exact List.mem_cons_self))
      rw [reach_eq] at hw
      rw [hlen]
      omega

set_option maxRecDepth 100000 in
/-- A graph by value, opened. -/
theorem graph_of_trod {H : Type} {enc : TypeId × Value → H} {W : World} {base : Nat} {held : Bool} {r : Reach} {b0 : Nat} {v : Value} {d : DataW H} {p : List MemPlace} {ts : List TypeId} {ds : List (DataW H)} {j : Nat}
    (hv : Value.okWide Try.prog W r b0 24 v) (h : DataW.Trod enc Try.prog W base (fun _ => true) held 24 v d p) (hsz : (DataW.weightsEach Try.prog ts ds).all (· ≤ reachBytes) = true) (ht : ts[j]? = some 24) (hd : ds[j]? = some d) :
    ∃ (n : Int) (s : Value) (l : List (Int × Int)), v = .agg #[.int .i64 n, s] ∧ IsEdges W s l ∧ l.length * 16 ≤ 140737488351232 := by
  obtain ⟨v0, v1, y0, y1, k, rfl, rfl, rfl, h0, h1⟩ := open_agg2 Try.underlying24 Try.oneGraph Try.cellsGraph hv h
  obtain ⟨n, hn, _⟩ := DataW.trod_int Try.underlying3 h0
  simp only [List.cons.injEq, and_true] at hn
  subst hn
  obtain ⟨l, hl, hb⟩ := edges_of_trod h1 (by
    refine List.all_eq_true.2 fun z hz => List.all_eq_true.1 hsz z (DataW.weights_mem_each ht hd z ?_)
    simp only [DataW.weights, Try.underlying24, List.map_cons, List.map_nil, DataW.weightsEach, List.mem_append]
    exact Or.inr (Or.inl hz))
  exact ⟨n, v1, l, rfl, hl, hb⟩

end Go.Proofs.Ytnhhohhhpaejmaa
