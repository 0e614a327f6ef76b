/- Arguments opened: a net, as the arcs that the contracts name. -/
import Derived.Test.YtfflnpcbpcldeaaOpen
import Derived.Test.YtfflnpcbpcldeaaFArcs
import Derived.OpenShut
import Derived.Lib.SmallJoins
import Derived.Deep.Slices
namespace Go.Proofs.Ytfflnpcbpcldeaa
open Go.ChangeShapes Go.WideShapes Go.ChangeAt Go.RowKit Go.Deep Go.Joins

theorem Try.bytesArc : Try.prog.bytesOf 55 = 24 := by kernel_rfl
theorem Try.cellsArc : Try.prog.cellsOf 55 = 3 := by kernel_rfl
theorem Try.oneNet : oneCellFields Try.prog #[{ name := "N", type := 3, offset := 0, embedded := false, tag := "", pkgPath := "", byteOffset := 0 }, { name := "Arcs", type := 46, offset := 1, embedded := false, tag := "", pkgPath := "", byteOffset := 8 }] = true := by kernel_rfl
theorem Try.cellsNet : Try.prog.cellsOf 48 = 2 := by kernel_rfl

set_option maxRecDepth 100000 in
/-- A slice of arcs, opened. -/
theorem arcs_of_trod {H : Type} {enc : TypeId × Value → H} {W : World} {base : Nat} {held : Bool} {fuel : Nat} {v : Value} {x : DataW H × List MemPlace}
    (h : DataW.trod enc Try.prog W base (fun _ => true) held fuel 46 [v] = some x) (hsz : (x.1.weights Try.prog 46).all (· ≤ reachBytes) = true) : ∃ l, IsArcs W v l ∧ l.length * 24 ≤ 140737488351232 := by
  rcases open_slice Try.underlying46 h with ⟨hcs, hx⟩ | ⟨a, len, cap, m, n, D, Pl, hcs, hb, hl, hm, hmm, hx, hi⟩
  · simp only [List.cons.injEq, and_true] at hcs
    subst hcs
    exact ⟨[], IsArcs.nil W, by simp⟩
  · simp only [List.cons.injEq, and_true] at hcs
    subst hcs
    subst hx
    simp only [if_true] at hmm
    subst hmm
    have key : ∀ i, i < len → ∃ p q r : Int, W.cell? (a.add (i * 3)) = some (.int .i64 p) ∧ W.cell? (a.add (i * 3 + 1)) = some (.int .i64 q) ∧ W.cell? (a.add (i * 3 + 2)) = some (.int .i64 r) := by
      intro i hil
      obtain ⟨cs', hc, ht⟩ := hi i (by omega)
      rw [Try.cellsArc] at hc
      obtain ⟨_, hcl, hat⟩ := World.cells?_some hc
      obtain ⟨y0, y1, y2, k, -, -, g0, g1, g2⟩ := trod_struct3 Try.underlying55 ht
      obtain ⟨c0, c1, c2, rfl⟩ : ∃ c0 c1 c2, cs' = [c0, c1, c2] := by
        match cs', hcl with
        | [c0, c1, c2], _ => exact ⟨c0, c1, c2, rfl⟩
      simp only [Try.cellsInt, List.drop_zero, List.drop_succ_cons, List.take_succ_cons, List.take_zero] at g0 g1 g2
      obtain ⟨p, hp, _⟩ := DataW.trod_int Try.underlying3 g0
      obtain ⟨q, hq, _⟩ := DataW.trod_int Try.underlying3 g1
      obtain ⟨r, hr, _⟩ := DataW.trod_int Try.underlying3 g2
      simp only [List.cons.injEq, and_true] at hp hq hr
      have e0 := hat 0 (by omega)
      have e1 := hat 1 (by omega)
      have e2 := hat 2 (by omega)
      rw [Go.Deep.add_add] at e0 e1 e2
      exact ⟨p, q, r, by simpa [hp] using e0, by simpa [hq] using e1, by simpa [hr] using e2⟩
    have key2 : ∀ i, ∃ e : Int × Int × Int, i < len → W.cell? (a.add (i * 3)) = some (.int .i64 e.1) ∧ W.cell? (a.add (i * 3 + 1)) = some (.int .i64 e.2.1) ∧ W.cell? (a.add (i * 3 + 2)) = some (.int .i64 e.2.2) := fun i => by
      by_cases hil : i < len
      · obtain ⟨p, q, r, h1, h2, h3⟩ := key i hil
        exact ⟨(p, q, r), fun _ => ⟨h1, h2, h3⟩⟩
      · exact ⟨(0, 0, 0), fun h => absurd h hil⟩
    let E : Nat → Int × Int × Int := fun i => (key2 i).choose
    have hE : ∀ i, i < len → W.cell? (a.add (i * 3)) = some (.int .i64 (E i).1) ∧ W.cell? (a.add (i * 3 + 1)) = some (.int .i64 (E i).2.1) ∧ W.cell? (a.add (i * 3 + 2)) = some (.int .i64 (E i).2.2) := fun i hil => (key2 i).choose_spec hil
    have hlen : ((List.range len).map E).length = len := by simp
    obtain ⟨ab, ao, asp⟩ := a
    have hsp : 0 < len → asp = none := fun hp => by simpa [Addr.add] using World.cell?_spot (hE 0 hp).1
    refine ⟨(List.range len).map E, ⟨some ⟨ab, ao, asp⟩, m, ab, ao, by rw [hlen], by omega, by unfold maxLen at hm; omega, fun hp => by rw [hsp (by omega)], by simp, fun j hj => ?_⟩, ?_⟩
    · rw [hlen] at hj
      have hs := hsp (by omega)
      subst hs
      have e : ((List.range len).map E).getD j (0, 0, 0) = E j := by simp [List.getD, hj]
      rw [e]
      have h1 := (hE j hj).1
      have h2 := (hE j hj).2.1
      have h3 := (hE j hj).2.2
      rw [add_plain] at h1 h2 h3
      exact ⟨h1, by rw [Nat.add_assoc]; exact h2, by rw [Nat.add_assoc]; exact h3⟩
    · have hw := of_decide_eq_true (List.all_eq_true.1 hsz ((len + (m - len)) * 24) (by
        simp only [DataW.weights, Try.underlying46, List.length_map, List.length_range, Try.bytesArc]
        exact List.mem_cons_self))
      rw [reach_eq] at hw
      rw [hlen]
      omega

set_option maxRecDepth 100000 in
/-- A net by value, opened. -/
theorem net_of_trod {H : Type} {enc : TypeId × Value → H} {W : World} {base : Nat} {held : Bool} {r : Reach} {b0 : Nat} {v : Value} {d : DataW H} {p : List MemPlace} {ts : List TypeId} {ds : List (DataW H)} {j : Nat}
    (hv : Value.okWide Try.prog W r b0 48 v) (h : DataW.Trod enc Try.prog W base (fun _ => true) held 48 v d p) (hsz : (DataW.weightsEach Try.prog ts ds).all (· ≤ reachBytes) = true) (ht : ts[j]? = some 48) (hd : ds[j]? = some d) :
    ∃ (n : Int) (s : Value) (l : List (Int × Int × Int)), v = .agg #[.int .i64 n, s] ∧ IsArcs W s l ∧ l.length * 24 ≤ 140737488351232 := by
  obtain ⟨v0, v1, y0, y1, k, rfl, rfl, rfl, h0, h1⟩ := open_agg2 Try.underlying48 Try.oneNet Try.cellsNet hv h
  obtain ⟨n, hn, _⟩ := DataW.trod_int Try.underlying3 h0
  simp only [List.cons.injEq, and_true] at hn
  subst hn
  obtain ⟨l, hl, hb⟩ := arcs_of_trod h1 (by
    refine List.all_eq_true.2 fun z hz => List.all_eq_true.1 hsz z (DataW.weights_mem_each ht hd z ?_)
    simp only [DataW.weights, Try.underlying48, List.map_cons, List.map_nil, DataW.weightsEach, List.mem_append]
    exact Or.inr (Or.inl hz))
  exact ⟨n, v1, l, rfl, hl, hb⟩

end Go.Proofs.Ytfflnpcbpcldeaa
