/- arborlaw.ringOf: the ring of four; what chords.Order and chords.Cliques must tell of it. -/
import Derived.Test.YtnhhohhhpaejmaaCqxW
namespace Go.Proofs.Ytnhhohhhpaejmaa
open Go Go.RowKit

/-- The ring of four. -/
def fourG : List (Int × Int) := [(0, 1), (1, 2), (2, 3), (0, 3)]

set_option maxHeartbeats 800000 in
set_option maxRecDepth 100000 in
theorem fourG_any (w : World) : Calls Try.prog 33 #[] w fun e w' => ∃ v, e = .returned (.agg #[.int .i64 4, v]) ∧ IsEdges w' v fourG ∧ Below w.heap.size w w' := by
  go_enter Try.func33, Try.ntmps33
  go_wp2
  have c0 := two_cells w (.int .i64 4) (.slice (some ⟨w.heap.size + 1, 0, none⟩) 4 4) 24
  have hs := World.size_alloc w (Obj.cells #[.int .i64 4, .slice (some ⟨w.heap.size + 1, 0, none⟩) 4 4] 24)
  have hb := below1 w (Obj.cells #[.int .i64 4, .slice (some ⟨w.heap.size + 1, 0, none⟩) 4 4] 24)
  generalize w.alloc (Obj.cells #[.int .i64 4, .slice (some ⟨w.heap.size + 1, 0, none⟩) 4 4] 24) = w1 at *
  have hb2 := below1 w1 (Obj.cells #[.int .i64 0, .int .i64 1, .int .i64 1, .int .i64 2, .int .i64 2, .int .i64 3, .int .i64 0, .int .i64 3] 52)
  have e0 := below_cell hb2 c0.1
  have e1 := below_cell hb2 c0.2
  have hE : IsEdges (w1.alloc (Obj.cells #[.int .i64 0, .int .i64 1, .int .i64 1, .int .i64 2, .int .i64 2, .int .i64 3, .int .i64 0, .int .i64 3] 52)) (.slice (some ⟨w.heap.size + 1, 0, none⟩) 4 4) fourG := by
    rw [← hs]
    refine ⟨_, 4, w1.heap.size, 0, rfl, Nat.le_refl _, by omega, fun _ => rfl, by simp, fun j hj => ?_⟩
    have hj5 : j < 4 := hj
    match j, hj5 with
    | 0, _ => exact ⟨by rw [World.cell?_alloc_at _ _ _ _ rfl]; rfl, by rw [World.cell?_alloc_at _ _ _ _ rfl]; rfl⟩
    | 1, _ => exact ⟨by rw [World.cell?_alloc_at _ _ _ _ rfl]; rfl, by rw [World.cell?_alloc_at _ _ _ _ rfl]; rfl⟩
    | 2, _ => exact ⟨by rw [World.cell?_alloc_at _ _ _ _ rfl]; rfl, by rw [World.cell?_alloc_at _ _ _ _ rfl]; rfl⟩
    | 3, _ => exact ⟨by rw [World.cell?_alloc_at _ _ _ _ rfl]; rfl, by rw [World.cell?_alloc_at _ _ _ _ rfl]; rfl⟩
  exact bodyPost_ret (v := .agg #[.int .i64 4, .slice (some ⟨w.heap.size + 1, 0, none⟩) 4 4]) (by simp [results, Try.results33, go_sem, e0, e1]) rfl ⟨_, rfl, hE, hb.trans (hb2.mono hb.size)⟩

theorem four_spec : GraphSpec 4 fourG 0 0 := Or.inr ⟨by unfold TooBig; simp [fourG], Or.inr ⟨fun j hj => by
  have hj5 : j < 4 := hj
  match j, hj5 with
  | 0, _ => exact ⟨by unfold EndsOk; simp [List.getD, fourG], by simp [List.getD, fourG], by decide⟩
  | 1, _ => exact ⟨by unfold EndsOk; simp [List.getD, fourG], by simp [List.getD, fourG], by decide⟩
  | 2, _ => exact ⟨by unfold EndsOk; simp [List.getD, fourG], by simp [List.getD, fourG], by decide⟩
  | 3, _ => exact ⟨by unfold EndsOk; simp [List.getD, fourG], by simp [List.getD, fourG], by decide⟩, rfl, rfl⟩⟩
theorem four_small : SmallSpec 4 fourG 24 0 0 := Or.inr ⟨four_spec, Or.inr ⟨by omega, rfl, rfl⟩⟩
theorem four_simp (X : Nat → Bool) (hX : ∀ u, X u = false) : ∀ v, v < 4 → ¬ SimpAt 4 (adj fourG) X v := fun v hv h => by
  match v, hv with
  | 0, _ => exact absurd (h 1 3 (by omega) (by omega) (by omega) (hX _) (hX _) (by decide) (by decide)) (by decide)
  | 1, _ => exact absurd (h 0 2 (by omega) (by omega) (by omega) (hX _) (hX _) (by decide) (by decide)) (by decide)
  | 2, _ => exact absurd (h 1 3 (by omega) (by omega) (by omega) (hX _) (hX _) (by decide) (by decide)) (by decide)
  | 3, _ => exact absurd (h 0 2 (by omega) (by omega) (by omega) (hX _) (hX _) (by decide) (by decide)) (by decide)
theorem four_order {L : List Nat} (h : PerfI 4 (adj fourG) L) : L.length ≠ 4 := fun e => by
  have h0 := h.simp 0 (by omega)
  refine four_simp _ (fun u => by simp) _ (h.lt _ ?_) h0
  rw [List.getD, List.getElem?_eq_getElem (by omega)]
  exact List.getElem_mem _
theorem hol_len {N : Nat} {G : Nat → Nat → Bool} {m : List Nat} (h : HolR N G m) : m.length ≤ N := by
  have hn : m.Nodup := by
    rw [List.nodup_iff_pairwise_ne, List.pairwise_iff_getElem]
    intro i j hi hj hij e
    have := h.nd j i hj hij
    simp only [List.getD, List.getElem?_eq_getElem hi, List.getElem?_eq_getElem hj, Option.getD_some] at this
    exact this e.symm
  refine nodup_lt N m hn fun x hx => ?_
  obtain ⟨i, hi, rfl⟩ := List.mem_iff_getElem.1 hx
  have := h.lt i hi
  simpa only [List.getD, List.getElem?_eq_getElem hi, Option.getD_some] using this
def fourC : List (List Nat) := [[0, 1], [0, 3], [1, 2], [2, 3]]
def fourB (p : Nat → Bool) : Bool :=
  !((List.range 4).all fun u => (List.range 4).all fun v => u == v || !p u || !p v || adj fourG u v) || !((List.range 4).all fun u => p u || (List.range 4).any fun x => p x && !adj fourG u x) || fourC.contains ((List.range 4).filter p)
set_option maxRecDepth 100000 in
theorem four_b (b0 b1 b2 b3 : Bool) : fourB (fun u => [b0, b1, b2, b3].getD u false) = true := by
  cases b0 <;> cases b1 <;> cases b2 <;> cases b3 <;> decide
theorem four_all (p : Nat → Bool) (h : fourB p = true) (h1' : ∀ u, u < 4 → ∀ v, v < 4 → u ≠ v → p u = true → p v = true → adj fourG u v = true)
    (h2' : ∀ u, u < 4 → p u = false → ∃ x, x < 4 ∧ p x = true ∧ adj fourG u x = false) : (List.range 4).filter p ∈ fourC := by
  unfold fourB at h
  rw [Bool.or_eq_true, Bool.or_eq_true] at h
  rcases h with (h | h) | h
  · exfalso
    rw [Bool.not_eq_true', List.all_eq_false] at h
    obtain ⟨u, hu, h⟩ := h
    apply h
    rw [List.all_eq_true]
    intro v hv
    rw [List.mem_range] at hu hv
    by_cases e : u = v
    · simp [e]
    · cases hpu : p u <;> cases hpv : p v <;> simp [e]
      exact h1' u hu v hv e hpu hpv
  · exfalso
    rw [Bool.not_eq_true', List.all_eq_false] at h
    obtain ⟨u, hu, h⟩ := h
    apply h
    rw [List.mem_range] at hu
    cases hpu : p u with
    | true => rfl
    | false =>
      obtain ⟨x, hx, h3, h4⟩ := h2' u hu hpu
      rw [Bool.false_or, List.any_eq_true]
      exact ⟨x, List.mem_range.2 hx, by rw [h3, h4]; rfl⟩
  · exact List.contains_iff_mem.1 h
theorem four_cqs : IsCqs 4 (adj fourG) fourC := by
  refine ⟨by unfold fourC; decide, fun K => ⟨fun h => ?_, fun ⟨h, _⟩ => ?_⟩⟩
  · have hK : K = [0, 1] ∨ K = [0, 3] ∨ K = [1, 2] ∨ K = [2, 3] := by simpa [fourC] using h
    rcases hK with rfl | rfl | rfl | rfl
    · exact ⟨⟨by decide, by decide, by decide, by decide⟩, by decide⟩
    · exact ⟨⟨by decide, by decide, by decide, by decide⟩, by decide⟩
    · exact ⟨⟨by decide, by decide, by decide, by decide⟩, by decide⟩
    · exact ⟨⟨by decide, by decide, by decide, by decide⟩, by decide⟩
  · have hp : ∀ u, u < 4 → [decide (0 ∈ K), decide (1 ∈ K), decide (2 ∈ K), decide (3 ∈ K)].getD u false = decide (u ∈ K) := fun u hu => by
      match u, hu with
      | 0, _ => rfl
      | 1, _ => rfl
      | 2, _ => rfl
      | 3, _ => rfl
    have hf := four_all (fun u => [decide (0 ∈ K), decide (1 ∈ K), decide (2 ∈ K), decide (3 ∈ K)].getD u false) (four_b _ _ _ _) (fun u hu v hv hne h1 h2 => by
      rw [hp u hu, decide_eq_true_eq] at h1
      rw [hp v hv, decide_eq_true_eq] at h2
      exact h.clq u h1 v h2 hne) (fun u hu h1 => by
      rw [hp u hu, decide_eq_false_iff_not] at h1
      obtain ⟨x, hx, hg⟩ := h.top u hu h1
      exact ⟨x, h.lt x hx, by rw [hp x (h.lt x hx), decide_eq_true_eq]; exact hx, hg⟩)
    have e : (List.range 4).filter (fun u => [decide (0 ∈ K), decide (1 ∈ K), decide (2 ∈ K), decide (3 ∈ K)].getD u false) = K := by
      refine asc_ext (List.Pairwise.filter _ (by decide)) h.asc fun x => ?_
      rw [List.mem_filter, List.mem_range]
      constructor
      · rintro ⟨h1, h2⟩
        rw [hp x h1, decide_eq_true_eq] at h2; exact h2
      · intro hx
        have := h.lt x hx
        exact ⟨this, by rw [hp x this, decide_eq_true_eq]; exact hx⟩
    rw [e] at hf; exact hf
end Go.Proofs.Ytnhhohhhpaejmaa
