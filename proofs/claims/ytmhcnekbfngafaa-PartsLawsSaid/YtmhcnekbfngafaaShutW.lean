/- arborref.Shut and other; a table without an edge. -/
import Derived.Test.YtmhcnekbfngafaaReach
import Derived.Test.YtmhcnekbfngafaaParts
import Derived.Test.YtmhcnekbfngafaaPA
import Derived.Test.YtmhcnekbfngafaaWithout
namespace Go.Proofs.Ytmhcnekbfngafaa
open Go.RowKit

theorem HasGrid.congr {w : World} {v : Value} {n : Nat} {G H : Nat → Nat → Bool} (h : HasGrid w v n G) (e : ∀ i j, i < n → j < n → G i j = H i j) : HasGrid w v n H := by
  obtain ⟨B, a, cap, b, o, R, h1, h2, h3, h4⟩ := h
  exact ⟨B, a, cap, b, o, R, h1, h2, h3, h4.congr e⟩
/-- Without an edge: as the law has it. -/
theorem but_less {N : Nat} {G : Nat → Nat → Bool} (hG : Gr N G) {a b : Nat} (hab : a < b) {i j : Nat} (hi : i < N) (hj : j < N) : adj (butE (edG N G) (a : Int) (b : Int)) i j = lessG G a b i j := by
  rw [Bool.eq_iff_iff]
  unfold adj hasE lessG
  rw [List.any_eq_true]
  simp only [decide_eq_true_eq, Bool.and_eq_true, Bool.not_eq_true', Bool.or_eq_false_iff, decide_eq_false_iff_not]
  constructor
  · rintro ⟨e, he, hm⟩
    unfold butE at he
    rw [List.mem_filter] at he
    obtain ⟨x, y, hxy, hA, rfl⟩ := edG_iff.1 he.1
    have hne : ¬ (x = a ∧ y = b) := fun k => by have := of_decide_eq_true he.2; rw [k.1, k.2] at this; exact this rfl
    unfold Meets at hm
    simp only at hm
    have hm2 : (x = i ∧ y = j) ∨ (x = j ∧ y = i) := by omega
    rcases hm2 with ⟨rfl, rfl⟩ | ⟨rfl, rfl⟩
    · exact ⟨hA.2.2, hne, by omega⟩
    · exact ⟨(hG.nbs.sym _ _ hA).2.2, by omega, fun k => hne ⟨k.2, k.1⟩⟩
  · rintro ⟨hg, h1, h2⟩
    have hA : AG N G i j := ⟨hi, hj, hg⟩
    have hne : i ≠ j := fun e => hG.nbs.irr i (by rw [← e] at hA; exact hA)
    rcases Nat.lt_or_gt_of_ne hne with k | k
    · exact ⟨((i : Int), (j : Int)), List.mem_filter.2 ⟨edG_iff.2 ⟨i, j, k, hA, rfl⟩, decide_eq_true fun e => h1 (by simp only [Prod.mk.injEq, Int.ofNat_inj] at e; exact e)⟩, .inl ⟨rfl, rfl⟩⟩
    · exact ⟨((j : Int), (i : Int)), List.mem_filter.2 ⟨edG_iff.2 ⟨j, i, k, hG.nbs.sym _ _ hA, rfl⟩, decide_eq_true fun e => h2 (by simp only [Prod.mk.injEq, Int.ofNat_inj] at e; exact ⟨e.2, e.1⟩)⟩, .inr ⟨rfl, rfl⟩⟩
theorem parts_congr {N : Nat} {G H : Nat → Nat → Bool} {S : Nat → Bool} (e : ∀ i j, i < N → j < N → G i j = H i j) : partsF N G S = partsF N H S := by
  refine parts_same fun u v _ hv => ⟨fun k => ?_, fun k => ?_⟩
  · clear hv
    induction k with
    | refl => exact .refl
    | step _ h1 h2 h3 h4 ih => exact .step ih h1 h2 (by rw [← e _ _ h1 h2]; exact h3) h4
  · clear hv
    induction k with
    | refl => exact .refl
    | step _ h1 h2 h3 h4 ih => exact .step ih h1 h2 (by rw [e _ _ h1 h2]; exact h3) h4

set_option maxHeartbeats 800000 in
theorem shut_any (N v : Nat) (w : World) (hN : N ≤ 100) (hv : v < N) :
    Calls Try.prog 65 #[.int .i64 (N : Int), .int .i64 (v : Int)] w fun e w' => ∃ x, e = .returned x ∧ HasShut w' x (shut1 v) ∧ Below w.heap.size w w' := by
  have hmk := run_make_row' (P := Try.prog) 60 4 (.bool false) 1 Try.underlying60 info4 rfl .i64 .i64 N (by omega) (by omega)
  have hr1 := (World.rowIs_made w (.bool false) N 4).congr (g := rb fun _ => false) fun _ _ => rfl
  have hb1 := below1 w (.cells (madeCells #[.bool false] N) 4)
  have f0 := hr1.frozen v
  have l0 := hr1.lt
  have c0 := hr1.cell hv
  simp only [rb] at c0
  have Hr := Lib.hid (row_set_rb hr1 v true)
  have Hb := Lib.hid (hb1.setCell (p := ⟨w.heap.size, v, none⟩) (Nat.le_refl _) (.bool true))
  clear hr1 hb1
  go_enter Try.func65, Try.ntmps65
  go_upto_region 2 with fail
  clear hmk
  generalize w.alloc (.cells (madeCells #[.bool false] N) 4) = w1 at *
  go_wp2
  go_ret
  refine ⟨_, rfl, ⟨_, N, N, w.heap.size, 0, rfl, Nat.le_refl _, by omega, fun _ => rfl, fun j hj => ?_, fun j hj => ?_⟩, Hb.out⟩
  · rw [Nat.zero_add, Hr.out.cell hj]
    simp only [rb, shut1]
    by_cases e : j = v <;> simp [e]
  · unfold shut1; simp; omega

set_option maxHeartbeats 800000 in
theorem other_any (a b v : Nat) (w : World) :
    Calls Try.prog 82 #[.agg #[.int .i64 (a : Int), .int .i64 (b : Int)], .int .i64 (v : Int)] w fun e w' => e = .returned (.int .i64 (otherE ((a : Int), (b : Int)) v : Int)) ∧ Below w.heap.size w w' := by
  have hb1 := below1 w (Obj.cells #[.int .i64 (a : Int), .int .i64 (b : Int)] 61)
  obtain ⟨c0, c1⟩ := two_cells w (.int .i64 (a : Int)) (.int .i64 (b : Int)) 61
  have Hb1 := Lib.hid hb1
  clear hb1
  go_enter Try.func82, Try.ntmps82
  go_upto_region 1 with fail
  generalize w.alloc (Obj.cells #[.int .i64 (a : Int), .int .i64 (b : Int)] 61) = w1 at *
  by_cases h : a = v
  · have h2 : (a : Int) = (v : Int) := by omega
    have e : otherE ((a : Int), (b : Int)) v = b := by rw [otherE_pair, if_pos h]
    have He := Lib.hid e
    clear h e
    go_wp2
    go_ret
    exact ⟨by rw [He.out]; rfl, Hb1.out⟩
  · have h2 : ¬ (a : Int) = (v : Int) := by omega
    have e : otherE ((a : Int), (b : Int)) v = a := by rw [otherE_pair, if_neg h]
    have He := Lib.hid e
    clear h e
    go_wp2
    go_ret
    exact ⟨by rw [He.out]; rfl, Hb1.out⟩

end Go.Proofs.Ytmhcnekbfngafaa
