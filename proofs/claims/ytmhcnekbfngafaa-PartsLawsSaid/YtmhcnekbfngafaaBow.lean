/- arborlaw.partsBegun answers true. -/
import Derived.Test.YtmhcnekbfngafaaCutW
import Derived.Test.YtmhcnekbfngafaaBase
namespace Go.Proofs.Ytmhcnekbfngafaa
open Go Go.RowKit

theorem upw {w a b : World} (h : Below w.heap.size w a) (k : Below a.heap.size a b) : Below w.heap.size w b := h.trans (k.mono h.size)

/-- Two triangles at one node. -/
def bowL : List (Int × Int) := [(0, 1), (1, 2), (0, 2), (2, 3), (3, 4), (2, 4)]
theorem bow_two : (blkD bowL 5).length = 2 := by decide +kernel
theorem bow_cuts : cutsL 5 (blkD bowL 5) = [2] := by decide +kernel
theorem bow_good : GoodGraph (5 : Nat) bowL := by
  have hs : GraphSpec ((5 : Nat) : Int) bowL 0 0 := Or.inr ⟨by unfold TooBig; simp [bowL], Or.inr ⟨fun j hj => by
    have hj6 : j < 6 := hj
    match j, hj6 with
    | 0, _ => exact ⟨by unfold EndsOk; simp [List.getD, bowL], by simp [List.getD, bowL], by decide⟩
    | 1, _ => exact ⟨by unfold EndsOk; simp [List.getD, bowL], by simp [List.getD, bowL], by decide⟩
    | 2, _ => exact ⟨by unfold EndsOk; simp [List.getD, bowL], by simp [List.getD, bowL], by decide⟩
    | 3, _ => exact ⟨by unfold EndsOk; simp [List.getD, bowL], by simp [List.getD, bowL], by decide⟩
    | 4, _ => exact ⟨by unfold EndsOk; simp [List.getD, bowL], by simp [List.getD, bowL], by decide⟩
    | 5, _ => exact ⟨by unfold EndsOk; simp [List.getD, bowL], by simp [List.getD, bowL], by decide⟩, rfl, rfl⟩⟩
  exact hs.good.1

set_option maxHeartbeats 800000 in
set_option maxRecDepth 100000 in
theorem bow_any (w : World) : Calls Try.prog 60 #[] w fun e w' => ∃ v, e = .returned (.agg #[.int .i64 5, v]) ∧ IsEdges w' v bowL ∧ Below w.heap.size w w' := by
  go_enter Try.func60, Try.ntmps60
  go_wp2
  have c0 := two_cells w (.int .i64 5) (.slice (some ⟨w.heap.size + 1, 0, none⟩) 6 6) 24
  have hs := World.size_alloc w (Obj.cells #[.int .i64 5, .slice (some ⟨w.heap.size + 1, 0, none⟩) 6 6] 24)
  have hb := below1 w (Obj.cells #[.int .i64 5, .slice (some ⟨w.heap.size + 1, 0, none⟩) 6 6] 24)
  generalize w.alloc (Obj.cells #[.int .i64 5, .slice (some ⟨w.heap.size + 1, 0, none⟩) 6 6] 24) = w1 at *
  have hb2 := below1 w1 (Obj.cells #[.int .i64 0, .int .i64 1, .int .i64 1, .int .i64 2, .int .i64 0, .int .i64 2, .int .i64 2, .int .i64 3, .int .i64 3, .int .i64 4, .int .i64 2, .int .i64 4] 61)
  have e0 := below_cell hb2 c0.1
  have e1 := below_cell hb2 c0.2
  have hE : IsEdges (w1.alloc (Obj.cells #[.int .i64 0, .int .i64 1, .int .i64 1, .int .i64 2, .int .i64 0, .int .i64 2, .int .i64 2, .int .i64 3, .int .i64 3, .int .i64 4, .int .i64 2, .int .i64 4] 61)) (.slice (some ⟨w.heap.size + 1, 0, none⟩) 6 6) bowL := by
    rw [← hs]
    refine ⟨_, 6, w1.heap.size, 0, rfl, Nat.le_refl _, by omega, fun _ => rfl, by simp, fun j hj => ?_⟩
    have hj6 : j < 6 := hj
    match j, hj6 with
    | 0, _ => exact ⟨by rw [World.cell?_alloc_at _ _ _ _ rfl]; rfl, by rw [World.cell?_alloc_at _ _ _ _ rfl]; rfl⟩
    | 1, _ => exact ⟨by rw [World.cell?_alloc_at _ _ _ _ rfl]; rfl, by rw [World.cell?_alloc_at _ _ _ _ rfl]; rfl⟩
    | 2, _ => exact ⟨by rw [World.cell?_alloc_at _ _ _ _ rfl]; rfl, by rw [World.cell?_alloc_at _ _ _ _ rfl]; rfl⟩
    | 3, _ => exact ⟨by rw [World.cell?_alloc_at _ _ _ _ rfl]; rfl, by rw [World.cell?_alloc_at _ _ _ _ rfl]; rfl⟩
    | 4, _ => exact ⟨by rw [World.cell?_alloc_at _ _ _ _ rfl]; rfl, by rw [World.cell?_alloc_at _ _ _ _ rfl]; rfl⟩
    | 5, _ => exact ⟨by rw [World.cell?_alloc_at _ _ _ _ rfl]; rfl, by rw [World.cell?_alloc_at _ _ _ _ rfl]; rfl⟩
  exact bodyPost_ret (v := .agg #[.int .i64 5, .slice (some ⟨w.heap.size + 1, 0, none⟩) 6 6]) (by simp [results, Try.results60, go_sem, e0, e1]) rfl ⟨_, rfl, hE, hb.trans (hb2.mono hb.size)⟩

set_option maxHeartbeats 1600000 in
set_option maxRecDepth 100000 in
theorem partsBegun_any (w : World) : Calls Try.prog 28 #[] w fun e w' => e = .returned (.bool true) ∧ Below w.heap.size w w' := by
  go_enter Try.func28, Try.ntmps28
  go_wp2_with fail
  refine (bow_any _).mono ?_
  rintro e w1 ⟨v, rfl, hE, hb1⟩
  have HE := Lib.hid hE; have Hb1 := Lib.hid hb1
  clear hE hb1
  go_wp2_with fail
  refine (pblocks_ok bow_good v w1 HE.out).mono ?_
  rintro e w2 ⟨v2, L, rfl, hk, hb2, hr⟩
  have hL : L.length = 2 := hr.length.trans bow_two
  obtain ⟨vals, k1, -⟩ := hk
  obtain ⟨aB, cB, rfl⟩ := ownsRow_form k1
  rw [hL]
  have hb3 := below1 w2 (Obj.cells #[.int .i64 0, .int .i64 0] 27)
  have e3 := two_cells w2 (.int .i64 0) (.int .i64 0) 27
  have f0 := e3.1
  have hz3 : w2.heap.size < (w2.alloc (Obj.cells #[.int .i64 0, .int .i64 0] 27)).heap.size := by rw [World.size_alloc]; omega
  have Hb3 := Lib.hid (upw Hb1.out (upw hb2 hb3))
  clear hr hb2 hb3 e3 k1 hL
  go_upto_region 2 with fail
  generalize w2.alloc (Obj.cells #[.int .i64 0, .int .i64 0] 27) = w3 at *
  generalize w2.heap.size = F1 at *
  go_wp2_with fail
  refine (bow_any _).mono ?_
  rintro e w4 ⟨v4, rfl, hE4, hb4⟩
  have f1 := below_cell hb4 f0
  have HE4 := Lib.hid hE4; have Hb4 := Lib.hid (upw Hb3.out hb4)
  clear hE4 hb4 f0
  go_wp2_with fail
  refine (pcuts_ok bow_good v4 w4 HE4.out).mono ?_
  rintro e w5 ⟨v5, rfl, ho5, hb5⟩
  rw [bow_cuts] at ho5
  have f2 := below_cell hb5 f1
  have hb6 := below1 w5 (Obj.cells #[.int .i64 0, .int .i64 0] 27)
  have f3 := below_cell hb6 f2
  have g3 := (two_cells w5 (.int .i64 0) (.int .i64 0) 27).1
  have hi : IsInts w5 v5 [2] := IsInts.owned (n := 1) (l := [2]) ho5
  have Hi := Lib.hid (hi.below hb6)
  have Hb6 := Lib.hid (upw Hb4.out (upw hb5 hb6))
  clear ho5 hi hb5 hb6 f1 f2
  go_upto_region 3 with fail
  generalize w5.alloc (Obj.cells #[.int .i64 0, .int .i64 0] 27) = w6 at *
  go_wp2_with fail
  have hb7 := below1 w6 (Obj.cells #[.int .i64 2] 3)
  have hl : IsInts (w6.alloc (Obj.cells #[.int .i64 2] 3)) (.slice (some ⟨w6.heap.size, 0, none⟩) 1 1) [2] := by
    refine ⟨_, 1, w6.heap.size, 0, rfl, Nat.le_refl _, by omega, fun _ => rfl, by simp, fun j hj => ?_⟩
    obtain rfl : j = 0 := by simpa using hj
    rw [World.cell?_alloc_at _ _ _ _ rfl]; rfl
  refine (ints_any _ _ _ _ _ (Hi.out.below hb7) hl).mono ?_
  rintro e w8 ⟨rfl, hd⟩
  rw [decide_eq_true rfl]
  have Hb8 := Lib.hid (upw Hb6.out (upw hb7 hd.below))
  clear hb7 hl hd
  go_wp2
  go_ret
  exact ⟨rfl, Hb8.out⟩

end Go.Proofs.Ytmhcnekbfngafaa
