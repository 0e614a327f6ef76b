/- arborlaw.assignBegun: the walk. -/
import Derived.Test.YtfccfmjamdpeaaaABegun
namespace Go.Proofs.Ytfccfmjamdpeaaa
open Go.RowKit

/-- Two rows of two, as a literal lays them. -/
theorem rows_lit (w : World) (x0 x1 y0 y1 : Int) :
    IsRows (((w.alloc (Obj.cells #[Value.int IntKind.i64 x0, Value.int IntKind.i64 x1] 3)).alloc (Obj.cells #[Value.int IntKind.i64 y0, Value.int IntKind.i64 y1] 3)).alloc
      (Obj.cells #[Value.slice (some ⟨w.heap.size, 0, none⟩) 2 2, Value.slice (some ⟨w.heap.size + 1, 0, none⟩) 2 2] 51)) (.slice (some ⟨w.heap.size + 1 + 1, 0, none⟩) 2 2) [[x0, x1], [y0, y1]] := by
  have e1 : (w.alloc (Obj.cells #[Value.int IntKind.i64 x0, Value.int IntKind.i64 x1] 3)).heap.size = w.heap.size + 1 := by simp
  have e2 : ((w.alloc (Obj.cells #[Value.int IntKind.i64 x0, Value.int IntKind.i64 x1] 3)).alloc (Obj.cells #[Value.int IntKind.i64 y0, Value.int IntKind.i64 y1] 3)).heap.size = w.heap.size + 1 + 1 := by simp
  have h1 := (IsInts.two _ _ x0 x1 (heap_alloc_new w _)).below (below2 _ (Obj.cells #[Value.int IntKind.i64 y0, Value.int IntKind.i64 y1] 3) (Obj.cells #[Value.slice (some ⟨w.heap.size, 0, none⟩) 2 2, Value.slice (some ⟨w.heap.size + 1, 0, none⟩) 2 2] 51))
  have h2 := (IsInts.two _ _ y0 y1 (heap_alloc_new (w.alloc (Obj.cells #[Value.int IntKind.i64 x0, Value.int IntKind.i64 x1] 3)) _)).below (below1 _ (Obj.cells #[Value.slice (some ⟨w.heap.size, 0, none⟩) 2 2, Value.slice (some ⟨w.heap.size + 1, 0, none⟩) 2 2] 51))
  have h3 := heap_alloc_new ((w.alloc (Obj.cells #[Value.int IntKind.i64 x0, Value.int IntKind.i64 x1] 3)).alloc (Obj.cells #[Value.int IntKind.i64 y0, Value.int IntKind.i64 y1] 3)) (Obj.cells #[Value.slice (some ⟨w.heap.size, 0, none⟩) 2 2, Value.slice (some ⟨w.heap.size + 1, 0, none⟩) 2 2] 51)
  rw [e1] at h2
  rw [e2] at h3
  exact IsRows.two _ _ _ _ _ _ h3 h1 h2

set_option maxHeartbeats 1600000 in
theorem assignBegun_any (w : World) :
    Calls Try.prog 37 #[] w fun e w' => e = .returned (.bool true) ∧ Below w.heap.size w w' := by
  have hr0 := rows_lit w 1 2 3 5
  have Hr0 := Lib.hid hr0
  clear hr0
  go_enter Try.func37, Try.ntmps37
  go_wp2_with fail
  refine (least_begun _ _ Hr0.out).mono ?_
  rintro e w1 ⟨hb1, t, p, q, rfl⟩
  have hb0 : Below w.heap.size w w1 := (((Below.refl _ _).alloc (Nat.le_refl _) _).alloc (by simp) _).alloc (by simp; omega) _ |>.trans (hb1.mono (by simp; omega))
  have Hb0 := Lib.hid hb0
  clear hb0 hb1
  have r1 := rows_lit (w1.alloc (Obj.cells #[Value.int IntKind.i64 0, Value.int IntKind.i64 0] 27)) 0 1 0 1
  rw [World.size_alloc] at r1
  have R1 := Lib.hid r1
  clear r1
  go_wp2_with fail
  have r2 := rows_lit ((((w1.alloc (Obj.cells #[Value.int IntKind.i64 0, Value.int IntKind.i64 0] 27)).alloc (Obj.cells #[Value.int IntKind.i64 0, Value.int IntKind.i64 1] 3)).alloc (Obj.cells #[Value.int IntKind.i64 0, Value.int IntKind.i64 1] 3)).alloc
    (Obj.cells #[Value.slice (some ⟨w1.heap.size + 1, 0, none⟩) 2 2, Value.slice (some ⟨w1.heap.size + 1 + 1, 0, none⟩) 2 2] 51)) 1 0 0 1
  simp only [World.size_alloc] at r2
  refine (stable_begun _ _ _ (R1.out.below ((below2 _ _ _).alloc (by simp only [World.size_alloc]; omega) _)) r2).mono ?_
  rintro e w2 ⟨hb2, r, hI, rfl⟩
  simp only [World.size_alloc] at hb2
  have hz : w1.heap.size < w2.heap.size := by have := hb2.size; simp only [World.size_alloc] at this; omega
  have hb01 : Below (w1.heap.size + 1) (w1.alloc (Obj.cells #[Value.int IntKind.i64 0, Value.int IntKind.i64 0] 27)) w2 := by
    have h0 : Below (w1.heap.size + 1) (w1.alloc (Obj.cells #[Value.int IntKind.i64 0, Value.int IntKind.i64 0] 27)) (w1.alloc (Obj.cells #[Value.int IntKind.i64 0, Value.int IntKind.i64 0] 27)) := Below.refl _ _
    have h1 := h0.alloc (by simp) (Obj.cells #[Value.int IntKind.i64 0, Value.int IntKind.i64 1] 3)
    have h2 := h1.alloc (by simp only [World.size_alloc]; omega) (Obj.cells #[Value.int IntKind.i64 0, Value.int IntKind.i64 1] 3)
    have h3 := h2.alloc (by simp only [World.size_alloc]; omega) (Obj.cells #[Value.slice (some ⟨w1.heap.size + 1, 0, none⟩) 2 2, Value.slice (some ⟨w1.heap.size + 1 + 1, 0, none⟩) 2 2] 51)
    have h4 := h3.alloc (by simp only [World.size_alloc]; omega) (Obj.cells #[Value.int IntKind.i64 1, Value.int IntKind.i64 0] 3)
    have h5 := h4.alloc (by simp only [World.size_alloc]; omega) (Obj.cells #[Value.int IntKind.i64 0, Value.int IntKind.i64 1] 3)
    have h6 := h5.alloc (by simp only [World.size_alloc]; omega) (Obj.cells #[Value.slice (some ⟨w1.heap.size + 1 + 1 + 1 + 1, 0, none⟩) 2 2, Value.slice (some ⟨w1.heap.size + 1 + 1 + 1 + 1 + 1, 0, none⟩) 2 2] 51)
    exact h6.trans (hb2.mono (by omega))
  have cF : w2.cell? ⟨w1.heap.size, 0, none⟩ = some (.int .i64 0) := by
    rw [hb01.cell (p := ⟨w1.heap.size, 0, none⟩) (by show w1.heap.size < _; omega)]
    exact (F1.start w1).hz.cell (show 0 < 2 by omega)
  have hb02 : Below w.heap.size w w2 := (Hb0.out.trans (below1 w1 _ |>.mono Hb0.out.size)).trans (hb01.mono (by have := Hb0.out.size; omega))
  have Hb02 := Lib.hid hb02
  have hI2 := hI.below (below2 w2 (Obj.cells #[Value.int IntKind.i64 0, Value.int IntKind.i64 0] 27) (Obj.cells #[Value.int IntKind.i64 1, Value.int IntKind.i64 0] 3))
  have hJ := IsInts.two _ _ 1 0 (heap_alloc_new (w2.alloc (Obj.cells #[Value.int IntKind.i64 0, Value.int IntKind.i64 0] 27)) (Obj.cells #[Value.int IntKind.i64 1, Value.int IntKind.i64 0] 3))
  rw [World.size_alloc] at hJ
  have HI2 := Lib.hid hI2; have HJ := Lib.hid hJ
  clear hb2 hb01 hb02 hI hI2 hJ r2
  go_wp2_with (go_at_call 52; refine (ints_is [1, 0] [1, 0] _ _ _ HI2.out HJ.out rfl).mono ?_; rintro e w3 ⟨rfl, hd⟩)
  go_ret
  exact ⟨rfl, (Hb02.out.trans (below2 w2 _ _ |>.mono Hb02.out.size)).trans (hd.below)⟩

end Go.Proofs.Ytfccfmjamdpeaaa
