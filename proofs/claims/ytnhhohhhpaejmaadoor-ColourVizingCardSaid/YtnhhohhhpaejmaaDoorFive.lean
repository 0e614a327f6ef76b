/- arborlaw.five. -/
import Derived.Test.YtnhhohhhpaejmaaDoorPF
import Derived.Test.YtnhhohhhpaejmaaDoorSmallC
namespace Go.Proofs.YtnhhohhhpaejmaaDoor
open Go Go.RowKit

set_option maxHeartbeats 800000 in
set_option maxRecDepth 100000 in
theorem five_any (w : World) : Calls Tryd.prog 22 #[] w fun e w' => ∃ v, e = .returned (.agg #[.int .i64 5, v]) ∧ IsEdges w' v fiveL ∧ Below w.heap.size w w' := by
  go_enter Tryd.func22, Tryd.ntmps22
  go_wp2
  have c0 := two_cells w (.int .i64 5) (.slice (some ⟨w.heap.size + 1, 0, none⟩) 5 5) 24
  have hs := World.size_alloc w (Obj.cells #[.int .i64 5, .slice (some ⟨w.heap.size + 1, 0, none⟩) 5 5] 24)
  have hb := below1 w (Obj.cells #[.int .i64 5, .slice (some ⟨w.heap.size + 1, 0, none⟩) 5 5] 24)
  generalize w.alloc (Obj.cells #[.int .i64 5, .slice (some ⟨w.heap.size + 1, 0, none⟩) 5 5] 24) = w1 at *
  have hb2 := below1 w1 (Obj.cells #[.int .i64 0, .int .i64 1, .int .i64 1, .int .i64 2, .int .i64 2, .int .i64 3, .int .i64 3, .int .i64 4, .int .i64 0, .int .i64 4] 39)
  have e0 := below_cell hb2 c0.1
  have e1 := below_cell hb2 c0.2
  have hE : IsEdges (w1.alloc (Obj.cells #[.int .i64 0, .int .i64 1, .int .i64 1, .int .i64 2, .int .i64 2, .int .i64 3, .int .i64 3, .int .i64 4, .int .i64 0, .int .i64 4] 39)) (.slice (some ⟨w.heap.size + 1, 0, none⟩) 5 5) fiveL := by
    rw [← hs]
    refine ⟨_, 5, w1.heap.size, 0, rfl, Nat.le_refl _, by omega, fun _ => rfl, by simp, fun j hj => ?_⟩
    have hj5 : j < 5 := hj
    match j, hj5 with
    | 0, _ => exact ⟨by rw [World.cell?_alloc_at _ _ _ _ rfl]; rfl, by rw [World.cell?_alloc_at _ _ _ _ rfl]; rfl⟩
    | 1, _ => exact ⟨by rw [World.cell?_alloc_at _ _ _ _ rfl]; rfl, by rw [World.cell?_alloc_at _ _ _ _ rfl]; rfl⟩
    | 2, _ => exact ⟨by rw [World.cell?_alloc_at _ _ _ _ rfl]; rfl, by rw [World.cell?_alloc_at _ _ _ _ rfl]; rfl⟩
    | 3, _ => exact ⟨by rw [World.cell?_alloc_at _ _ _ _ rfl]; rfl, by rw [World.cell?_alloc_at _ _ _ _ rfl]; rfl⟩
    | 4, _ => exact ⟨by rw [World.cell?_alloc_at _ _ _ _ rfl]; rfl, by rw [World.cell?_alloc_at _ _ _ _ rfl]; rfl⟩
  exact bodyPost_ret (v := .agg #[.int .i64 5, .slice (some ⟨w.heap.size + 1, 0, none⟩) 5 5]) (by simp [results, Tryd.results22, go_sem, e0, e1]) rfl ⟨_, rfl, hE, hb.trans (hb2.mono hb.size)⟩

end Go.Proofs.YtnhhohhhpaejmaaDoor
