/- arborlaw.flowBegun: the document's example of flow.Most. -/
import Derived.Test.YtbnbhjeknocboaaFlowW
namespace Go.Proofs.Ytbnbhjeknocboaa
open Go.RowKit

def begunNet : List (Int × Int × Int) := [(0, 1, 3), (1, 2, 2)]
theorem begunNet_arcs (w : World) : IsArcs (w.alloc (.cells #[.int .i64 0, .int .i64 1, .int .i64 3, .int .i64 1, .int .i64 2, .int .i64 2] 72)) (.slice (some ⟨w.heap.size, 0, none⟩) 2 2) begunNet := by
  refine ⟨_, 2, w.heap.size, 0, rfl, Nat.le_refl _, by omega, fun _ => rfl, by simp, fun j hj => ?_⟩
  have hj2 : j < 2 := hj
  match j, hj2 with
  | 0, _ => exact ⟨by rw [World.cell?_alloc_at _ _ _ _ rfl]; rfl, by rw [World.cell?_alloc_at _ _ _ _ rfl]; rfl, by rw [World.cell?_alloc_at _ _ _ _ rfl]; rfl⟩
  | 1, _ => exact ⟨by rw [World.cell?_alloc_at _ _ _ _ rfl]; rfl, by rw [World.cell?_alloc_at _ _ _ _ rfl]; rfl, by rw [World.cell?_alloc_at _ _ _ _ rfl]; rfl⟩
theorem begunNet_spec : MostSpec 3 begunNet 0 2 0 0 := by
  refine Or.inr ⟨Or.inr ⟨?_, Or.inr ⟨fun j hj => ?_, rfl, rfl⟩⟩, ?_⟩
  · unfold NetBig begunNet; simp
  · have hj2 : j < 2 := hj
    match j, hj2 with
    | 0, _ => exact ⟨by decide, by decide, by decide, by decide, by decide, by decide⟩
    | 1, _ => exact ⟨by decide, by decide, by decide, by decide, by decide, by decide⟩
  · unfold EndsSpec; omega

set_option maxHeartbeats 1600000 in
set_option maxRecDepth 100000 in
theorem flowBegun_any (w : World) : Calls Try.prog 26 #[] w fun e w' => e = .returned (.bool true) ∧ Below w.heap.size w w' := by
  have hb1 := below1 w (.cells #[.int .i64 0, .int .i64 1, .int .i64 3, .int .i64 1, .int .i64 2, .int .i64 2] 72)
  have E1 := Lib.hid (begunNet_arcs w)
  have Hb1 := Lib.hid hb1
  clear hb1
  go_enter Try.func26, Try.ntmps26
  go_wp2_with fail
  refine (fflow_any begunNet 3 0 2 _ _ E1.out).mono ?_
  rintro e w2 ⟨c, a, v, fv, sv, rfl, hsp, hb2, hres⟩
  obtain ⟨rfl, rfl⟩ := hsp.uniq begunNet_spec
  rcases hres with ⟨h, -⟩ | ⟨-, -, N, s', t', sum, X, lev, hN, hs', ht', rfl, hok, hf, hsd⟩
  · exact absurd rfl h
  · obtain rfl : N = 3 := by omega
    obtain rfl : s' = 0 := by omega
    obtain rfl : t' = 2 := by omega
    obtain rfl := most_begun hok
    have Hb2 := Lib.hid (Hb1.out.trans (hb2.mono Hb1.out.size))
    clear hok hf hsd hb2 hsp hN hs' ht'
    go_wp2
    go_ret
    exact ⟨rfl, Hb2.out.trans ((below1 _ _).mono Hb2.out.size)⟩

end Go.Proofs.Ytbnbhjeknocboaa
