/- arborlaw.polyBegun answers true. -/
import Derived.Test.YtmhcnekbfngafaaLists
import Derived.Test.YtmhcnekbfngafaaFullS
import Derived.Test.YtmhcnekbfngafaaTutteW
namespace Go.Proofs.Ytmhcnekbfngafaa
open Go Go.RowKit

def triE : EL := [(0, 1), (0, 2), (1, 2)]
theorem full_el : elN (fullE 3) = triE := by decide
theorem tri_dims : IsDims (tutN id triE) 3 2 where
  lt := fun i j h => by
    by_cases e : i ≤ 3 ∧ j ≤ 3
    · have key : ∀ i, i ≤ 3 → ∀ j, j ≤ 3 → tutN id triE i j ≠ 0 → i < 3 ∧ j < 2 := by decide
      exact key i e.1 j e.2 h
    · exact absurd (tut_far triE id i j (by show 3 < i ∨ 3 < j; omega)) h
  row := fun r e => by
    have : r = 2 := by omega
    subst this
    exact ⟨0, by decide⟩
  col := fun r e => by
    have : r = 1 := by omega
    subst this
    exact ⟨0, by decide⟩
theorem ints_two (w : World) (a b : Int) (t : TypeId) : IsInts (w.alloc (.cells #[.int .i64 a, .int .i64 b] t)) (.slice (some ⟨w.heap.size, 0, none⟩) 2 2) [a, b] := by
  refine ⟨_, 2, w.heap.size, 0, rfl, Nat.le_refl _, by omega, fun _ => rfl, by simp, fun j hj => ?_⟩
  have hj2 : j < 2 := hj
  match j, hj2 with
  | 0, _ => rw [World.cell?_alloc_at _ _ _ _ rfl]; rfl
  | 1, _ => rw [World.cell?_alloc_at _ _ _ _ rfl]; rfl
theorem rows_three (w : World) (a b c d e f : Int) (t u : TypeId) :
    IsRows ((((w.alloc (.cells #[.int .i64 a, .int .i64 b] t)).alloc (.cells #[.int .i64 c, .int .i64 d] t)).alloc (.cells #[.int .i64 e, .int .i64 f] t)).alloc (.cells #[.slice (some ⟨w.heap.size, 0, none⟩) 2 2, .slice (some ⟨w.heap.size + 1, 0, none⟩) 2 2, .slice (some ⟨w.heap.size + 1 + 1, 0, none⟩) 2 2] u))
      (.slice (some ⟨w.heap.size + 1 + 1 + 1, 0, none⟩) 3 3) [[a, b], [c, d], [e, f]] := by
  have h1 := ints_two w a b t
  have h2 := ints_two (w.alloc (.cells #[.int .i64 a, .int .i64 b] t)) c d t
  have h3 := ints_two ((w.alloc (.cells #[.int .i64 a, .int .i64 b] t)).alloc (.cells #[.int .i64 c, .int .i64 d] t)) e f t
  rw [World.size_alloc] at h2
  rw [World.size_alloc, World.size_alloc] at h3
  have h1 := ((h1.below (below1 _ (.cells #[.int .i64 c, .int .i64 d] t))).below (below1 _ (.cells #[.int .i64 e, .int .i64 f] t)))
  have h2 := h2.below (below1 _ (.cells #[.int .i64 e, .int .i64 f] t))
  generalize hW : ((w.alloc (.cells #[.int .i64 a, .int .i64 b] t)).alloc (.cells #[.int .i64 c, .int .i64 d] t)).alloc (.cells #[.int .i64 e, .int .i64 f] t) = W at *
  have hs : w.heap.size + 1 + 1 + 1 = W.heap.size := by rw [← hW]; simp
  rw [hs]
  refine ⟨_, 3, W.heap.size, 0, rfl, Nat.le_refl _, by omega, fun _ => rfl, by simp, fun j hj => ?_⟩
  have hj3 : j < 3 := hj
  match j, hj3 with
  | 0, _ => exact ⟨_, by rw [World.cell?_alloc_at _ _ _ _ rfl]; rfl, h1.below (below1 _ _)⟩
  | 1, _ => exact ⟨_, by rw [World.cell?_alloc_at _ _ _ _ rfl]; rfl, h2.below (below1 _ _)⟩
  | 2, _ => exact ⟨_, by rw [World.cell?_alloc_at _ _ _ _ rfl]; rfl, h3.below (below1 _ _)⟩
theorem tri_tab : tabL (tutN id triE) 3 2 = [[0, 1], [1, 0], [1, 0]] := by decide
theorem tri_spec : GraphSpec 3 (fullE 3) 0 0 := by
  have e : fullE 3 = [(0, 1), (0, 2), (1, 2)] := by decide
  rw [e]
  refine Or.inr ⟨by unfold TooBig; simp, Or.inr ⟨fun j hj => ?_, rfl, rfl⟩⟩
  have hj3 : j < 3 := hj
  match j, hj3 with
  | 0, _ => exact ⟨by unfold EndsOk; simp [List.getD], by simp [List.getD], by decide⟩
  | 1, _ => exact ⟨by unfold EndsOk; simp [List.getD], by simp [List.getD], by decide⟩
  | 2, _ => exact ⟨by unfold EndsOk; simp [List.getD], by simp [List.getD], by decide⟩
theorem tri_answer {c a : Int} {ll : List (List Int)} (h : TutSpec 3 (fullE 3) c a ll) : c = 0 ∧ a = 0 ∧ ll = [[0, 1], [1, 0], [1, 0]] := by
  rcases h with ⟨h1, h2, -⟩ | ⟨-, h2, -⟩ | ⟨-, -, h3, h4, R, C, h5, h6⟩
  · exact absurd (h1.uniq tri_spec).1 h2
  · exact absurd h2 (by decide)
  · rw [full_el] at h5 h6
    obtain ⟨rfl, rfl⟩ := h5.uniq tri_dims
    exact ⟨h3, h4, h6.trans tri_tab⟩

set_option maxHeartbeats 1600000 in
set_option maxRecDepth 100000 in
theorem polyBegun_any (w : World) : Calls Try.prog 14 #[] w fun e w' => e = .returned (.bool true) ∧ Below w.heap.size w w' := by
  go_enter Try.func14, Try.ntmps14
  go_wp2_with fail
  refine (full_any 3 w (by omega)).mono ?_
  rintro e w1 ⟨v, rfl, hE, hb1⟩
  have HE := Lib.hid hE; have Hb1 := Lib.hid hb1
  clear hE hb1
  go_wp2_with fail
  refine (tutteP_any 3 (fullE 3) v w1 HE.out).mono ?_
  rintro e w2 ⟨c, a, v2, ll, rfl, hi, hsp, hb2⟩
  obtain ⟨rfl, rfl, rfl⟩ := tri_answer hsp
  have hb3 := below1 w2 (Obj.cells #[.int .i64 0, .int .i64 0] 27)
  have e3 := two_cells w2 (.int .i64 0) (.int .i64 0) 27
  have f0 := e3.1
  have Hi := Lib.hid (hi.below hb3)
  have Hb3 := Lib.hid (upp0 Hb1.out (upp0 hb2 hb3))
  clear hsp hi hb2 hb3 e3
  go_upto_region 2 with fail
  generalize w2.alloc (Obj.cells #[.int .i64 0, .int .i64 0] 27) = w3 at *
  go_wp2_with fail
  have hr := rows_three w3 0 1 1 0 1 0 3 39
  have hb4 := upp0 (upp0 (upp0 (below1 w3 (Obj.cells #[.int .i64 0, .int .i64 1] 3)) (below1 _ (Obj.cells #[.int .i64 1, .int .i64 0] 3))) (below1 _ (Obj.cells #[.int .i64 1, .int .i64 0] 3))) (below1 _ (Obj.cells #[.slice (some ⟨w3.heap.size, 0, none⟩) 2 2, .slice (some ⟨w3.heap.size + 1, 0, none⟩) 2 2, .slice (some ⟨w3.heap.size + 1 + 1, 0, none⟩) 2 2] 39))
  refine (lists_any _ _ _ _ _ (Hi.out.below hb4) hr).mono ?_
  rintro e w5 ⟨rfl, hd⟩
  rw [decide_eq_true rfl]
  have Hb5 := Lib.hid (upp0 Hb3.out (upp0 hb4 hd.below))
  clear hb4 hr hd
  go_wp2
  go_ret
  exact ⟨rfl, Hb5.out⟩

end Go.Proofs.Ytmhcnekbfngafaa
