/- graph.order, cmp.Or: how two edges stand. -/
import Derived.Test.YtnhhohhhpaejmaaDoorShelf
import Derived.Test.YtnhhohhhpaejmaaDoorSortOwn
import Derived.Test.YtnhhohhhpaejmaaDoorRCheck
namespace Go.Proofs.YtnhhohhhpaejmaaDoor
open Go.RowKit Go.Sort

set_option maxHeartbeats 1600000 in
theorem or_two {a b r : Int} (hr : (if a = 0 then b else a) = r) (B : Nat) (w : World) (h0 : w.cell? ⟨B, 0, none⟩ = some (.int .i64 a)) (h1 : w.cell? ⟨B, 1, none⟩ = some (.int .i64 b)) :
    Calls Tryd.prog 60 #[.slice (some ⟨B, 0, none⟩) 2 2] w fun e w' => e = .returned (.int .i64 r) ∧ w' = w := by
  have HR := Lib.hid hr
  clear hr
  go_enter Tryd.func60, Tryd.ntmps60
  go_wp2
  go_loopg [8] 2 (fun g s8 wr => ∃ k : Nat, k ≤ 2 ∧ g = 2 - k ∧ s8 = .int .i64 k ∧ wr = w ∧ (1 ≤ k → a = 0) ∧ (2 ≤ k → b = 0))
  case atStart => exact ⟨0, by omega, rfl, rfl, rfl, by omega, by omega⟩
  case round =>
    obtain ⟨k, hk, rfl, rfl, rfl, ha, hb⟩ := hrel
    rcases (show k = 0 ∨ k = 1 ∨ k = 2 by omega) with rfl | rfl | rfl
    · by_cases e : a = 0
      · have q : (a != 0) = false := by simp [e]
        clear ha hb
        have E := Lib.hid e
        clear e
        go_wp2
        go_roundg 1
        case measure => omega
        case rel => exact ⟨1, by omega, rfl, by go_num, rfl, fun _ => E.out, by omega⟩
      · have q : (a != 0) = true := by simp [e]
        clear ha hb
        have E := Lib.hid e
        clear e
        go_wp2
        go_ret
        exact ⟨ret_int (by rw [← HR.out, if_neg E.out]), rfl⟩
    · have ha := ha (by omega)
      clear hb
      have HA := Lib.hid ha
      clear ha
      by_cases e : b = 0
      · have q : (b != 0) = false := by simp [e]
        have E := Lib.hid e
        clear e
        go_wp2
        go_roundg 0
        case measure => omega
        case rel => exact ⟨2, by omega, rfl, by go_num, rfl, fun _ => HA.out, fun _ => E.out⟩
      · have q : (b != 0) = true := by simp [e]
        clear e
        go_wp2
        go_ret
        exact ⟨ret_int (by rw [← HR.out, if_pos HA.out]), rfl⟩
    · have HA := Lib.hid (ha (by omega))
      have HB := Lib.hid (hb (by omega))
      clear ha hb
      go_wp2
      go_ret
      exact ⟨ret_int (by rw [← HR.out, if_pos HA.out, HB.out]), rfl⟩

set_option maxHeartbeats 1600000 in
set_option maxRecDepth 100000 in
theorem order_any (x y u v : Int) (W : World) : Calls Tryd.prog 51 #[.agg #[.int .i64 x, .int .i64 y], .agg #[.int .i64 u, .int .i64 v]] W fun e w' => e = .returned (.int .i64 (cmpE (x, y) (u, v))) ∧ ∃ q os', w' = grow (W.drewN q) os' := by
  have hcon := fun a b W' => Tryd.cmp_Compare_int a b W'
  change ∀ a b W', Calls Tryd.prog 61 _ _ _ at hcon
  unfold cmpE
  simp only
  have h1 := fun W' => hcon x u W'
  have h2 := fun W' => hcon y v W'
  clear hcon
  generalize Lib.compareInt x u = r1 at h1 ⊢
  generalize Lib.compareInt y v = r2 at h2 ⊢
  generalize hr : (if r1 = 0 then r2 else r1) = r
  have HR := Lib.hid hr
  clear hr
  go_enter Tryd.func51, Tryd.ntmps51
  go_upto_region 1 with fail
  refine region_tail 10 (by kernel_rfl) (by kernel_rfl) ?_
  simp only [List.take_succ_cons, List.take_zero, List.drop_succ_cons, List.drop_zero]
  repeat still_step
  still_call (h1 _)
  repeat still_step
  still_call (h2 _)
  repeat still_step
  refine wpStill_nil ?_
  go_wp2_with (go_at_call 60; refine (or_two HR.out _ _ (by go_simp) (by go_simp)).mono ?_; rintro e w2 ⟨rfl, rfl⟩)
  go_ret
  exact ⟨rfl, 1, _, by simp only [alloc_eq_grow, grow_grow]; rfl⟩

end Go.Proofs.YtnhhohhhpaejmaaDoor
