/- arborref.Same: are two graphs the same? -/
import Derived.Test.YtnhhohhhpaejmaaGCheck
import Derived.Test.YtnhhohhhpaejmaaPairEq
namespace Go.Proofs.Ytnhhohhhpaejmaa
open Go.RowKit

set_option maxHeartbeats 3200000 in
set_option maxRecDepth 100000 in
theorem same_any (l m : List (Int × Int)) (n p : Int) (s t : Value) (w : World) (h : IsEdges w s l) (h' : IsEdges w t m) :
    Calls Try.prog 34 #[.agg #[.int .i64 n, s], .agg #[.int .i64 p, t]] w fun e w' => e = .returned (.bool (decide (n = p ∧ l = m))) ∧ Below w.heap.size w w' := by
  obtain ⟨a, cap, bb, o, rfl, hcap, hmax, hadr, -, hcell⟩ := h
  obtain ⟨a', cap', bb', o', rfl, -, -, hadr', -, hcell'⟩ := h'
  have hb1 := below2 w (Obj.cells #[.int .i64 n, .slice a l.length cap] 24) (Obj.cells #[.int .i64 p, .slice a' m.length cap'] 24)
  have c0 := below_cell (below1 _ (Obj.cells #[.int .i64 p, .slice a' m.length cap'] 24)) (two_cells w (.int .i64 n) (.slice a l.length cap) 24).2
  have d0 := two_cells (w.alloc (Obj.cells #[.int .i64 n, .slice a l.length cap] 24)) (.int .i64 p) (.slice a' m.length cap') 24
  rw [World.size_alloc] at d0
  have Hb1 := Lib.hid hb1; have C0 := Lib.hid c0; have D0 := Lib.hid d0.2
  clear hb1 c0 d0
  by_cases hnp : n = p
  · have q1 : (n != p) = false := by simp [hnp]
    have q1' : (n == p) = true := by simp [hnp]
    by_cases hlm : l.length = m.length
    · have q2 : ((l.length : Int) != (m.length : Int)) = false := by rw [hlm]; simp
      have q2' : ((l.length : Int) == (m.length : Int)) = true := by rw [hlm]; simp
      have Hnp := Lib.hid hnp; have Hlm := Lib.hid hlm
      clear hnp hlm
      go_enter Try.func34, Try.ntmps34
      go_wp2
      generalize (w.alloc (Obj.cells #[.int .i64 n, .slice a l.length cap] 24)).alloc (Obj.cells #[.int .i64 p, .slice a' m.length cap'] 24) = w1 at *
      clear q1 q1' q2 q2'
      go_loopg [5] l.length (fun g s5 wr => ∃ k : Nat, k ≤ l.length ∧ g = l.length - k ∧ s5 = .int .i64 k ∧ Drew w1 wr ∧ ∀ j, j < k → l.getD j (0, 0) = m.getD j (0, 0))
      case atStart => exact ⟨0, Nat.zero_le _, rfl, rfl, Drew.refl _, fun _ h => absurd h (Nat.not_lt_zero _)⟩
      case round =>
        obtain ⟨k, hk, rfl, rfl, hd, hok⟩ := hrel
        have Hok := Lib.hid hok; clear hok
        have hb := hd.below (B := w1.heap.size)
        have c0 := below_cell hb C0.out
        have d0 := below_cell hb D0.out
        by_cases hlt : k < l.length
        · have hltm : k < m.length := by have := Hlm.out; omega
          obtain rfl := hadr (by omega)
          obtain rfl := hadr' (by omega)
          have hpe := pair_neq
          obtain ⟨x, y, He, cx, cy⟩ := edges_at hcell (Hb1.out.trans (hb.mono Hb1.out.size)) hlt
          obtain ⟨x', y', He', cx', cy'⟩ := edges_at hcell' (Hb1.out.trans (hb.mono Hb1.out.size)) hltm
          have Hd := Lib.hid hd
          clear hd hb hcell hcell' hadr hadr'
          by_cases hxy : x = x' ∧ y = y'
          · obtain ⟨rfl, rfl⟩ := hxy
            go_wp2
            go_quiet (fail)
            go_wp2
            go_roundg (l.length - (k + 1))
            case measure => go_light; omega
            case rel => exact ⟨k + 1, by omega, rfl, by go_num, Hd.out.add _, fun j hj => by
              by_cases e : j = k
              · rw [e, He.out, He'.out]
              · exact Hok.out j (by omega)⟩
          · have q3 : decide (x = x' ∧ y = y') = false := decide_eq_false hxy
            have Hxy := Lib.hid hxy
            clear hxy
            go_wp2
            go_quiet (fail)
            go_wp2
            go_ret
            refine ⟨ret_bool (decide_eq_false (fun e => Hxy.out ?_)).symm, Hb1.out.trans (Hd.out.add _).below⟩
            have h1 := He.out
            rw [e.2, He'.out] at h1
            simp only [Prod.mk.injEq] at h1
            exact ⟨h1.1.symm, h1.2.symm⟩
        · obtain rfl : l.length = k := by omega
          have Hd := Lib.hid hd
          clear hd hb hcell hcell' hadr hadr'
          go_wp2
          go_ret
          refine ⟨ret_bool (decide_eq_true ⟨Hnp.out, ?_⟩).symm, Hb1.out.trans Hd.out.below⟩
          refine List.ext_getElem Hlm.out fun j h1 h2 => ?_
          have := Hok.out j h1
          simpa [List.getD, h1, h2] using this
    · have q2 : ((l.length : Int) != (m.length : Int)) = true := by simp; omega
      have q2' : ((l.length : Int) == (m.length : Int)) = false := by simp; omega
      have Hnp := Lib.hid hnp; have Hlm := Lib.hid hlm
      clear hnp hlm
      go_enter Try.func34, Try.ntmps34
      go_wp2
      go_ret
      exact ⟨ret_bool (decide_eq_false (fun e => Hlm.out (by rw [e.2]))).symm, Hb1.out⟩
  · have q1 : (n != p) = true := by simp [hnp]
    have q1' : (n == p) = false := by simp [hnp]
    have Hnp := Lib.hid hnp
    clear hnp
    go_enter Try.func34, Try.ntmps34
    go_wp2
    go_ret
    exact ⟨ret_bool (decide_eq_false (fun e => Hnp.out e.1)).symm, Hb1.out⟩

end Go.Proofs.Ytnhhohhhpaejmaa
