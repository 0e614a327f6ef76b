/- arborref.Clear: a ring without a chord is one. -/
import Derived.Test.YtnhhohhhpaejmaaRRingW
import Derived.Test.YtnhhohhhpaejmaaPA
namespace Go.Proofs.Ytnhhohhhpaejmaa
open Go Go.RowKit

set_option maxHeartbeats 1600000 in
set_option maxRecDepth 100000 in
theorem clear_yes (N : Nat) (G : Nat → Nat → Bool) (gv v : Value) (m : List Nat) (w : World) (hN : N ≤ 100) (hg : HasGrid w gv N G) (hm : IsInts w v (ints m)) (hr : HolR N G m) :
    Calls Try.prog 13 #[gv, v] w fun e w' => e = .returned (.bool true) ∧ Below w.heap.size w w' := by
  have HRing := Lib.hid (rring_any N G gv v m w hN hg hm ⟨by have := hr.ge; omega, hr.le, hr.lt, hr.nd, hr.on⟩)
  obtain ⟨Bg, ga, gc, gb, go', R, rfl, hgc, hga, hgrid⟩ := hg
  obtain ⟨a0, c0, b0, o0, rfl, hc1, hc2, had, -, hcell⟩ := hm
  rw [ints_length] at *
  have hn4 := hr.ge
  have hnl := hr.le
  obtain rfl := had (by omega)
  have hN0 : 0 < N := by have := hr.lt 0 (by omega); omega
  obtain rfl := (hga hN0).1
  have Hr := Lib.hid hr
  have Hc := Lib.hid (show ∀ j, j < m.length → w.cell? ⟨b0, o0 + j, none⟩ = some (.int .i64 ((m.getD j 0 : Nat) : Int)) from fun j hj => by
    have h1 := hcell j hj
    have h2 : (ints m).getD j 0 = ((m.getD j 0 : Nat) : Int) := by simp [ints, List.getD, List.getElem?_eq_getElem hj]
    rw [h2] at h1; exact h1)
  have Hgr := Lib.hid hgrid
  clear hgrid hga had hcell hr
  generalize hn : m.length = n at *
  have Hn := Lib.hid hn
  clear hn
  go_enter Try.func13, Try.ntmps13
  go_upto_region 3 with (go_at_call 35; refine HRing.out.mono ?_; rintro e w1 ⟨rfl, hb1⟩; have Hb1 := Lib.hid hb1; clear hb1)
  have Hc1 := Lib.hid (fun j hj => below_cell Hb1.out (Hc.out j hj))
  have Hg1 := Lib.hid (Hgr.out.below Hb1.out)
  clear Hc Hgr HRing
  go_wp2
  go_loopg [5, 6, 7] n (fun g s5 s6 s7 wr => ∃ i mm : Nat, i ≤ n ∧ g = n - i ∧ s5 = .int .i64 i ∧ wr = w1.drewN mm)
  case atStart => exact ⟨0, 0, Nat.zero_le _, rfl, rfl, rfl⟩
  case round =>
    obtain ⟨i, mm, hi, rfl, rfl, rfl⟩ := hrel
    by_cases hil : i < n
    · have ci := Hc1.out i hil
      have hiN := Hr.out.lt i (by rw [Hn.out]; exact hil)
      have t1 := Hg1.out.head _ hiN
      have Hno := Lib.hid (fun j hj h1 h2 => Hr.out.no i j (by rw [Hn.out]; exact hil) hj h1 (by rw [Hn.out]; exact h2))
      have Hcx := Lib.hid (fun j (hj : j < N) => Hg1.out.cell hiN hj)
      generalize m.getD i 0 = x at *
      go_wp2
      go_loopg [6, 7] i (fun g s6 s7 wr => ∃ j m2 : Nat, j ≤ i ∧ g = i - j ∧ s6 = .int .i64 j ∧ wr = w1.drewN m2)
      case atStart => exact ⟨0, mm, Nat.zero_le _, rfl, rfl, rfl⟩
      case round =>
        obtain ⟨j, m2, hj, rfl, rfl, rfl⟩ := hrel
        by_cases hjl : j < i
        · by_cases h1 : i = j + 1
          · have q1 : ((i : Int) - (j : Int) == 1) = true := by simp; omega
            clear h1
            go_wp2
            go_quiet (fail)
            go_wp2
            go_roundg (i - (j + 1))
            case measure => go_light; omega
            case rel => exact ⟨j + 1, m2 + nq, by omega, rfl, by go_num, rfl⟩
          · have q1 : ((i : Int) - (j : Int) == 1) = false := by simp; omega
            by_cases h2 : i + 1 = n ∧ j = 0
            · have q2 : ((i : Int) == (n : Int) - 1) = true := by simp; omega
              have q3 : ((j : Int) == 0) = true := by simp; omega
              clear h1 h2
              go_wp2
              go_quiet (fail)
              go_wp2
              go_roundg (i - (j + 1))
              case measure => go_light; omega
              case rel => exact ⟨j + 1, m2 + nq, by omega, rfl, by go_num, rfl⟩
            · have cj := Hc1.out j (by omega)
              have hjN := Hr.out.lt j (by rw [Hn.out]; omega)
              have cg := Hcx.out _ hjN
              rw [Hno.out j hjl h1 h2] at cg
              generalize m.getD j 0 = y at *
              by_cases h3 : i + 1 = n
              · have q2 : ((i : Int) == (n : Int) - 1) = true := by simp; omega
                have q3 : ((j : Int) == 0) = false := by simp; omega
                clear h1 h2 h3
                go_wp2
                go_quiet (fail)
                go_wp2
                go_roundg (i - (j + 1))
                case measure => go_light; omega
                case rel => exact ⟨j + 1, m2 + nq, by omega, rfl, by go_num, rfl⟩
              · have q2 : ((i : Int) == (n : Int) - 1) = false := by simp; omega
                clear h1 h2 h3
                go_wp2
                go_quiet (fail)
                go_wp2
                go_roundg (i - (j + 1))
                case measure => go_light; omega
                case rel => exact ⟨j + 1, m2 + nq, by omega, rfl, by go_num, rfl⟩
        · obtain rfl : j = i := by omega
          go_wp2
          go_roundg (n - (j + 1))
          case measure => go_light; omega
          case rel => exact ⟨j + 1, m2, by omega, rfl, by go_num, rfl⟩
    · obtain rfl : i = n := by omega
      go_wp2
      go_ret
      exact ⟨rfl, Below.drewN' Hb1.out _⟩

end Go.Proofs.Ytnhhohhhpaejmaa
