/- arborref.IsClique, arborref.Before2. -/
import Derived.Test.YtnhhohhhpaejmaaPG
import Derived.Test.YtnhhohhhpaejmaaPE
import Derived.Test.YtnhhohhhpaejmaaHasGrid
import Derived.BigQuiet
import Derived.Deep.LoopGhost
import Derived.Deep.Light
namespace Go.Proofs.Ytnhhohhhpaejmaa
open Go Go.RowKit

/-- What has been seen to be near. -/
def ClqT (G : Nat → Nat → Bool) (s i j : Nat) : Prop := ∀ v w, w < v → (v < i ∨ (v = i ∧ w < j)) → s.testBit v = true → s.testBit w = true → G v w = true
theorem ClqT.step {G : Nat → Nat → Bool} {s i j : Nat} (h : ClqT G s i j) (hn : s.testBit i = true → s.testBit j = true → G i j = true) : ClqT G s i (j + 1) := fun v w hw hc b1 b2 => by
  by_cases e : v = i ∧ w = j
  · obtain ⟨rfl, rfl⟩ := e
    exact hn b1 b2
  · exact h v w hw (by omega) b1 b2
theorem ClqT.row {G : Nat → Nat → Bool} {s i : Nat} (h : ClqT G s i i) : ClqT G s (i + 1) 0 := fun v w hw hc b1 b2 => h v w hw (by omega) b1 b2
theorem ClqT.all {N : Nat} {G : Nat → Nat → Bool} {s : Nat} (h : ClqT G s N 0) : ClqS N G s := fun v w hv hw b1 b2 => h v w hw (by omega) b1 b2
/-- What arborref.IsClique answers. -/
def IsqPost (N : Nat) (G : Nat → Nat → Bool) (s : Nat) (w : World) (e : Ending) (w' : World) : Prop :=
  ∃ b : Bool, e = .returned (.bool b) ∧ (b = true → ClqS N G s) ∧ (b = false → ¬ ClqS N G s) ∧ w' = w

set_option maxHeartbeats 1600000 in
set_option maxRecDepth 100000 in
theorem isq_any (N : Nat) (G : Nat → Nat → Bool) (gv : Value) (s : Nat) (w : World) (hN : N ≤ 62) (hs : Few s) (hg : HasGrid w gv N G) :
    Calls Try.prog 40 #[gv, .int .i64 (s : Int)] w (IsqPost N G s w) := by
  obtain ⟨Bg, ga, gc, gb, go', R, rfl, hgc, hga, hgrid⟩ := hg
  have Hgr := Lib.hid hgrid; have Hga := Lib.hid hga
  clear hgrid hga
  go_enter Try.func40, Try.ntmps40
  go_wp2
  go_loopg [5, 6] N (fun g s5 s6 wr => ∃ i : Nat, i ≤ N ∧ g = N - i ∧ s5 = .int .i64 (i : Int) ∧ wr = w ∧ ClqT G s i 0)
  case atStart => exact ⟨0, Nat.zero_le _, rfl, rfl, rfl, fun v w _ h => by omega⟩
  case round =>
    obtain ⟨i, hi, rfl, rfl, rfl, hno⟩ := hrel
    have Hno := Lib.hid hno
    clear hno
    by_cases hil : i < N
    · obtain rfl := (Hga.out (by omega)).1
      have hi1 := Hgr.out.head _ hil
      go_wp2
      go_loopg [6] i (fun g s6 wr2 => ∃ j : Nat, j ≤ i ∧ g = i - j ∧ s6 = .int .i64 (j : Int) ∧ wr2 = wr ∧ ClqT G s i j)
      case atStart => exact ⟨0, Nat.zero_le _, rfl, rfl, rfl, Hno.out⟩
      case round =>
        obtain ⟨j, hj, rfl, rfl, hwr, hno⟩ := hrel
        subst hwr
        have Hno := Lib.hid hno
        clear hno
        by_cases hjl : j < i
        · have cij := Hgr.out.cell hil (show j < N by omega)
          have e1 := op_shr s i
          have e2 := op_shr s j
          have e3 := op_bit (v := i) hs
          have e4 := op_bit (v := j) hs
          cases b1 : s.testBit i with
          | false =>
            have Hb := Lib.hid b1
            rw [bit_zero b1, show ((0 : Nat) : Int) = 0 from rfl] at e3
            clear b1 e4 e2
            generalize shr s i = si at *
            go_wp2
            go_roundg (i - (j + 1))
            case measure => go_light; omega
            case rel => exact ⟨j + 1, by omega, rfl, by go_num, rfl, Hno.out.step fun h => by rw [Hb.out] at h; cases h⟩
          | true =>
            have Hb := Lib.hid b1
            rw [bit_one b1, show ((1 : Nat) : Int) = 1 from rfl] at e3
            clear b1
            generalize shr s i = si at *
            cases b2 : s.testBit j with
            | false =>
              have Hb2 := Lib.hid b2
              rw [bit_zero b2, show ((0 : Nat) : Int) = 0 from rfl] at e4
              clear b2
              generalize shr s j = sj at *
              go_wp2
              go_roundg (i - (j + 1))
              case measure => go_light; omega
              case rel => exact ⟨j + 1, by omega, rfl, by go_num, rfl, Hno.out.step fun _ h => by rw [Hb2.out] at h; cases h⟩
            | true =>
              have Hb2 := Lib.hid b2
              rw [bit_one b2, show ((1 : Nat) : Int) = 1 from rfl] at e4
              clear b2
              generalize shr s j = sj at *
              cases hg : G i j with
              | true =>
                rw [hg] at cij
                have Hgg := Lib.hid hg
                clear hg
                go_wp2
                go_roundg (i - (j + 1))
                case measure => go_light; omega
                case rel => exact ⟨j + 1, by omega, rfl, by go_num, rfl, Hno.out.step fun _ _ => Hgg.out⟩
              | false =>
                rw [hg] at cij
                have Hgg := Lib.hid hg
                clear hg
                go_wp2
                go_ret
                exact ⟨false, rfl, (fun h => by cases h), (fun _ hc => by have := hc i j hil hjl Hb.out Hb2.out; rw [Hgg.out] at this; cases this), rfl⟩
        · obtain rfl : j = i := by omega
          go_wp2
          go_roundg (N - (j + 1))
          case measure => go_light; omega
          case rel => exact ⟨j + 1, by omega, rfl, by go_num, rfl, Hno.out.row⟩
    · obtain rfl : i = N := by omega
      go_wp2
      go_ret
      exact ⟨true, rfl, fun _ => Hno.out.all, (fun h => by cases h), rfl⟩

set_option maxHeartbeats 1600000 in
set_option maxRecDepth 100000 in
theorem bef_any {lv mv : Value} {L M : List Int} (w : World) (hl : IsInts w lv L) (hm : IsInts w mv M) :
    Calls Try.prog 41 #[lv, mv] w fun e w' => e = .returned (.bool (decide (cmpI L M < 0))) ∧ Drew w w' := by
  obtain ⟨la, lc, lb, lo, rfl, l2, l3, l4, l5, l6⟩ := hl
  obtain ⟨ma, mc, mb, mo, rfl, m2, m3, m4, m5, m6⟩ := hm
  have HR := Lib.hid (show cmpI (L.drop 0) (M.drop 0) = cmpI L M from rfl)
  have L4 := Lib.hid l4; have L6 := Lib.hid l6; have M4 := Lib.hid m4; have M6 := Lib.hid m6
  generalize cmpI L M = r at *
  clear l4 l5 l6 m4 m5 m6
  go_enter Try.func41, Try.ntmps41
  go_wp2
  go_loopg [5] L.length (fun g s5 wr => ∃ k mm : Nat, k ≤ L.length ∧ k ≤ M.length ∧ g = L.length - k ∧ s5 = .int .i64 (k : Int) ∧ wr = w.drewN mm ∧ cmpI (L.drop k) (M.drop k) = r)
  case atStart => exact ⟨0, 0, Nat.zero_le _, Nat.zero_le _, rfl, rfl, rfl, HR.out⟩
  case round =>
    obtain ⟨k, mm, hk, hkm, rfl, rfl, rfl, hc⟩ := hrel
    have Hc := Lib.hid hc
    clear hc
    by_cases h1 : k < L.length
    · obtain rfl := L4.out (by omega)
      have c1 := L6.out k h1
      by_cases h2 : k < M.length
      · obtain rfl := M4.out (by omega)
        have c2 := M6.out k h2
        have He := Lib.hid (cmpI_at h1 h2)
        generalize L.getD k 0 = x at *
        generalize M.getD k 0 = y at *
        by_cases h3 : x = y
        · have He2 := Lib.hid (He.out.trans (if_pos (show Lib.compareInt x y = 0 by unfold Lib.compareInt; rw [h3]; simp)))
          have q : (x == y) = true := by simp [h3]
          have q2 : (x != y) = false := by simp [h3]
          clear h3
          go_wp2
          go_quiet (fail)
          go_wp2
          go_roundg (L.length - (k + 1))
          case measure => go_light; omega
          case rel => exact ⟨k + 1, mm + nq, by omega, by omega, rfl, by go_num, rfl, He2.out.symm.trans Hc.out⟩
        · have hz : Lib.compareInt x y ≠ 0 := by unfold Lib.compareInt; split <;> (try split) <;> omega
          have He2 := Lib.hid (He.out.trans (if_neg hz))
          have hlt : decide (x < y) = decide (Lib.compareInt x y < 0) := by
            unfold Lib.compareInt
            by_cases e : x < y
            · simp [e]
            · have : x > y := by omega
              simp [e, this]
          have Hlt := Lib.hid hlt
          have q : (x == y) = false := by simp [h3]
          have q2 : (x != y) = true := by simp [h3]
          clear h3 hz hlt
          go_wp2
          go_quiet (fail)
          go_wp2
          go_quiet (fail)
          go_wp2
          go_ret
          exact ⟨ret_bool (by rw [Hlt.out, He2.out.symm.trans Hc.out]), Drew.add (Drew.add (w := w) (w' := w.drewN mm) ⟨mm, rfl⟩ _) _⟩
      · have He := Lib.hid (cmpI_long (M := M) h1 (by omega))
        have q1 : ¬ ((L.length : Int) < (M.length : Int)) := by omega
        go_wp2
        go_ret
        exact ⟨ret_bool (by rw [← Hc.out, He.out]; rfl), ⟨_, rfl⟩⟩
    · obtain hk2 : L.length = k := by omega
      have He := Lib.hid (cmpI_end hk2 hkm)
      by_cases h2 : k < M.length
      · have He2 := Lib.hid (He.out.trans (if_pos h2))
        go_wp2
        go_ret
        exact ⟨ret_bool (by rw [← Hc.out, He2.out]; simp <;> omega), ⟨_, rfl⟩⟩
      · have He2 := Lib.hid (He.out.trans (if_neg h2))
        go_wp2
        go_ret
        exact ⟨ret_bool (by rw [← Hc.out, He2.out]; simp <;> omega), ⟨_, rfl⟩⟩

end Go.Proofs.Ytnhhohhhpaejmaa
