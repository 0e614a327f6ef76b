/- arborref.Degree: how many edges a node has at most. -/
import Derived.Test.YtnhhohhhpaejmaaDoorHasGrid
import Derived.Test.YtnhhohhhpaejmaaDoorPA
import Derived.BigQuiet
import Derived.Deep.LoopGhost
import Derived.Deep.Light
namespace Go.Proofs.YtnhhohhhpaejmaaDoor
open Go Go.RowKit

/-- The greatest of the first n. -/
def maxC (f : Nat → Nat) : Nat → Nat
  | 0 => 0
  | n + 1 => if maxC f n < f n then f n else maxC f n
theorem maxC_le (f : Nat → Nat) : ∀ n k, k < n → f k ≤ maxC f n
  | 0, k, h => absurd h (Nat.not_lt_zero _)
  | n + 1, k, h => by
    unfold maxC
    by_cases e : k = n
    · subst e; split <;> omega
    · have := maxC_le f n k (by omega)
      split <;> omega
theorem maxC_top (f : Nat → Nat) (B : Nat) (h : ∀ k, f k ≤ B) : ∀ n, maxC f n ≤ B
  | 0 => Nat.zero_le _
  | n + 1 => by
    unfold maxC
    have := maxC_top f B h n
    have := h n
    split <;> omega

set_option maxHeartbeats 1600000 in
set_option maxRecDepth 100000 in
theorem rdeg_any (N : Nat) (G : Nat → Nat → Bool) (gv : Value) (w : World) (hN : N ≤ 100) (hg : HasGrid w gv N G) :
    Calls Tryd.prog 12 #[gv] w fun e w' => e = .returned (.int .i64 (maxC (fun v => cnt (G v) N) N : Nat)) ∧ Drew w w' := by
  obtain ⟨Bg, ga, gc, gb, go', R, rfl, hgc, hga, hgrid⟩ := hg
  have Hgr := Lib.hid hgrid; have Hga := Lib.hid hga
  clear hgrid hga
  go_enter Tryd.func12, Tryd.ntmps12
  go_wp2
  go_loopg [3, 4, 5, 6] N (fun g s3 s4 s5 s6 wr => ∃ i : Nat, i ≤ N ∧ g = N - i ∧ s4 = .int .i64 (i : Int) ∧ s3 = .int .i64 (maxC (fun v => cnt (G v) N) i : Nat) ∧ wr = w)
  case atStart => exact ⟨0, Nat.zero_le _, rfl, rfl, rfl, rfl⟩
  case round =>
    obtain ⟨i, hi, rfl, rfl, rfl, rfl⟩ := hrel
    obtain ⟨mx, hmx⟩ : ∃ mx, maxC (fun v => cnt (G v) N) i = mx := ⟨_, rfl⟩
    have hmb : mx ≤ N := by rw [← hmx]; exact maxC_top _ N (fun k => cnt_le _ _) i
    rw [hmx]
    have Hmx := Lib.hid hmx
    clear hmx
    by_cases hil : i < N
    · obtain rfl := (Hga.out (by omega)).1
      have hi1 := Hgr.out.head _ hil
      go_wp2
      go_loopg [5, 6] N (fun g s5 s6 wr2 => ∃ j : Nat, j ≤ N ∧ g = N - j ∧ s6 = .int .i64 (j : Int) ∧ s5 = .int .i64 (cnt (G i) j : Nat) ∧ wr2 = wr)
      case atStart => exact ⟨0, Nat.zero_le _, rfl, rfl, rfl, rfl⟩
      case round =>
        obtain ⟨j, hj, rfl, rfl, rfl, hww⟩ := hrel
        subst hww
        have hcb := cnt_le (G i) j
        by_cases hjl : j < N
        · have cij := Hgr.out.cell hil hjl
          have hcs : cnt (G i) (j + 1) = cnt (G i) j + if G i j then 1 else 0 := by rw [cnt]
          have Hcs := Lib.hid hcs
          clear hcs
          generalize cnt (G i) j = cj at *
          cases hg : G i j with
          | true =>
            rw [hg] at cij
            have Hgg := Lib.hid hg
            clear hg
            go_wp2
            go_roundg (N - (j + 1))
            case measure => go_light; omega
            case rel => exact ⟨j + 1, by omega, rfl, by go_num, by rw [Hcs.out, Hgg.out]; rfl, rfl⟩
          | false =>
            rw [hg] at cij
            have Hgg := Lib.hid hg
            clear hg
            go_wp2
            go_roundg (N - (j + 1))
            case measure => go_light; omega
            case rel => exact ⟨j + 1, by omega, rfl, by go_num, by rw [Hcs.out, Hgg.out]; rfl, rfl⟩
        · obtain rfl : j = N := by omega
          have hms : maxC (fun v => cnt (G v) j) (i + 1) = if mx < cnt (G i) j then cnt (G i) j else mx := by rw [maxC, Hmx.out]
          have Hms := Lib.hid hms
          clear hms
          generalize cnt (G i) j = ci at *
          by_cases hgt : mx < ci
          · have Hms2 := Lib.hid (Hms.out.trans (if_pos hgt))
            go_wp2
            go_roundg (j - (i + 1))
            case measure => go_light; omega
            case rel => exact ⟨i + 1, by omega, rfl, by go_num, by rw [Hms2.out], rfl⟩
          · have Hms2 := Lib.hid (Hms.out.trans (if_neg hgt))
            go_wp2
            go_roundg (j - (i + 1))
            case measure => go_light; omega
            case rel => exact ⟨i + 1, by omega, rfl, by go_num, by rw [Hms2.out], rfl⟩
    · obtain rfl : i = N := by omega
      go_wp2
      go_ret
      exact ⟨ret_int (by rw [Hmx.out]), Drew.refl _⟩

end Go.Proofs.YtnhhohhhpaejmaaDoor
