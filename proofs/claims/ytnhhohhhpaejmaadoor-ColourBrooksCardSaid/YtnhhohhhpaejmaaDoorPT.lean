/- arborref.Degree: how many edges a node has at most. arborref.Colouring answers true where it is one. -/
import Derived.Test.YtnhhohhhpaejmaaDoorHasGrid
import Derived.Test.YtnhhohhhpaejmaaDoorPA
import Derived.BigQuiet
import Derived.Deep.LoopGhost
import Derived.Deep.Light
namespace Go.Proofs.YtnhhohhhpaejmaaDoor
open Go Go.RowKit

/-- The greatest of the first n. -/
def maxC (f : Nat → Nat) : Nat → Nat
  | 0 => 0
  | n + 1 => if maxC f n < f n then f n else maxC f n
theorem maxC_le (f : Nat → Nat) : ∀ n k, k < n → f k ≤ maxC f n
  | 0, k, h => absurd h (Nat.not_lt_zero _)
  | n + 1, k, h => by
    unfold maxC
    by_cases e : k = n
    · subst e; split <;> omega
    · have := maxC_le f n k (by omega)
      split <;> omega
theorem maxC_top (f : Nat → Nat) (B : Nat) (h : ∀ k, f k ≤ B) : ∀ n, maxC f n ≤ B
  | 0 => Nat.zero_le _
  | n + 1 => by
    unfold maxC
    have := maxC_top f B h n
    have := h n
    split <;> omega

set_option maxHeartbeats 1600000 in
set_option maxRecDepth 100000 in
theorem rdeg_any (N : Nat) (G : Nat → Nat → Bool) (gv : Value) (w : World) (hN : N ≤ 100) (hg : HasGrid w gv N G) :
    Calls Tryd.prog 12 #[gv] w fun e w' => e = .returned (.int .i64 (maxC (fun v => cnt (G v) N) N : Nat)) ∧ Drew w w' := by
  obtain ⟨Bg, ga, gc, gb, go', R, rfl, hgc, hga, hgrid⟩ := hg
  have Hgr := Lib.hid hgrid; have Hga := Lib.hid hga
  clear hgrid hga
  go_enter Tryd.func12, Tryd.ntmps12
  go_wp2
  go_loopg [3, 4, 5, 6] N (fun g s3 s4 s5 s6 wr => ∃ i : Nat, i ≤ N ∧ g = N - i ∧ s4 = .int .i64 (i : Int) ∧ s3 = .int .i64 (maxC (fun v => cnt (G v) N) i : Nat) ∧ wr = w)
  case atStart => exact ⟨0, Nat.zero_le _, rfl, rfl, rfl, rfl⟩
  case round =>
    obtain ⟨i, hi, rfl, rfl, rfl, rfl⟩ := hrel
    obtain ⟨mx, hmx⟩ : ∃ mx, maxC (fun v => cnt (G v) N) i = mx := ⟨_, rfl⟩
    have hmb : mx ≤ N := by rw [← hmx]; exact maxC_top _ N (fun k => cnt_le _ _) i
    rw [hmx]
    have Hmx := Lib.hid hmx
    clear hmx
    by_cases hil : i < N
    · obtain rfl := (Hga.out (by omega)).1
      have hi1 := Hgr.out.head _ hil
      go_wp2
      go_loopg [5, 6] N (fun g s5 s6 wr2 => ∃ j : Nat, j ≤ N ∧ g = N - j ∧ s6 = .int .i64 (j : Int) ∧ s5 = .int .i64 (cnt (G i) j : Nat) ∧ wr2 = wr)
      case atStart => exact ⟨0, Nat.zero_le _, rfl, rfl, rfl, rfl⟩
      case round =>
        obtain ⟨j, hj, rfl, rfl, rfl, hww⟩ := hrel
        subst hww
        have hcb := cnt_le (G i) j
        by_cases hjl : j < N
        · have cij := Hgr.out.cell hil hjl
          have hcs : cnt (G i) (j + 1) = cnt (G i) j + if G i j then 1 else 0 := by rw [cnt]
          have Hcs := Lib.hid hcs
          clear hcs
          generalize cnt (G i) j = cj at *
          cases hg : G i j with
          | true =>
            rw [hg] at cij
            have Hgg := Lib.hid hg
            clear hg
            go_wp2
            go_roundg (N - (j + 1))
            case measure => go_light; omega
            case rel => exact ⟨j + 1, by omega, rfl, by go_num, by rw [Hcs.out, Hgg.out]; rfl, rfl⟩
          | false =>
            rw [hg] at cij
            have Hgg := Lib.hid hg
            clear hg
            go_wp2
            go_roundg (N - (j + 1))
            case measure => go_light; omega
            case rel => exact ⟨j + 1, by omega, rfl, by go_num, by rw [Hcs.out, Hgg.out]; rfl, rfl⟩
        · obtain rfl : j = N := by omega
          have hms : maxC (fun v => cnt (G v) j) (i + 1) = if mx < cnt (G i) j then cnt (G i) j else mx := by rw [maxC, Hmx.out]
          have Hms := Lib.hid hms
          clear hms
          generalize cnt (G i) j = ci at *
          by_cases hgt : mx < ci
          · have Hms2 := Lib.hid (Hms.out.trans (if_pos hgt))
            go_wp2
            go_roundg (j - (i + 1))
            case measure => go_light; omega
            case rel => exact ⟨i + 1, by omega, rfl, by go_num, by rw [Hms2.out], rfl⟩
          · have Hms2 := Lib.hid (Hms.out.trans (if_neg hgt))
            go_wp2
            go_roundg (j - (i + 1))
            case measure => go_light; omega
            case rel => exact ⟨i + 1, by omega, rfl, by go_num, by rw [Hms2.out], rfl⟩
    · obtain rfl : i = N := by omega
      go_wp2
      go_ret
      exact ⟨ret_int (by rw [Hmx.out]), Drew.refl _⟩

end Go.Proofs.YtnhhohhhpaejmaaDoor
namespace Go.Proofs.YtnhhohhhpaejmaaDoor
open Go.RowKit

theorem intsF_cells {w : World} {v : Value} {N : Nat} {f : Nat → Nat} (h : IsInts w v ((List.range N).map fun i => (f i : Int))) :
    ∃ a c b o, v = .slice a N c ∧ N ≤ c ∧ c ≤ 9223372036854775807 ∧ (0 < N → a = some ⟨b, o, none⟩) ∧ ∀ j, j < N → w.cell? ⟨b, o + j, none⟩ = some (.int .i64 (f j : Int)) := by
  obtain ⟨a, cap, b, o, e, h1, h2, h3, -, h5⟩ := h
  simp only [List.length_map, List.length_range] at e h1 h3 h5
  refine ⟨a, cap, b, o, e, h1, h2, h3, fun j hj => ?_⟩
  rw [h5 j hj]
  simp [List.getD, hj]

set_option maxHeartbeats 3200000 in
set_option maxRecDepth 100000 in
theorem colouring_yes (N K : Nat) (G : Nat → Nat → Bool) (f : Nat → Nat) (gv lv : Value) (w : World) (hN : N ≤ 100) (hg : HasGrid w gv N G) (hi : IsInts w lv ((List.range N).map fun i => (f i : Int)))
    (hb : ∀ v, v < N → f v < K) (hp : ∀ u, u < N → ∀ v, v < N → G u v = true → f u ≠ f v) :
    Calls Tryd.prog 16 #[gv, lv, .int .i64 (K : Int)] w fun e w' => e = .returned (.bool true) ∧ Below w.heap.size w w' := by
  have Hg := Lib.hid hg; have Hp := Lib.hid hp; have Hbd := Lib.hid hb
  obtain ⟨B, ga, gc, gb, go, R, rfl, hgc, hga, -⟩ := hg
  obtain ⟨la, lc, b, o, rfl, hlc, hlm, hla, hcell⟩ := intsF_cells hi
  have Hcell := Lib.hid hcell
  clear hi hcell hb hp
  go_enter Tryd.func16, Tryd.ntmps16
  go_wp2
  go_loopg [7] N (fun g s7 wr => ∃ v : Nat, v ≤ N ∧ g = N - v ∧ s7 = .int .i64 (v : Int) ∧ Below w.heap.size w wr)
  case atStart => exact ⟨0, Nat.zero_le _, rfl, rfl, Below.refl _ _⟩
  case round =>
    obtain ⟨v, hv, rfl, rfl, hb⟩ := hrel
    have Hb := Lib.hid hb
    by_cases hlt : v < N
    · obtain rfl := hla (by omega)
      have cv := below_cell hb (Hcell.out v hlt)
      have hk := Hbd.out v hlt
      clear hb
      have Hcv := Lib.hid (Hcell.out v hlt)
      have hkk := hk
      go_wp2
      clear cv
      go_loopg [8] v (fun g s8 wx => ∃ u : Nat, u ≤ v ∧ g = v - u ∧ s8 = .int .i64 (u : Int) ∧ Below w.heap.size w wx)
      case atStart => exact ⟨0, Nat.zero_le _, rfl, rfl, Hb.out⟩
      case round =>
        obtain ⟨u, hu, rfl, rfl, hb⟩ := hrel
        have Hb2 := Lib.hid hb
        by_cases huv : u < v
        · obtain ⟨gb', go', gc', gr, ge, c1, c2⟩ := (Hg.out.below hb).entry hlt (show u < N by omega)
          simp only [Value.slice.injEq, true_and] at ge
          obtain ⟨rfl, rfl⟩ := ge
          have cv := below_cell hb Hcv.out
          have cu := below_cell hb (Hcell.out u (by omega))
          have hne := Hp.out v hlt u (by omega)
          clear hb
          cases hG : G v u with
          | false =>
            rw [hG] at c2
            clear hne hG
            go_upto_region 11 with fail
            go_quiet (fail)
            have hq := Below.drewN' (Below.refl wr.heap.size wr) nq
            have Hb3 := Lib.hid (Hb2.out.trans (hq.mono Hb2.out.size))
            clear hq c1 c2 cv cu
            generalize wr.drewN nq = wB at *
            go_wp2
            go_roundg (v - (u + 1))
            case measure => go_light; omega
            case rel => exact ⟨u + 1, by omega, rfl, by go_num, Hb3.out⟩
          | true =>
            rw [hG] at c2
            have hne := hne hG
            have q : ((f v : Int) == (f u : Int)) = false := by simp; omega
            clear hne hG
            generalize f u = d at *
            generalize f v = c at *
            go_upto_region 11 with fail
            go_quiet (fail)
            have hq := Below.drewN' (Below.refl wr.heap.size wr) nq
            have Hb3 := Lib.hid (Hb2.out.trans (hq.mono Hb2.out.size))
            clear hq c1 c2 cv cu q
            generalize wr.drewN nq = wB at *
            go_wp2
            go_roundg (v - (u + 1))
            case measure => go_light; omega
            case rel => exact ⟨u + 1, by omega, rfl, by go_num, Hb3.out⟩
        · obtain rfl : v = u := by omega
          clear hb
          go_wp2
          go_roundg (N - (v + 1))
          case measure => go_light; omega
          case rel => exact ⟨v + 1, by omega, rfl, by go_num, Hb2.out⟩
    · obtain rfl : N = v := by omega
      clear hb
      go_wp2
      go_ret
      exact ⟨rfl, Hb.out⟩

end Go.Proofs.YtnhhohhhpaejmaaDoor
