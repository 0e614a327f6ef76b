/- arborref.Colouring answers true where it is one. -/
import Derived.Test.YtfflnpcbpcldeaaDoorHasGrid
import Derived.Test.YtfflnpcbpcldeaaDoorTryF
import Derived.Deep.LoopGhost
import Derived.Deep.Light
import Derived.BigQuiet
namespace Go.Proofs.YtfflnpcbpcldeaaDoor
open Go.RowKit

theorem intsF_cells {w : World} {v : Value} {N : Nat} {f : Nat → Nat} (h : IsInts w v ((List.range N).map fun i => (f i : Int))) :
    ∃ a c b o, v = .slice a N c ∧ N ≤ c ∧ c ≤ 9223372036854775807 ∧ (0 < N → a = some ⟨b, o, none⟩) ∧ ∀ j, j < N → w.cell? ⟨b, o + j, none⟩ = some (.int .i64 (f j : Int)) := by
  obtain ⟨a, cap, b, o, e, h1, h2, h3, -, h5⟩ := h
  simp only [List.length_map, List.length_range] at e h1 h3 h5
  refine ⟨a, cap, b, o, e, h1, h2, h3, fun j hj => ?_⟩
  rw [h5 j hj]
  simp [List.getD, hj]

set_option maxHeartbeats 3200000 in
set_option maxRecDepth 100000 in
theorem colouring_yes (N K : Nat) (G : Nat → Nat → Bool) (f : Nat → Nat) (gv lv : Value) (w : World) (hN : N ≤ 100) (hg : HasGrid w gv N G) (hi : IsInts w lv ((List.range N).map fun i => (f i : Int)))
    (hb : ∀ v, v < N → f v < K) (hp : ∀ u, u < N → ∀ v, v < N → G u v = true → f u ≠ f v) :
    Calls Tryd.prog 16 #[gv, lv, .int .i64 (K : Int)] w fun e w' => e = .returned (.bool true) ∧ Below w.heap.size w w' := by
  have Hg := Lib.hid hg; have Hp := Lib.hid hp; have Hbd := Lib.hid hb
  obtain ⟨B, ga, gc, gb, go, R, rfl, hgc, hga, -⟩ := hg
  obtain ⟨la, lc, b, o, rfl, hlc, hlm, hla, hcell⟩ := intsF_cells hi
  have Hcell := Lib.hid hcell
  clear hi hcell hb hp
  go_enter Tryd.func16, Tryd.ntmps16
  go_wp2
  go_loopg [7] N (fun g s7 wr => ∃ v : Nat, v ≤ N ∧ g = N - v ∧ s7 = .int .i64 (v : Int) ∧ Below w.heap.size w wr)
  case atStart => exact ⟨0, Nat.zero_le _, rfl, rfl, Below.refl _ _⟩
  case round =>
    obtain ⟨v, hv, rfl, rfl, hb⟩ := hrel
    have Hb := Lib.hid hb
    by_cases hlt : v < N
    · obtain rfl := hla (by omega)
      have cv := below_cell hb (Hcell.out v hlt)
      have hk := Hbd.out v hlt
      clear hb
      have Hcv := Lib.hid (Hcell.out v hlt)
      have hkk := hk
      go_wp2
      clear cv
      go_loopg [8] v (fun g s8 wx => ∃ u : Nat, u ≤ v ∧ g = v - u ∧ s8 = .int .i64 (u : Int) ∧ Below w.heap.size w wx)
      case atStart => exact ⟨0, Nat.zero_le _, rfl, rfl, Hb.out⟩
      case round =>
        obtain ⟨u, hu, rfl, rfl, hb⟩ := hrel
        have Hb2 := Lib.hid hb
        by_cases huv : u < v
        · obtain ⟨gb', go', gc', gr, ge, c1, c2⟩ := (Hg.out.below hb).entry hlt (show u < N by omega)
          simp only [Value.slice.injEq, true_and] at ge
          obtain ⟨rfl, rfl⟩ := ge
          have cv := below_cell hb Hcv.out
          have cu := below_cell hb (Hcell.out u (by omega))
          have hne := Hp.out v hlt u (by omega)
          clear hb
          cases hG : G v u with
          | false =>
            rw [hG] at c2
            clear hne hG
            go_upto_region 11 with fail
            go_quiet (fail)
            have hq := Below.drewN' (Below.refl wr.heap.size wr) nq
            have Hb3 := Lib.hid (Hb2.out.trans (hq.mono Hb2.out.size))
            clear hq c1 c2 cv cu
            generalize wr.drewN nq = wB at *
            go_wp2
            go_roundg (v - (u + 1))
            case measure => go_light; omega
            case rel => exact ⟨u + 1, by omega, rfl, by go_num, Hb3.out⟩
          | true =>
            rw [hG] at c2
            have hne := hne hG
            have q : ((f v : Int) == (f u : Int)) = false := by simp; omega
            clear hne hG
            generalize f u = d at *
            generalize f v = c at *
            go_upto_region 11 with fail
            go_quiet (fail)
            have hq := Below.drewN' (Below.refl wr.heap.size wr) nq
            have Hb3 := Lib.hid (Hb2.out.trans (hq.mono Hb2.out.size))
            clear hq c1 c2 cv cu q
            generalize wr.drewN nq = wB at *
            go_wp2
            go_roundg (v - (u + 1))
            case measure => go_light; omega
            case rel => exact ⟨u + 1, by omega, rfl, by go_num, Hb3.out⟩
        · obtain rfl : v = u := by omega
          clear hb
          go_wp2
          go_roundg (N - (v + 1))
          case measure => go_light; omega
          case rel => exact ⟨v + 1, by omega, rfl, by go_num, Hb2.out⟩
    · obtain rfl : N = v := by omega
      clear hb
      go_wp2
      go_ret
      exact ⟨rfl, Hb.out⟩

end Go.Proofs.YtfflnpcbpcldeaaDoor
