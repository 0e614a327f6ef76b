/- arborref.Parts. -/
import Derived.Test.YtnmljgjegodkaaaDoorReach
namespace Go.Proofs.YtnmljgjegodkaaaDoor
open Go.RowKit

theorem doneB_zero {N : Nat} {G : Nat → Nat → Bool} {S : Nat → Bool} (k : Nat) : doneB N G S 0 k = false := by
  cases h : doneB N G S 0 k
  · rfl
  · obtain ⟨u, hu, _⟩ := doneB_iff.1 h
    exact absurd hu (Nat.not_lt_zero _)

set_option maxHeartbeats 6400000 in
set_option maxRecDepth 100000 in
theorem parts_any (N : Nat) (G : Nat → Nat → Bool) (S : Nat → Bool) (gv sv : Value) (w : World) (hN : N ≤ 100) (hg : HasGrid w gv N G) (hs : HasShut w sv S) :
    Calls Tryd.prog 35 #[gv, sv] w fun e w' => e = .returned (.int .i64 (partsF N G S : Int)) ∧ Below w.heap.size w w' := by
  have Hg := Lib.hid hg
  have Hs := Lib.hid hs
  obtain ⟨B, ga, gc, gb, go, R0, rfl, -⟩ := hg
  obtain ⟨sa, n, sc, sb, so, rfl, hn1, hn2, hadr, hcell, hbeh⟩ := hs
  have Hcell := Lib.hid hcell
  have Hbeh := Lib.hid hbeh
  have Hadr := Lib.hid hadr
  have hmk := run_make_row' (P := Tryd.prog) 52 4 (.bool false) 1 Tryd.underlying52 info4 rfl .i64 .i64 N (by omega) (by omega)
  have hr1 := World.rowIs_made w (.bool false) N 4
  have R1 := Lib.hid (RcSt.mk (bI := w.heap.size) (I := doneB N G S 0) (below1 w (.cells (madeCells #[.bool false] N) 4)) (Nat.le_refl _) (hr1.congr fun k _ => by simp [rb, doneB_zero]))
  clear hcell hbeh hadr hr1
  go_enter Tryd.func35, Tryd.ntmps35
  go_wp2
  clear hmk
  generalize w.alloc (.cells (madeCells #[.bool false] N) 4) = w1 at *
  go_loopg [6, 7] N (fun g s6 s7 wr => ∃ v : Nat, v ≤ N ∧ g = N - v ∧ s7 = .int .i64 v ∧ s6 = .int .i64 (cnt (leadB N G S) v : Int) ∧ RcSt w wr w.heap.size N (doneB N G S v))
  case atStart => exact ⟨0, Nat.zero_le _, rfl, rfl, rfl, R1.out⟩
  case round =>
    obtain ⟨v, hv, rfl, rfl, rfl, hst⟩ := hrel
    have Hst := Lib.hid hst
    have hcl := cnt_le (leadB N G S) v
    by_cases hvN : v < N
    · have t1 : wr.cell? ⟨w.heap.size, v, none⟩ = some (.bool (doneB N G S v v)) := hst.row.cell hvN
      have hce : v < n → wr.cell? ⟨sb, so + v, none⟩ = some (.bool (S v)) := fun h => below_cell hst.hb (Hcell.out v h)
      have hbe := Hbeh.out v
      have hle := leadB_eq (N := N) (G := G) (S := S) (v := v)
      have Hle := Lib.hid hle
      clear hle hst
      cases hd : doneB N G S v v
      · rw [hd] at t1
        have Hd := Lib.hid hd
        clear hd
        by_cases hsv : S v = true
        · have Hsv := Lib.hid hsv
          have hvn : v < n := by
            rcases Nat.lt_or_ge v n with h | h
            · exact h
            · rw [hbe h] at hsv; cases hsv
          have t2 := hce hvn
          rw [hsv] at t2
          obtain rfl := Hadr.out (by omega)
          have Hl := Lib.hid (show leadB N G S v = false by rw [Hle.out, Hsv.out]; simp)
          clear hsv hbe hce
          go_wp2
          go_roundg (N - (v + 1))
          case measure => go_light; omega
          case rel => exact ⟨v + 1, by omega, rfl, by go_num, by rw [cnt, if_neg (by rw [Hl.out]; exact Bool.false_ne_true)]; rfl, Hst.out.below (Below.refl _ _) |> fun h => ⟨h.hb, h.nI, row_rb h.row fun k _ => (doneB_other Hl.out k).symm⟩⟩
        · have hsf : S v = false := by simpa using hsv
          have Hsf := Lib.hid hsf
          have Hl := Lib.hid (show leadB N G S v = true by rw [Hle.out, Hsf.out, Hd.out]; rfl)
          have t2 : v < n → wr.cell? ⟨sb, so + v, none⟩ = some (.bool false) := fun h => by rw [hce h, hsf]
          have hget : v < n → sa = some ⟨sb, so, none⟩ := fun h => Hadr.out (by omega)
          clear hsv hsf hbe hce
          rcases Nat.lt_or_ge v n with hvn | hvn
          · have t2 := t2 hvn
            obtain rfl := hget hvn
            clear hget
            go_wp2_with fail
            refine (reach_any N v G S _ _ wr hN hvN (Hg.out.below Hst.out.hb) (Hs.out.below Hst.out.hb)).mono ?_
            rintro e wq ⟨bR, rfl, hbR, hrow, hbq⟩
            have Hst2 := Lib.hid (Hst.out.below hbq)
            have Hrow := Lib.hid hrow
            have hlt0 := Hst.out.row.lt
            have nR : w.heap.size ≠ bR := by omega
            clear hrow hbq t1
            go_wp2
            obtain ⟨w5, rfl⟩ : ∃ w5 : World, w5 = wq := ⟨_, rfl⟩
            go_loopg [9] N (fun g s9 wr => ∃ k : Nat, k ≤ N ∧ g = N - k ∧ s9 = .int .i64 k ∧ RcSt w wr w.heap.size N (fun q => if q < k then doneB N G S (v + 1) q else doneB N G S v q) ∧ wr.rowIs bR 4 N (rb (rchB N G S v)))
            case atStart => exact ⟨0, Nat.zero_le _, rfl, rfl, Hst2.out, Hrow.out⟩
            case round =>
              obtain ⟨k, hk, rfl, rfl, hst3, hrow3⟩ := hrel
              have Hst3 := Lib.hid hst3
              have Hrow3 := Lib.hid hrow3
              by_cases hkN : k < N
              · have t1 := hst3.row.cell hkN
                have f1 := hst3.row.frozen k
                simp only [rb, if_neg (Nat.lt_irrefl k)] at t1
                have t2 : wr.cell? ⟨bR, k, none⟩ = some (.bool (rchB N G S v k)) := hrow3.cell hkN
                have hdl := doneB_lead Hl.out k
                have l1 := hst3.row.lt
                have key : ∀ (x : Bool), x = doneB N G S (v + 1) k → RcSt w (wr.setCell ⟨w.heap.size, k, none⟩ (.bool x)) w.heap.size N (fun q => if q < k + 1 then doneB N G S (v + 1) q else doneB N G S v q) ∧ (wr.setCell ⟨w.heap.size, k, none⟩ (.bool x)).rowIs bR 4 N (rb (rchB N G S v)) := fun x hx => by
                  have h := Hst3.out.set k x
                  refine ⟨⟨h.hb, h.nI, row_rb h.row fun q _ => ?_⟩, Hrow3.out.setOther (Ne.symm nR) _⟩
                  by_cases e : q = k
                  · subst e; rw [if_pos rfl, if_pos (by omega)]; exact hx
                  · rw [if_neg e]
                    by_cases e2 : q < k
                    · rw [if_pos e2, if_pos (by omega)]
                    · rw [if_neg e2, if_neg (by omega)]
                have Key := Lib.hid key
                have Hdl := Lib.hid hdl
                clear hst3 hrow3 key hdl
                cases hd2 : doneB N G S v k
                · rw [hd2] at t1
                  have Hd2 := Lib.hid hd2
                  clear hd2
                  go_wp2
                  go_roundg (N - (k + 1))
                  case measure => go_light; omega
                  case rel => exact ⟨k + 1, by omega, rfl, by go_num, Key.out _ (by rw [Hdl.out, Hd2.out]; rfl)⟩
                · rw [hd2] at t1
                  have Hd2 := Lib.hid hd2
                  clear hd2
                  go_wp2
                  go_roundg (N - (k + 1))
                  case measure => go_light; omega
                  case rel => exact ⟨k + 1, by omega, rfl, by go_num, Key.out _ (by rw [Hdl.out, Hd2.out]; rfl)⟩
              · obtain rfl : k = N := by omega
                clear hst3 hrow3
                go_wp2
                go_roundg (k - (v + 1))
                case measure => go_light; omega
                case rel => exact ⟨v + 1, by omega, rfl, by go_num, by rw [cnt, if_pos Hl.out]; go_num, ⟨Hst3.out.hb, Hst3.out.nI, row_rb Hst3.out.row fun q hq => by rw [if_pos hq]⟩⟩
          · clear t2 hget
            go_wp2_with fail
            refine (reach_any N v G S _ _ wr hN hvN (Hg.out.below Hst.out.hb) (Hs.out.below Hst.out.hb)).mono ?_
            rintro e wq ⟨bR, rfl, hbR, hrow, hbq⟩
            have Hst2 := Lib.hid (Hst.out.below hbq)
            have Hrow := Lib.hid hrow
            have hlt0 := Hst.out.row.lt
            have nR : w.heap.size ≠ bR := by omega
            clear hrow hbq t1
            go_wp2
            obtain ⟨w5, rfl⟩ : ∃ w5 : World, w5 = wq := ⟨_, rfl⟩
            go_loopg [9] N (fun g s9 wr => ∃ k : Nat, k ≤ N ∧ g = N - k ∧ s9 = .int .i64 k ∧ RcSt w wr w.heap.size N (fun q => if q < k then doneB N G S (v + 1) q else doneB N G S v q) ∧ wr.rowIs bR 4 N (rb (rchB N G S v)))
            case atStart => exact ⟨0, Nat.zero_le _, rfl, rfl, Hst2.out, Hrow.out⟩
            case round =>
              obtain ⟨k, hk, rfl, rfl, hst3, hrow3⟩ := hrel
              have Hst3 := Lib.hid hst3
              have Hrow3 := Lib.hid hrow3
              by_cases hkN : k < N
              · have t1 := hst3.row.cell hkN
                have f1 := hst3.row.frozen k
                simp only [rb, if_neg (Nat.lt_irrefl k)] at t1
                have t2 : wr.cell? ⟨bR, k, none⟩ = some (.bool (rchB N G S v k)) := hrow3.cell hkN
                have hdl := doneB_lead Hl.out k
                have l1 := hst3.row.lt
                have key : ∀ (x : Bool), x = doneB N G S (v + 1) k → RcSt w (wr.setCell ⟨w.heap.size, k, none⟩ (.bool x)) w.heap.size N (fun q => if q < k + 1 then doneB N G S (v + 1) q else doneB N G S v q) ∧ (wr.setCell ⟨w.heap.size, k, none⟩ (.bool x)).rowIs bR 4 N (rb (rchB N G S v)) := fun x hx => by
                  have h := Hst3.out.set k x
                  refine ⟨⟨h.hb, h.nI, row_rb h.row fun q _ => ?_⟩, Hrow3.out.setOther (Ne.symm nR) _⟩
                  by_cases e : q = k
                  · subst e; rw [if_pos rfl, if_pos (by omega)]; exact hx
                  · rw [if_neg e]
                    by_cases e2 : q < k
                    · rw [if_pos e2, if_pos (by omega)]
                    · rw [if_neg e2, if_neg (by omega)]
                have Key := Lib.hid key
                have Hdl := Lib.hid hdl
                clear hst3 hrow3 key hdl
                cases hd2 : doneB N G S v k
                · rw [hd2] at t1
                  have Hd2 := Lib.hid hd2
                  clear hd2
                  go_wp2
                  go_roundg (N - (k + 1))
                  case measure => go_light; omega
                  case rel => exact ⟨k + 1, by omega, rfl, by go_num, Key.out _ (by rw [Hdl.out, Hd2.out]; rfl)⟩
                · rw [hd2] at t1
                  have Hd2 := Lib.hid hd2
                  clear hd2
                  go_wp2
                  go_roundg (N - (k + 1))
                  case measure => go_light; omega
                  case rel => exact ⟨k + 1, by omega, rfl, by go_num, Key.out _ (by rw [Hdl.out, Hd2.out]; rfl)⟩
              · obtain rfl : k = N := by omega
                clear hst3 hrow3
                go_wp2
                go_roundg (k - (v + 1))
                case measure => go_light; omega
                case rel => exact ⟨v + 1, by omega, rfl, by go_num, by rw [cnt, if_pos Hl.out]; go_num, ⟨Hst3.out.hb, Hst3.out.nI, row_rb Hst3.out.row fun q hq => by rw [if_pos hq]⟩⟩
      · rw [hd] at t1
        have Hd := Lib.hid hd
        have Hl := Lib.hid (show leadB N G S v = false by rw [Hle.out, Hd.out]; rfl)
        clear hd hbe hce
        go_wp2
        go_roundg (N - (v + 1))
        case measure => go_light; omega
        case rel => exact ⟨v + 1, by omega, rfl, by go_num, by rw [cnt, if_neg (by rw [Hl.out]; exact Bool.false_ne_true)]; rfl, ⟨Hst.out.hb, Hst.out.nI, row_rb Hst.out.row fun k _ => (doneB_other Hl.out k).symm⟩⟩
    · obtain rfl : v = N := by omega
      clear hst
      go_wp2
      go_ret
      exact ⟨rfl, Hst.out.hb⟩

end Go.Proofs.YtnmljgjegodkaaaDoor
