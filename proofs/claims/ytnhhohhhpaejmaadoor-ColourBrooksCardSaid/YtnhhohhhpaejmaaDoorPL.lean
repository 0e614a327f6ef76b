/- A table lies still. No walk. colour.loose. For colour.Number and colour.Poly: two rows that are made. -/
import Derived.Test.YtnhhohhhpaejmaaDoorCtz
import Derived.Test.YtnhhohhhpaejmaaDoorPA
import Derived.Test.YtnhhohhhpaejmaaDoorPR
import Derived.Deep.LoopGhost
import Derived.Deep.Light
import Derived.BigQuiet
import Derived.Test.YtnhhohhhpaejmaaDoorSmallC
import Derived.BigRegion
import Derived.Deep.CutBlock
import Derived.Deep.RegionHeld3
namespace Go.Proofs.YtnhhohhhpaejmaaDoor
open Go Go.RowKit

theorem TabAt.below {g : Nat} {tab : List Nat} {w w' : World} (h : TabAt g tab w) (hb : Below w.heap.size w w') : TabAt g tab w' := fun j hj => below_cell hb (h j hj)
end Go.Proofs.YtnhhohhhpaejmaaDoor
namespace Go.Proofs.YtnhhohhhpaejmaaDoor
open Go Go.RowKit

/-- What colour.loose tells. -/
def LoosePost (N : Nat) (l : List (Int × Int)) (w : World) (e : Ending) (w' : World) : Prop :=
  ∃ b, e = .returned (.slice (some ⟨b, 0, none⟩) (pow2 N) (pow2 N)) ∧ w.heap.size ≤ b ∧ w'.rowIs b 4 (pow2 N) (rb (freeB l N)) ∧ Below w.heap.size w w'

set_option maxHeartbeats 3200000 in
set_option maxRecDepth 100000 in
theorem loose_any (l : List (Int × Int)) (N : Nat) (s : Value) (w : World) (h : IsEdges w s l) (hN : N ≤ 12) (hok : ∀ j, j < l.length → EndsOk (N : Int) (l.getD j (0, 0)) ∧ (l.getD j (0, 0)).1 ≠ (l.getD j (0, 0)).2) (hT : TabAt 1 Lib.deBruijn64tab w) :
    Calls Tryd.prog 44 #[.agg #[.int .i64 (N : Int), s]] w (LoosePost N l w) := by
  obtain ⟨ad, cap, bb, o, rfl, hcap, hmax, hadr, -, hcell⟩ := h
  have Hok := Lib.hid hok
  have HT := Lib.hid hT
  clear hok hT
  have hmk := run_make_row' (P := Tryd.prog) 29 3 (.int .i64 0) 8 Tryd.underlying29 info3 rfl .i64 .i64 N (by omega) (by omega)
  have Hst := Lib.hid (MState.start w (.int .i64 (N : Int)) (.slice ad l.length cap) N)
  have hcs := Hst.out.cs
  have Hcn := Lib.hid (below_cell (below1 _ (.cells (madeCells #[.int .i64 0] N) 3)) (two_cells w (.int .i64 (N : Int)) (.slice ad l.length cap) 24).1)
  go_enter Tryd.func44, Tryd.ntmps44
  go_wp2
  generalize (w.alloc (Obj.cells #[.int .i64 (N : Int), .slice ad l.length cap] 24)).alloc (.cells (madeCells #[.int .i64 0] N) 3) = w1 at *
  go_loopg [16] l.length (fun g s16 wr => ∃ q : Nat, q ≤ l.length ∧ g = l.length - q ∧ s16 = .int .i64 q ∧ MState w wr (.slice ad l.length cap) (w.heap.size + 1) N (near (l.take q) N) ∧ wr.cell? ⟨w.heap.size, 0, none⟩ = some (.int .i64 (N : Int)))
  case atStart => exact ⟨0, Nat.zero_le _, rfl, rfl, by
    have e : (fun _ => 0) = near (l.take 0) N := by funext i; exact (near_nil N i).symm
    rw [← e]; exact Hst.out, Hcn.out⟩
  case round =>
    obtain ⟨q, hq, rfl, rfl, hm, hc⟩ := hrel
    by_cases hlt : q < l.length
    · obtain rfl := hadr (by omega)
      obtain ⟨x, y, He, cx, cy⟩ := edges_at hcell hm.hb hlt
      have hk1 := Hok.out q hlt
      rw [He.out] at hk1
      obtain ⟨⟨x0, y0, x1, y1⟩, hxy⟩ := hk1
      simp only at x0 y0 x1 y1 hxy
      obtain ⟨X, rfl⟩ := Int.eq_ofNat_of_zero_le x0
      obtain ⟨Y, rfl⟩ := Int.eq_ofNat_of_zero_le y0
      have hX : X < N := by omega
      have hY : Y < N := by omega
      have Hm := Lib.hid hm
      have Hxy := Lib.hid hxy
      have Hc := Lib.hid hc
      clear hm hxy x0 y0 x1 y1 hcell hadr hmk hcs hc
      go_wp2_with fail
      refine region_tail 10 (by kernel_rfl) (by kernel_rfl) ?_
      have g5 := (Hm.out.below (below1 wr (Obj.cells #[.int .i64 (X : Int), .int .i64 (Y : Int)] 39))).below (Below.refl _ _).drew
      have ce0 : (wr.alloc (Obj.cells #[.int .i64 (X : Int), .int .i64 (Y : Int)] 39)).drew.cell? ⟨wr.heap.size, 0, none⟩ = some (.int .i64 X) := (two_cells wr (.int .i64 X) (.int .i64 Y) 39).1
      have ce1 : (wr.alloc (Obj.cells #[.int .i64 (X : Int), .int .i64 (Y : Int)] 39)).drew.cell? ⟨wr.heap.size, 1, none⟩ = some (.int .i64 Y) := (two_cells wr (.int .i64 X) (.int .i64 Y) 39).2
      have cN : (wr.alloc (Obj.cells #[.int .i64 (X : Int), .int .i64 (Y : Int)] 39)).drew.cell? ⟨w.heap.size, 0, none⟩ = some (.int .i64 (N : Int)) := below_cell (below1 wr _) Hc.out
      have l1 := Hm.out.row.lt
      have n1 : w.heap.size + 1 ≠ wr.heap.size := by omega
      generalize wr.heap.size = E at *
      generalize (wr.alloc (Obj.cells #[.int .i64 (X : Int), .int .i64 (Y : Int)] 39)).drew = w5 at *
      have mX := maskOf_few (adj (l.take q) X) (show N ≤ 62 by omega)
      have mY := maskOf_few (adj (l.take q) Y) (show N ≤ 62 by omega)
      have t1 : w5.cell? ⟨w.heap.size + 1, X, none⟩ = some (.int .i64 (near (l.take q) N X : Int)) := g5.row.cell hX
      have f1 := g5.row.frozen X
      have e1 := op_shl (show Y < 62 by omega)
      have e2 := op_or mX (pow2_few (show Y < 62 by omega))
      have e3 := op_shl (show X < 62 by omega)
      have e4 := op_or mY (pow2_few (show X < 62 by omega))
      rw [show maskOf (adj (l.take q) X) N = near (l.take q) N X from rfl] at e2
      rw [show maskOf (adj (l.take q) Y) N = near (l.take q) N Y from rfl] at e4
      have g6 := (g5.set X (lor (near (l.take q) N X) (pow2 Y))).below (Below.refl _ _).drew
      have ce0' : (w5.setCell ⟨w.heap.size + 1, X, none⟩ (.int .i64 (lor (near (l.take q) N X) (pow2 Y) : Nat))).drew.cell? ⟨E, 0, none⟩ = some (.int .i64 X) := by
        show (w5.setCell ⟨w.heap.size + 1, X, none⟩ _).cell? _ = _
        rw [World.cell?_setCell_far _ _ _ _ n1]; exact ce0
      have ce1' : (w5.setCell ⟨w.heap.size + 1, X, none⟩ (.int .i64 (lor (near (l.take q) N X) (pow2 Y) : Nat))).drew.cell? ⟨E, 1, none⟩ = some (.int .i64 Y) := by
        show (w5.setCell ⟨w.heap.size + 1, X, none⟩ _).cell? _ = _
        rw [World.cell?_setCell_far _ _ _ _ n1]; exact ce1
      have cN' : (w5.setCell ⟨w.heap.size + 1, X, none⟩ (.int .i64 (lor (near (l.take q) N X) (pow2 Y) : Nat))).drew.cell? ⟨w.heap.size, 0, none⟩ = some (.int .i64 (N : Int)) := by
        show (w5.setCell ⟨w.heap.size + 1, X, none⟩ _).cell? _ = _
        rw [World.cell?_setCell_far _ _ _ _ (show w.heap.size + 1 ≠ w.heap.size by omega)]; exact cN
      have t2 := g6.row.cell hY
      simp only [rn, if_neg (show ¬ Y = X by have := Hxy.out; omega)] at t2
      have f2 := g6.row.frozen Y
      have G8 := Lib.hid (g6.set Y (lor (near (l.take q) N Y) (pow2 X)))
      have Ce := Lib.hid (And.intro ce0' (And.intro ce1' (And.intro t2 (And.intro f2 cN'))))
      have E34 := Lib.hid (And.intro e3 e4)
      clear g5 g6 cx cy ce0' ce1' t2 f2 e3 e4 mX mY cN cN'
      simp only [List.take_succ_cons, List.take_zero, List.drop_succ_cons, List.drop_zero]
      repeat still_step
      refine wpStill_nil ?_
      go_wp2_with fail
      refine region_tail 10 (by kernel_rfl) (by kernel_rfl) ?_
      clear t1 f1 ce0 ce1 e1 e2
      generalize (w5.setCell ⟨w.heap.size + 1, X, none⟩ (.int .i64 (lor (near (l.take q) N X) (pow2 Y) : Nat))).drew = w7 at *
      obtain ⟨ce0, ce1, t2, f2, cN⟩ := Ce.out
      have CN := Lib.hid cN
      clear cN
      obtain ⟨e3, e4⟩ := E34.out
      simp only [List.take_succ_cons, List.take_zero, List.drop_succ_cons, List.drop_zero]
      repeat still_step
      refine wpStill_nil ?_
      go_wp2
      go_roundg (l.length - (q + 1))
      case measure => go_light; omega
      case rel => exact ⟨q + 1, by omega, rfl, by go_num, by
        refine ⟨G8.out.hb, G8.out.up, G8.out.cs, row_rn G8.out.row fun i _ => ?_⟩
        exact near_succ hlt He.out hX hY (by have := Hxy.out; omega) i, by
        rw [World.cell?_setCell_far _ _ _ _ (show w.heap.size + 1 ≠ w.heap.size by omega)]; exact CN.out⟩
    · obtain rfl : l.length = q := by omega
      rw [List.take_length] at hm
      have Hm := Lib.hid hm
      have hP : pow2 N ≤ 4096 := by unfold pow2; exact Nat.pow_le_pow_right (by decide) hN
      have hP0 : 0 < pow2 N := Nat.two_pow_pos N
      have HPe := Lib.hid (show pow2 N = 2 ^ N from rfl)
      have e0 := op_shl (show N < 62 by omega)
      obtain ⟨M, hM⟩ : ∃ M, M = pow2 N := ⟨_, rfl⟩
      rw [← hM] at hP hP0 e0 HPe
      have HM := Lib.hid hM
      clear hM
      have hmk2 := run_make_row' (P := Tryd.prog) 55 4 (.bool false) 1 Tryd.underlying55 info4 rfl .i64 .i64 M (by omega) (by omega)
      have l0 := World.block_lt_of_cell? _ _ hc
      simp only at l0
      obtain ⟨w3, rfl⟩ : ∃ w3 : World, w3 = wr := ⟨_, rfl⟩
      clear hm hcell hadr hmk hcs
      go_upto_region 9 with fail
      clear hmk2 hc l0 e0
      have HF := Lib.hid (World.rowIs_made w3 (.bool false) M 4)
      have HbF := Lib.hid (below1 w3 (.cells (madeCells #[Value.bool false] M) 4))
      generalize w3.alloc (.cells (madeCells #[Value.bool false] M) 4) = w4 at *
      have t0 := HF.out.cell hP0
      have f0 := HF.out.frozen 0
      have m0 := HF.out.lt
      have Hw5 := Lib.hid (row_set_rb (g := fun _ => false) HF.out 0 true)
      have HbG := Lib.hid (HbF.out.setCell (p := ⟨w3.heap.size, 0, none⟩) (Nat.le_refl _) (.bool true))
      go_wp2
      clear t0 f0 m0
      go_loopg [7] (M - 1) (fun g s7 wr => ∃ s : Nat, 1 ≤ s ∧ s ≤ M ∧ g = M - s ∧ s7 = .int .i64 (s : Int) ∧ wr.rowIs w3.heap.size 4 M (rb fun q => decide (q < s) && freeB l N q) ∧ Below w3.heap.size w3 wr)
      case atStart => exact ⟨1, Nat.le_refl _, hP0, rfl, rfl, row_rb Hw5.out (fun q _ => by
        by_cases e : q = 0
        · subst e; rw [if_pos rfl, freeB_zero]; rfl
        · rw [if_neg e, decide_eq_false (by omega)]; rfl), HbG.out⟩
      case round =>
        obtain ⟨s, hs1, hsM, rfl, rfl, hrow, hb⟩ := hrel
        have Hrow := Lib.hid hrow; have Hb := Lib.hid hb
        by_cases hlt : s < M
        · have h0 : s ≠ 0 := by omega
          have hsN : s < 2 ^ N := by rw [← HPe.out]; exact hlt
          have hfew : Few s := by show s < 4611686018427387904; omega
          have hstep := freeB_step (fun j hj => (Hok.out j hj).2) (show N ≤ 62 by omega) h0 hsN
          obtain ⟨hb1, -⟩ := ctz_low h0 hfew
          have hcN := bit_lt hsN hb1
          have hr := land_pred h0
          have hu := u64_nat (n := s) (by omega)
          have hw : IntKind.i64.wrap ((s : Int) - 1) = ((s - 1 : Nat) : Int) := by rw [show (s : Int) - 1 = ((s - 1 : Nat) : Int) by omega]; exact wrap_nat (by omega)
          have hand := op_and hfew (show Few (s - 1) by show s - 1 < 4611686018427387904; omega)
          have hrf : Few (land s (s - 1)) := land_few hfew
          have t0 := hrow.cell (show land s (s - 1) < M by omega)
          have ts : wr.cell? ⟨w3.heap.size, s, none⟩ = some (.bool false) := by
            have := hrow.cell hlt
            simpa [rb] using this
          have f0 := hrow.frozen s
          have m0 := hrow.lt
          have t1 := (Hm.out.row.of_block (hb.block _ Hm.out.row.lt)).cell hcN
          have hand2 := op_and (maskOf_few (adj l (Lib.ctz 64 s)) (show N ≤ 62 by omega)) hrf
          rw [show maskOf (adj l (Lib.ctz 64 s)) N = near l N (Lib.ctz 64 s) from rfl] at hand2
          have HTw := Lib.hid (TabAt.below (g := 1) HT.out (Hm.out.hb.trans (hb.mono Hm.out.hb.size)))
          simp only [rb, decide_eq_true hr, Bool.true_and] at t0
          simp only [rn] at t1
          generalize hcc : Lib.ctz 64 s = c at *
          generalize land s (s - 1) = r at *
          generalize land (near l N c) r = m at *
          generalize near l N c = nb at *
          clear hrow hb hb1 hrf hfew hsN h0
          cases hfr : freeB l N r with
          | false =>
            rw [hfr] at t0 hstep
            have Hstep := Lib.hid (show freeB l N s = false by rw [hstep]; rfl)
            clear hstep hfr
            go_wp2_with (go_at_call 54; refine (tz_any s (by omega) (by omega) _ HTw.out).mono ?_; rintro e w9 ⟨rfl, hw9⟩; rw [hw9]; rw [hcc])
            go_roundg (M - (s + 1))
            case measure => go_light; omega
            case rel => exact ⟨s + 1, by omega, by omega, rfl, by go_num, row_rb (row_set_rb Hrow.out s false) (fun q _ => by
              by_cases e : q = s
              · subst e; rw [if_pos rfl, Hstep.out]; simp
              · rw [if_neg e]
                have : (q < s + 1) ↔ q < s := by omega
                simp only [this]), Hb.out.setCell (Nat.le_refl _) _⟩
          | true =>
            rw [hfr] at t0 hstep
            by_cases hm0 : m = 0
            · have q0 : ((m : Int) == 0) = true := by simp [hm0]
              have Hstep := Lib.hid (show freeB l N s = true by rw [hstep, decide_eq_true hm0]; rfl)
              clear hstep hfr hm0
              go_wp2_with (go_at_call 54; refine (tz_any s (by omega) (by omega) _ HTw.out).mono ?_; rintro e w9 ⟨rfl, hw9⟩; rw [hw9]; rw [hcc])
              go_roundg (M - (s + 1))
              case measure => go_light; omega
              case rel => exact ⟨s + 1, by omega, by omega, rfl, by go_num, row_rb (row_set_rb Hrow.out s true) (fun q _ => by
                by_cases e : q = s
                · subst e; rw [if_pos rfl, Hstep.out]; simp
                · rw [if_neg e]
                  have : (q < s + 1) ↔ q < s := by omega
                  simp only [this]), Hb.out.setCell (Nat.le_refl _) _⟩
            · have q0 : ((m : Int) == 0) = false := by simp [hm0]
              have Hstep := Lib.hid (show freeB l N s = false by rw [hstep, decide_eq_false hm0]; rfl)
              clear hstep hfr hm0
              go_wp2_with (go_at_call 54; refine (tz_any s (by omega) (by omega) _ HTw.out).mono ?_; rintro e w9 ⟨rfl, hw9⟩; rw [hw9]; rw [hcc])
              go_roundg (M - (s + 1))
              case measure => go_light; omega
              case rel => exact ⟨s + 1, by omega, by omega, rfl, by go_num, row_rb (row_set_rb Hrow.out s false) (fun q _ => by
                by_cases e : q = s
                · subst e; rw [if_pos rfl, Hstep.out]; simp
                · rw [if_neg e]
                  have : (q < s + 1) ↔ q < s := by omega
                  simp only [this]), Hb.out.setCell (Nat.le_refl _) _⟩
        · obtain rfl : M = s := by omega
          have Hfin := Lib.hid (show LoosePost N l w (.returned (.slice (some ⟨w3.heap.size, 0, none⟩) M M)) wr from ⟨w3.heap.size, by rw [HM.out], Hm.out.hb.size, by
            rw [← HM.out]
            exact row_rb Hrow.out fun q hq => by rw [decide_eq_true hq, Bool.true_and], Hm.out.hb.trans (Hb.out.mono Hm.out.hb.size)⟩)
          clear hrow hb
          go_wp2
          go_ret
          exact Hfin.out

end Go.Proofs.YtnhhohhhpaejmaaDoor
namespace Go.Proofs.YtnhhohhhpaejmaaDoor
open Go Go.RowKit

theorem NOk.le {l : List (Int × Int)} {N : Nat} {need last : Nat → Nat} {s : Nat} (h : NOk l N need last s) (hl : ∀ j, j < l.length → (l.getD j (0, 0)).1 ≠ (l.getD j (0, 0)).2) (hs : s < 2 ^ N) : need s ≤ N := by
  rcases Nat.lt_or_ge N (need s) with e | e
  · exact absurd (Col.all hl hs) (h.no N e)
  · exact e
theorem two_made (W : World) (M : Nat) : ((W.alloc (.cells (madeCells #[.int .i64 0] M) 3)).alloc (.cells (madeCells #[.int .i64 0] M) 3)).rowIs W.heap.size 3 M (rn fun _ => 0) ∧
    ((W.alloc (.cells (madeCells #[.int .i64 0] M) 3)).alloc (.cells (madeCells #[.int .i64 0] M) 3)).rowIs (W.heap.size + 1) 3 M (rn fun _ => 0) ∧
    Below W.heap.size W ((W.alloc (.cells (madeCells #[.int .i64 0] M) 3)).alloc (.cells (madeCells #[.int .i64 0] M) 3)) := by
  have h1 := World.rowIs_made W (.int .i64 0) M 3
  have h2 := World.rowIs_made (W.alloc (.cells (madeCells #[.int .i64 0] M) 3)) (.int .i64 0) M 3
  rw [World.size_alloc] at h2
  have hb := below1 (W.alloc (.cells (madeCells #[.int .i64 0] M) 3)) (.cells (madeCells #[.int .i64 0] M) 3)
  exact ⟨(h1.of_block (hb.block _ h1.lt)).congr fun i _ => rfl, h2.congr fun i _ => rfl, below2 _ _ _⟩

end Go.Proofs.YtnhhohhhpaejmaaDoor
