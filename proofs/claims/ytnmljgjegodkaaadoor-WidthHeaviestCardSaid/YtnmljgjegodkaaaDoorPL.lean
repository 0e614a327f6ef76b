/- width.masks. width.beyond: what a node sees through a set. -/
import Derived.Test.YtnmljgjegodkaaaDoorPB
import Derived.Test.YtnmljgjegodkaaaDoorPA
import Derived.Test.YtnmljgjegodkaaaDoorCtz
namespace Go.Proofs.YtnmljgjegodkaaaDoor
open Go.RowKit

set_option maxHeartbeats 3200000 in
set_option maxRecDepth 100000 in
theorem masks_any (l : List (Int × Int)) (N : Nat) (s : Value) (w : World) (h : IsEdges w s l) (hN : N ≤ 62) (hok : ∀ j, j < l.length → EndsOk (N : Int) (l.getD j (0, 0)) ∧ (l.getD j (0, 0)).1 ≠ (l.getD j (0, 0)).2) :
    Calls Tryd.prog 27 #[.agg #[.int .i64 (N : Int), s]] w (NumsPost N (near l N) w) := by
  obtain ⟨ad, cap, bb, o, rfl, hcap, hmax, hadr, -, hcell⟩ := h
  have Hok := Lib.hid hok
  clear hok
  have hmk := run_make_row' (P := Tryd.prog) 30 3 (.int .i64 0) 8 Tryd.underlying30 info3 rfl .i64 .i64 N (by omega) (by omega)
  have Hst := Lib.hid (MState.start w (.int .i64 (N : Int)) (.slice ad l.length cap) N)
  have hcs := Hst.out.cs
  go_enter Tryd.func27, Tryd.ntmps27
  go_wp2
  generalize (w.alloc (Obj.cells #[.int .i64 (N : Int), .slice ad l.length cap] 24)).alloc (.cells (madeCells #[.int .i64 0] N) 3) = w1 at *
  go_loopg [12] l.length (fun g s12 wr => ∃ q : Nat, q ≤ l.length ∧ g = l.length - q ∧ s12 = .int .i64 q ∧ MState w wr (.slice ad l.length cap) (w.heap.size + 1) N (near (l.take q) N))
  case atStart => exact ⟨0, Nat.zero_le _, rfl, rfl, by
    have e : (fun _ => 0) = near (l.take 0) N := by funext i; exact (near_nil N i).symm
    rw [← e]; exact Hst.out⟩
  case round =>
    obtain ⟨q, hq, rfl, rfl, hm⟩ := hrel
    by_cases hlt : q < l.length
    · obtain rfl := hadr (by omega)
      obtain ⟨x, y, He, cx, cy⟩ := edges_at hcell hm.hb hlt
      have hk1 := Hok.out q hlt
      rw [He.out] at hk1
      obtain ⟨⟨x0, y0, x1, y1⟩, hxy⟩ := hk1
      simp only at x0 y0 x1 y1 hxy
      obtain ⟨X, rfl⟩ := Int.eq_ofNat_of_zero_le x0
      obtain ⟨Y, rfl⟩ := Int.eq_ofNat_of_zero_le y0
      have hX : X < N := by omega
      have hY : Y < N := by omega
      have Hm := Lib.hid hm
      have Hxy := Lib.hid hxy
      clear hm hxy x0 y0 x1 y1 hcell hadr hmk hcs
      go_wp2_with fail
      refine region_tail 10 (by kernel_rfl) (by kernel_rfl) ?_
      have g5 := (Hm.out.below (below1 wr (Obj.cells #[.int .i64 (X : Int), .int .i64 (Y : Int)] 63))).below (Below.refl _ _).drew
      have ce0 : (wr.alloc (Obj.cells #[.int .i64 (X : Int), .int .i64 (Y : Int)] 63)).drew.cell? ⟨wr.heap.size, 0, none⟩ = some (.int .i64 X) := (two_cells wr (.int .i64 X) (.int .i64 Y) 63).1
      have ce1 : (wr.alloc (Obj.cells #[.int .i64 (X : Int), .int .i64 (Y : Int)] 63)).drew.cell? ⟨wr.heap.size, 1, none⟩ = some (.int .i64 Y) := (two_cells wr (.int .i64 X) (.int .i64 Y) 63).2
      have l1 := Hm.out.row.lt
      have n1 : w.heap.size + 1 ≠ wr.heap.size := by omega
      generalize wr.heap.size = E at *
      generalize (wr.alloc (Obj.cells #[.int .i64 (X : Int), .int .i64 (Y : Int)] 63)).drew = w5 at *
      have mX := maskOf_few (adj (l.take q) X) hN
      have mY := maskOf_few (adj (l.take q) Y) hN
      have t1 : w5.cell? ⟨w.heap.size + 1, X, none⟩ = some (.int .i64 (near (l.take q) N X : Int)) := g5.row.cell hX
      have f1 := g5.row.frozen X
      have e1 := op_shl (show Y < 62 by omega)
      have e2 := op_or mX (pow2_few (show Y < 62 by omega))
      have e3 := op_shl (show X < 62 by omega)
      have e4 := op_or mY (pow2_few (show X < 62 by omega))
      rw [show maskOf (adj (l.take q) X) N = near (l.take q) N X from rfl] at e2
      rw [show maskOf (adj (l.take q) Y) N = near (l.take q) N Y from rfl] at e4
      have g6 := (g5.set X (lor (near (l.take q) N X) (pow2 Y))).below (Below.refl _ _).drew
      have ce0' : (w5.setCell ⟨w.heap.size + 1, X, none⟩ (.int .i64 (lor (near (l.take q) N X) (pow2 Y) : Nat))).drew.cell? ⟨E, 0, none⟩ = some (.int .i64 X) := by
        show (w5.setCell ⟨w.heap.size + 1, X, none⟩ _).cell? _ = _
        rw [World.cell?_setCell_far _ _ _ _ n1]; exact ce0
      have ce1' : (w5.setCell ⟨w.heap.size + 1, X, none⟩ (.int .i64 (lor (near (l.take q) N X) (pow2 Y) : Nat))).drew.cell? ⟨E, 1, none⟩ = some (.int .i64 Y) := by
        show (w5.setCell ⟨w.heap.size + 1, X, none⟩ _).cell? _ = _
        rw [World.cell?_setCell_far _ _ _ _ n1]; exact ce1
      have t2 := g6.row.cell hY
      simp only [rn, if_neg (show ¬ Y = X by have := Hxy.out; omega)] at t2
      have f2 := g6.row.frozen Y
      have G8 := Lib.hid (g6.set Y (lor (near (l.take q) N Y) (pow2 X)))
      have Ce := Lib.hid (And.intro ce0' (And.intro ce1' (And.intro t2 f2)))
      have E34 := Lib.hid (And.intro e3 e4)
      clear g5 g6 cx cy ce0' ce1' t2 f2 e3 e4 mX mY
      simp only [List.take_succ_cons, List.take_zero, List.drop_succ_cons, List.drop_zero]
      repeat still_step
      refine wpStill_nil ?_
      go_wp2_with fail
      refine region_tail 10 (by kernel_rfl) (by kernel_rfl) ?_
      clear t1 f1 ce0 ce1 e1 e2
      generalize (w5.setCell ⟨w.heap.size + 1, X, none⟩ (.int .i64 (lor (near (l.take q) N X) (pow2 Y) : Nat))).drew = w7 at *
      obtain ⟨ce0, ce1, t2, f2⟩ := Ce.out
      obtain ⟨e3, e4⟩ := E34.out
      simp only [List.take_succ_cons, List.take_zero, List.drop_succ_cons, List.drop_zero]
      repeat still_step
      refine wpStill_nil ?_
      go_wp2
      go_roundg (l.length - (q + 1))
      case measure => go_light; omega
      case rel => exact ⟨q + 1, by omega, rfl, by go_num, by
        refine ⟨G8.out.hb, G8.out.up, G8.out.cs, row_rn G8.out.row fun i _ => ?_⟩
        exact near_succ hlt He.out hX hY (by have := Hxy.out; omega) i⟩
    · obtain rfl : l.length = q := by omega
      have Hm := Lib.hid hm
      clear hm hcell hadr
      go_wp2
      go_ret
      have hr := Hm.out.row
      rw [List.take_length] at hr
      exact ⟨_, rfl, by omega, hr, Hm.out.hb⟩

end Go.Proofs.YtnmljgjegodkaaaDoor
namespace Go.Proofs.YtnmljgjegodkaaaDoor
open Go Go.RowKit

theorem wrap_midV {x : Int} (h0 : -9223372036854775808 ≤ x) (h1 : x < 9223372036854775808) : IntKind.i64.wrap x = x := by
  simp [IntKind.wrap, IntKind.bits, IntKind.signed]; omega
/-- A set of at most 24 nodes. -/
theorem pow_few {N s : Nat} (hN : N ≤ 24) (h : s < 2 ^ N) : s < 16777216 := Nat.lt_of_lt_of_le h (Nat.pow_le_pow_right (by omega) hN)
theorem bits_lt {N s : Nat} (h : ∀ u, s.testBit u = true → u < N) : s < 2 ^ N := few_of_bit h

set_option maxHeartbeats 3200000 in
set_option maxRecDepth 100000 in
theorem beyond_any {N v set b : Nat} {G : Nat → Nat → Bool} {M : Nat → Nat} (hN : N ≤ 24) (hM : ∀ w u, w < N → ((M w).testBit u = true ↔ u < N ∧ G w u = true)) (hv : v < N) (hset : set < 2 ^ N) (w : World) (hr : w.rowIs b 3 N (rn M)) (hT : TabAt 1 Lib.deBruijn64tab w) :
    Calls Tryd.prog 29 #[.slice (some ⟨b, 0, none⟩) N N, .int .i64 (set : Int), .int .i64 (v : Int)] w fun e w' => ∃ r : Nat, e = .returned (.int .i64 (r : Int)) ∧ r < 2 ^ N ∧ (∀ u, r.testBit u = bey N G (bitsF set) v u) ∧ w = w' := by
  have HM := Lib.hid hM
  have Hr := Lib.hid hr
  have HT := Lib.hid hT
  have hs24 := pow_few hN hset
  have hfs : Few set := by unfold Few; omega
  have e0 := op_shl (show v < 62 by omega)
  have hpv : pow2 v < 16777216 := pow_few hN (by unfold pow2; exact Nat.pow_lt_pow_right (by decide) hv)
  have H0 := Lib.hid (BeI.start (N := N) (G := G) (set := set) hv)
  clear hM hr hT
  go_enter Tryd.func29, Tryd.ntmps29
  go_upto_region 3 with fail
  clear e0
  go_loopg [7, 8, 9] (cntN N (fun u => !(pow2 v).testBit u) + cntN N (fun u => (pow2 v).testBit u)) (fun g s7 s8 s9 wr => ∃ q seen out : Nat, s7 = .int .i64 (seen : Int) ∧ s8 = .int .i64 (out : Int) ∧ s9 = .int .i64 (q : Int) ∧ g = cntN N (fun u => !seen.testBit u) + cntN N (fun u => q.testBit u) ∧ BeI N G set v q seen out ∧ out < 2 ^ N ∧ w = wr)
  case atStart => exact ⟨pow2 v, pow2 v, 0, rfl, rfl, rfl, rfl, H0.out, Nat.two_pow_pos N, rfl⟩
  case round =>
    clear H0
    obtain ⟨q, seen, out, rfl, rfl, rfl, rfl, hI, ho, rfl⟩ := hrel
    have HI := Lib.hid hI
    have hq24 := pow_few hN (bits_lt hI.lq)
    have hs24' := pow_few hN (bits_lt hI.ls)
    have ho24 := pow_few hN ho
    by_cases hq : q = 0
    · subst hq
      have HF := Lib.hid hI.fin
      clear hI
      go_wp2
      exact bodyPost_ret (v := .int .i64 (out : Int)) (by simp [results, Tryd.results29, go_sem]) rfl ⟨out, rfl, HF.out.2, HF.out.1, rfl⟩
    · have hqp : (0 : Int) < (q : Int) := by omega
      obtain ⟨hlow, hand⟩ := ctz_low hq (show Few q by unfold Few; omega)
      have hcN := hI.lq _ hlow
      have hu64 : IntKind.u64.wrap (q : Int) = (q : Int) := u64_nat (by omega)
      have hw1 : IntKind.i64.wrap ((q : Int) - 1) = ((q - 1 : Nat) : Int) := by rw [show (q : Int) - 1 = ((q - 1 : Nat) : Int) by omega]; exact wrap_nat (by omega)
      have htz := tz_any q (by omega) hq w HT.out
      have Htz := Lib.hid htz
      generalize Lib.ctz 64 q = c at *
      have hnm := HM.out c
      have ct := Hr.out.cell hcN
      simp only [rn] at ct
      have hmc24 : M c < 16777216 := pow_few hN (bits_lt fun u hu => ((hnm u hcN).1 hu).1)
      have hst := hI.step hv hlow (fun u => hnm u hcN) hand
      have HS := Lib.hid hst
      have e1 := op_and (show Few q by unfold Few; omega) (show Few (q - 1) by unfold Few; omega)
      have hq1 : land q (q - 1) < 16777216 := Nat.lt_of_le_of_lt Nat.and_le_left hq24
      have e2 := op_andNot (show Few (M c) by unfold Few; omega) (show Few seen by unfold Few; omega)
      have hm24 : less (M c) seen < 16777216 := pow_few hN (bits_lt fun u hu => by rw [less_bit] at hu; exact ((hnm u hcN).1 (Bool.and_eq_true _ _ |>.mp hu).1).1)
      have Hlo := Lib.hid (show lor out (less (less (M c) seen) set) < 2 ^ N from bits_lt fun u hu => by
        rw [lor_bit, less_bit, less_bit] at hu
        rcases Bool.or_eq_true _ _ |>.mp hu with k | k
        · rcases Nat.lt_or_ge u N with h | h
          · exact h
          · rw [Nat.testBit_lt_two_pow (Nat.lt_of_lt_of_le ho (Nat.pow_le_pow_right (by omega) h))] at k; cases k
        · exact ((hnm u hcN).1 (Bool.and_eq_true _ _ |>.mp (Bool.and_eq_true _ _ |>.mp k).1).1).1)
      generalize M c = mc at *
      generalize land q (q - 1) = q1 at *
      generalize less mc seen = mo at *
      have e3 := op_or (show Few seen by unfold Few; omega) (show Few mo by unfold Few; omega)
      have e4 := op_and (show Few mo by unfold Few; omega) hfs
      have hl24 : land mo set < 16777216 := Nat.lt_of_le_of_lt Nat.and_le_left hm24
      have e6 := op_andNot (show Few mo by unfold Few; omega) hfs
      have hl25 : less mo set < 16777216 := Nat.lt_of_le_of_lt (Nat.le_of_testBit fun u hu => by rw [less_bit] at hu; exact (Bool.and_eq_true _ _ |>.mp hu).1) hm24
      generalize land mo set = ms at *
      generalize less mo set = md at *
      have e5 := op_or (show Few q1 by unfold Few; omega) (show Few ms by unfold Few; omega)
      have e7 := op_or (show Few out by unfold Few; omega) (show Few md by unfold Few; omega)
      clear hI hnm hst hlow hand htz
      go_wp2_with (go_at_call 30; refine Htz.out.mono ?_; rintro e w2 ⟨rfl, rfl⟩)
      go_roundg (cntN N (fun u => !(lor seen mo).testBit u) + cntN N (fun u => (lor q1 ms).testBit u))
      case measure => exact HS.out.2
      case rel => exact ⟨lor q1 ms, lor seen mo, lor out md, rfl, rfl, rfl, rfl, HS.out.1, Hlo.out, rfl⟩

end Go.Proofs.YtnmljgjegodkaaaDoor
