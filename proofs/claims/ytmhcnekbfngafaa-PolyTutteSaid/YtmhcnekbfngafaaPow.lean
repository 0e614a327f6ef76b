/- arborref.Power. -/
import Derived.Test.YtmhcnekbfngafaaTutP
import Derived.Test.YtmhcnekbfngafaaRowMem
import Derived.Test.YtmhcnekbfngafaaRCheck
import Derived.Deep.Light
import Derived.Deep.Modes
namespace Go.Proofs.Ytmhcnekbfngafaa
open Go Go.RowKit

theorem pw_few : ∀ n i, -((2 ^ n : Nat) : Int) ≤ pw n i ∧ pw n i ≤ ((2 ^ n : Nat) : Int)
  | 0, i => by rw [pw]; split <;> simp
  | n + 1, 0 => by have := pw_few n 0; rw [pw, Nat.pow_succ]; omega
  | n + 1, i + 1 => by have := pw_few n i; have := pw_few n (i + 1); rw [pw, Nat.pow_succ]; omega
theorem pw_small {n : Nat} (hn : n ≤ 12) (i : Nat) : -4096 ≤ pw n i ∧ pw n i ≤ 4096 := by
  have h1 := pw_few n i
  have h2 : (2 : Nat) ^ n ≤ 2 ^ 12 := Nat.pow_le_pow_right (by omega) hn
  omega
def midP (k q j : Nat) : Int := (if j < q then - pw k j else 0) + if 0 < j ∧ j ≤ q then pw k (j - 1) else 0
theorem midP_few {k : Nat} (hk : k ≤ 12) (q j : Nat) : -8192 ≤ midP k q j ∧ midP k q j ≤ 8192 := by
  have h1 := pw_small hk j; have h2 := pw_small hk (j - 1)
  unfold midP; split <;> split <;> omega
theorem midP_next (k q j : Nat) : (if j = q + 1 then pw k q else if j = q then midP k q q - pw k q else midP k q j) = midP k (q + 1) j := by
  unfold midP
  by_cases e : j = q + 1
  · subst e
    rw [if_pos rfl, if_neg (by omega), if_pos (by omega), Nat.add_sub_cancel]; omega
  · rw [if_neg e]
    by_cases e2 : j = q
    · subst e2
      rw [if_pos rfl, if_neg (by omega), if_pos (show j < j + 1 by omega)]
      by_cases e3 : 0 < j
      · rw [if_pos ⟨e3, Nat.le_refl _⟩, if_pos ⟨e3, by omega⟩]; omega
      · rw [if_neg (by omega), if_neg (by omega)]; omega
    · rw [if_neg e2]
      congr 1
      · by_cases e3 : j < q
        · rw [if_pos e3, if_pos (by omega)]
        · rw [if_neg e3, if_neg (by omega)]
      · by_cases e3 : 0 < j ∧ j ≤ q
        · rw [if_pos e3, if_pos (by omega)]
        · rw [if_neg e3, if_neg (by omega)]
theorem midP_end {k j : Nat} (hj : j < k + 2) : midP k (k + 1) j = pw (k + 1) j := by
  unfold midP
  cases j with
  | zero => rw [if_pos (by omega), if_neg (by omega), pw]; omega
  | succ j =>
    rw [pw, if_pos (show 0 < j + 1 ∧ j + 1 ≤ k + 1 by omega), Nat.add_sub_cancel]
    by_cases e : j + 1 < k + 1
    · rw [if_pos e]; omega
    · rw [if_neg e, pw_far k (j + 1) (by omega)]; omega
theorem wrap_mid {x : Int} (h0 : -9000000000000000000 ≤ x) (h : x ≤ 9000000000000000000) : IntKind.i64.wrap x = x := by
  simp [IntKind.wrap, IntKind.bits, IntKind.signed]; omega
/-- A row of numbers comes back. -/
def RowPost (n : Nat) (f : Nat → Int) (w : World) (e : Ending) (w' : World) : Prop := ∃ b, e = .returned (.slice (some ⟨b, 0, none⟩) n n) ∧ w.heap.size ≤ b ∧ w'.rowIs b 3 n (ri f) ∧ Below w.heap.size w w'

set_option maxHeartbeats 6400000 in
set_option maxRecDepth 100000 in
theorem power_any (n : Nat) (hn : n ≤ 12) (w : World) : Calls Try.prog 52 #[.int .i64 (n : Int)] w (RowPost (n + 1) (pw n) w) := by
  have hr0 := World.rowIs_alloc w #[.int .i64 1] 3 (ri (pw 0)) (fun i hi => by
    match i, hi with
    | 0, _ => rfl)
  have Hr0 := Lib.hid hr0
  have Hb0 := Lib.hid (below1 w (Obj.cells #[.int .i64 1] 3))
  clear hr0
  go_enter Try.func52, Try.ntmps52
  go_wp2
  generalize w.alloc (Obj.cells #[.int .i64 1] 3) = w1 at *
  go_loopg [3, 4] n (fun g s3 s4 wr => ∃ k b : Nat, k ≤ n ∧ g = n - k ∧ s4 = .int .i64 (k : Int) ∧ s3 = .slice (some ⟨b, 0, none⟩) (k + 1) (k + 1) ∧ wr.rowIs b 3 (k + 1) (ri (pw k)) ∧ w.heap.size ≤ b ∧ Below w.heap.size w wr)
  case atStart => exact ⟨0, w.heap.size, Nat.zero_le _, rfl, rfl, rfl, Hr0.out, Nat.le_refl _, Hb0.out⟩
  case round =>
    obtain ⟨k, b, hk, rfl, rfl, rfl, hr, hlb, hb⟩ := hrel
    have Hr := Lib.hid hr; have Hb := Lib.hid hb
    by_cases hkn : k < n
    · have hmk := run_make_row' (P := Try.prog) 39 3 (.int .i64 0) 8 Try.underlying39 info3 rfl .i64 .i64 (k + 2) (by omega) (by omega)
      have hwk : ((k + 2 : Nat) : Int) = (k : Int) + 1 + 1 := by omega
      rw [hwk] at hmk
      have lr := hr.lt
      have Hm := Lib.hid (row_ri ((World.rowIs_made wr (.int .i64 0) (k + 2) 3).congr (g := ri fun _ => 0) fun _ _ => rfl) (g' := midP k 0) fun j _ => by unfold midP; rw [if_neg (by omega), if_neg (by omega)]; rfl)
      have Hr2 := Lib.hid (hr.of_block ((below1 wr (.cells (madeCells #[.int .i64 0] (k + 2)) 3)).block _ lr))
      have Hb2 := Lib.hid (hb.trans ((below1 wr (.cells (madeCells #[.int .i64 0] (k + 2)) 3)).mono hb.size))
      have hbs := hb.size
      clear hr hb
      go_wp2
      clear hmk
      generalize wr.alloc (.cells (madeCells #[.int .i64 0] (k + 2)) 3) = w2 at *
      generalize wr.heap.size = bn at *
      obtain ⟨wy, rfl⟩ : ∃ wy : World, wy = w2 := ⟨_, rfl⟩
      have nb : b ≠ bn := by omega
      go_loopg [6] (k + 1) (fun g s6 wr => ∃ q : Nat, q ≤ k + 1 ∧ g = k + 1 - q ∧ s6 = .int .i64 (q : Int) ∧ wr.rowIs bn 3 (k + 2) (ri (midP k q)) ∧ wr.rowIs b 3 (k + 1) (ri (pw k)) ∧ Below w.heap.size w wr)
      case atStart => exact ⟨0, Nat.zero_le _, rfl, rfl, Hm.out, Hr2.out, Hb2.out⟩
      case round =>
        obtain ⟨q, hq, rfl, rfl, hm, hr, hb⟩ := hrel
        have Hm3 := Lib.hid hm; have Hr3 := Lib.hid hr; have Hb3 := Lib.hid hb
        by_cases hqk : q < k + 1
        · have t1 : wr.drew.cell? ⟨bn, q, none⟩ = some (.int .i64 (midP k q q)) := hm.cell (by omega)
          have f1 : wr.drew.frozen? ⟨bn, q, none⟩ = false := hm.frozen q
          have l1 : bn < wr.drew.heap.size := hm.lt
          have t2 : wr.drew.cell? ⟨b, q, none⟩ = some (.int .i64 (pw k q)) := hr.cell hqk
          have hz := pw_small (show k ≤ 12 by omega) q
          have hx := midP_few (show k ≤ 12 by omega) q q
          have h0 : midP k q (q + 1) = 0 := by unfold midP; rw [if_neg (by omega), if_neg (by omega)]; rfl
          have r1 := row_set_ri hm q (midP k q q - pw k q)
          have r2 := row_set_ri r1 (q + 1) (pw k q)
          have R2 := Lib.hid (row_ri r2 fun j _ => midP_next k q j)
          have t3 : ((wr.setCell ⟨bn, q, none⟩ (.int .i64 (midP k q q - pw k q))).drew.drew).cell? ⟨bn, q + 1, none⟩ = some (.int .i64 0) := by
            have := r1.cell (show q + 1 < k + 2 by omega)
            simp only [ri, if_neg (show ¬ q + 1 = q by omega), h0] at this
            exact this
          have f3 : ((wr.setCell ⟨bn, q, none⟩ (.int .i64 (midP k q q - pw k q))).drew.drew).frozen? ⟨bn, q + 1, none⟩ = false := r1.frozen (q + 1)
          have l3 : bn < ((wr.setCell ⟨bn, q, none⟩ (.int .i64 (midP k q q - pw k q))).drew.drew).heap.size := r1.lt
          have t4 : ((wr.setCell ⟨bn, q, none⟩ (.int .i64 (midP k q q - pw k q))).drew.drew).cell? ⟨b, q, none⟩ = some (.int .i64 (pw k q)) := (hr.setOther (a := ⟨bn, q, none⟩) nb (.int .i64 (midP k q q - pw k q))).cell hqk
          have R3 := Lib.hid ((hr.setOther (a := ⟨bn, q, none⟩) nb (.int .i64 (midP k q q - pw k q))).setOther (a := ⟨bn, q + 1, none⟩) nb (.int .i64 (pw k q)))
          have B3 := Lib.hid ((((hb.drew).setCell (p := ⟨bn, q, none⟩) (show w.heap.size ≤ bn by omega) (.int .i64 (midP k q q - pw k q))).drew).setCell (p := ⟨bn, q + 1, none⟩) (show w.heap.size ≤ bn by omega) (.int .i64 (pw k q)))
          generalize pw k q = z at *
          generalize midP k q q = x at *
          have x1 : IntKind.i64.wrap (x - z) = x - z := wrap_mid (by omega) (by omega)
          have x3 : IntKind.i64.wrap ((q : Int) + 1) = (q : Int) + 1 := wrap_mid (by omega) (by omega)
          have x2 : IntKind.i64.wrap z = z := wrap_mid (by omega) (by omega)
          have i5 : (0 : Int) ≤ (q : Int) + 1 := by omega
          have i6 : (q : Int) < (k : Int) + 1 + 1 := by omega
          have i7 : (q : Int) + 1 < (k : Int) + 1 + 1 := by omega
          have i8 : (q : Int) < (k : Int) + 1 := by omega
          have T3 := Lib.hid (And.intro t3 (And.intro f3 (And.intro l3 t4)))
          clear hm hr hb h0 r1 r2 t3 f3 l3 t4
          go_wp2
          refine region_tail 10 (by kernel_rfl) (by kernel_rfl) ?_
          simp only [List.take_succ_cons, List.take_zero, List.drop_succ_cons, List.drop_zero]
          repeat still_step
          refine wpStill_nil ?_
          go_wp2
          refine region_tail 11 (by kernel_rfl) (by kernel_rfl) ?_
          clear t1 f1 l1 t2
          obtain ⟨t3, f3, l3, t4⟩ := T3.out
          simp only [List.take_succ_cons, List.take_zero, List.drop_succ_cons, List.drop_zero]
          repeat still_step
          refine wpStill_nil ?_
          go_wp2
          go_roundg (k + 1 - (q + 1))
          case measure => go_light; omega
          case rel => exact ⟨q + 1, by omega, rfl, by go_num, R2.out, R3.out, B3.out⟩
        · obtain rfl : q = k + 1 := by omega
          clear hm hr hb
          go_wp2
          go_roundg (n - (k + 1))
          case measure => go_light; omega
          case rel => exact ⟨k + 1, bn, by omega, rfl, by go_num, by congr 1, row_ri Hm3.out fun j hj => midP_end hj, by omega, Hb3.out⟩
    · obtain rfl : n = k := by omega
      clear hr hb
      go_wp2
      go_ret
      exact ⟨b, rfl, hlb, Hr.out, Hb.out⟩

end Go.Proofs.Ytmhcnekbfngafaa
