/- arborref.Far: how far all nodes are from one. -/
import Derived.Test.YtnmljgjegodkaaaPA
import Derived.Test.YtnmljgjegodkaaaHasGrid
namespace Go.Proofs.Ytnmljgjegodkaaa
open Go.RowKit

/-- Numbers come back that tell how far. -/
def FarPost (N : Nat) (G : Nat → Nat → Bool) (a : Nat) (w : World) (e : Ending) (w' : World) : Prop :=
  ∃ b F, e = .returned (.slice (some ⟨b, 0, none⟩) N N) ∧ w.heap.size ≤ b ∧ w'.rowIs b 3 N (ri F) ∧ FarOk N G a F ∧ Below w.heap.size w w'
/-- A table's entries lie still. -/
theorem grid_cells {w wr : World} {Bg b o N : Nat} {R : Nat → Nat} {G : Nat → Nat → Bool} (h : Grid w Bg b o N R G) (hb : Below w.heap.size w wr) {i j : Nat} (hi : i < N) (hj : j < N) :
    wr.cell? ⟨b, o + i, none⟩ = some (.slice (some ⟨R i, 0, none⟩) N N) ∧ wr.cell? ⟨R i, j, none⟩ = some (.bool (G i j)) := ⟨below_cell hb (h.head i hi), below_cell hb (h.cell hi hj)⟩

set_option maxHeartbeats 3200000 in
set_option maxRecDepth 100000 in
theorem rfar_any (N a : Nat) (G : Nat → Nat → Bool) (gv : Value) (w : World) (hN : N ≤ 100) (ha : a < N) (hg : HasGrid w gv N G) :
    Calls Try.prog 19 #[gv, .int .i64 (a : Int)] w (FarPost N G a w) := by
  obtain ⟨Bg, ga, gc, gb, go', R, rfl, hgc, hga, hgrid⟩ := hg
  obtain rfl := (hga (by omega)).1
  have Hgr := Lib.hid hgrid
  clear hgrid hga
  have hmk := run_make_row' (P := Try.prog) 29 3 (.int .i64 0) 8 Try.underlying29 info3 rfl .i64 .i64 N (by omega) (by omega)
  have hr1 := World.rowIs_made w (.int .i64 0) N 3
  have hb1 := below1 w (.cells (madeCells #[.int .i64 0] N) 3)
  have Hr1 := Lib.hid (hr1.congr (g := ri fun _ => 0) fun _ _ => rfl); have Hb1 := Lib.hid hb1
  clear hr1 hb1
  go_enter Try.func19, Try.ntmps19
  go_upto_region 2 with fail
  clear hmk
  generalize w.alloc (.cells (madeCells #[.int .i64 0] N) 3) = w1 at *
  go_wp2
  go_loopg [6] N (fun g s6 wr => ∃ k : Nat, k ≤ N ∧ g = N - k ∧ s6 = .int .i64 k ∧ wr.rowIs w.heap.size 3 N (ri fun q => if q < k then -1 else 0) ∧ Below w.heap.size w wr)
  case atStart => exact ⟨0, Nat.zero_le _, rfl, rfl, Hr1.out.congr fun q _ => by simp [ri], Hb1.out⟩
  case round =>
    obtain ⟨k, hk, rfl, rfl, hr, hb⟩ := hrel
    have Hr := Lib.hid hr; have Hb := Lib.hid hb
    by_cases hlt : k < N
    · have ck := hr.cell hlt
      have fk := hr.frozen k
      have lk := hr.lt
      clear hr hb
      go_wp2
      go_roundg (N - (k + 1))
      case measure => go_light; omega
      case rel => exact ⟨k + 1, by omega, rfl, by go_num, row_ri (row_set_ri Hr.out k (-1)) fun q hq => by
        by_cases e : q = k
        · subst e; simp
        · rw [if_neg e]
          by_cases e2 : q < k
          · rw [if_pos e2, if_pos (by omega)]
          · rw [if_neg e2, if_neg (by omega)], Hb.out.setCell (p := ⟨w.heap.size, k, none⟩) (Nat.le_refl _) _⟩
    · obtain rfl : N = k := by omega
      have cO := hr.cell ha
      have fO := hr.frozen a
      have lO := hr.lt
      have Hr2 := Lib.hid (row_ri (g' := fun v => if v = a then 0 else -1) (row_set_ri Hr.out a 0) (fun q hq => by
        by_cases e : q = a
        · simp [e]
        · simp only [if_neg e, if_pos hq]))
      have Hb2 := Lib.hid (Hb.out.setCell (p := ⟨w.heap.size, a, none⟩) (Nat.le_refl _) (.int .i64 0))
      clear hr hb Hr Hb
      go_wp2
      generalize wr.setCell ⟨w.heap.size, a, none⟩ (.int .i64 0) = w2 at *
      clear cO fO lO
      go_loopg [7] N (fun g s7 wr => ∃ (d : Nat) (F : Nat → Int), d ≤ N ∧ g = N - d ∧ s7 = .int .i64 d ∧ FarI N G a d 0 0 F ∧ wr.rowIs w.heap.size 3 N (ri F) ∧ Below w.heap.size w wr)
      case atStart => exact ⟨0, _, Nat.zero_le _, rfl, rfl, FarI.start, Hr2.out, Hb2.out⟩
      case round =>
        obtain ⟨d, F, hd, rfl, rfl, hf, hr, hb⟩ := hrel
        have Hf := Lib.hid hf; have Hr := Lib.hid hr; have Hb := Lib.hid hb
        clear hf hr hb
        by_cases hdl : d < N
        · go_wp2
          go_loopg [8] N (fun g s8 wr => ∃ (i : Nat) (F : Nat → Int), i ≤ N ∧ g = N - i ∧ s8 = .int .i64 i ∧ FarI N G a d i 0 F ∧ wr.rowIs w.heap.size 3 N (ri F) ∧ Below w.heap.size w wr)
          case atStart => exact ⟨0, F, Nat.zero_le _, rfl, rfl, Hf.out, Hr.out, Hb.out⟩
          case round =>
            clear Hf Hr Hb
            obtain ⟨i, F, hi, rfl, rfl, hf, hr, hb⟩ := hrel
            have Hf := Lib.hid hf; have Hr := Lib.hid hr; have Hb := Lib.hid hb
            clear hf hr hb
            by_cases hil : i < N
            · go_wp2
              go_loopg [9] N (fun g s9 wr => ∃ (j : Nat) (F : Nat → Int), j ≤ N ∧ g = N - j ∧ s9 = .int .i64 j ∧ FarI N G a d i j F ∧ wr.rowIs w.heap.size 3 N (ri F) ∧ Below w.heap.size w wr)
              case atStart => exact ⟨0, F, Nat.zero_le _, rfl, rfl, Hf.out, Hr.out, Hb.out⟩
              case round =>
                clear Hf Hr Hb
                obtain ⟨j, F, hj, rfl, rfl, hf, hr, hb⟩ := hrel
                have Hf := Lib.hid hf; have Hr := Lib.hid hr; have Hb := Lib.hid hb
                by_cases hjl : j < N
                · have ci := hr.cell hil
                  have cj := hr.cell hjl
                  have fj := hr.frozen j
                  have lj := hr.lt
                  simp only [ri] at ci cj
                  obtain ⟨t1, t2⟩ := grid_cells Hgr.out hb hil hjl
                  have hstep := fun h => hf.skip (i := i) (j := j) h
                  have hset := fun h1 h2 h3 => hf.set hil hjl h1 h2 h3
                  have Hstep := Lib.hid hstep; have Hset := Lib.hid hset
                  clear hf hr hb hstep hset
                  by_cases h1 : F i = (d : Int)
                  · have q1 : (F i == (d : Int)) = true := by simp [h1]
                    rw [h1] at ci
                    cases h2 : G i j with
                    | false =>
                      rw [h2] at t2
                      have Hno := Lib.hid (Hstep.out fun h => by rw [h2] at h; simp at h)
                      clear h1 q1 h2
                      go_wp2
                      go_roundg (N - (j + 1))
                      case measure => go_light; omega
                      case rel => exact ⟨j + 1, F, by omega, rfl, by go_num, Hno.out, Hr.out, Hb.out⟩
                    | true =>
                      rw [h2] at t2
                      by_cases h3 : F j < 0
                      · have Hyes := Lib.hid (Hset.out h1 h2 h3)
                        clear h1 q1 h2
                        go_wp2
                        go_roundg (N - (j + 1))
                        case measure => go_light; omega
                        case rel => exact ⟨j + 1, _, by omega, rfl, by go_num, Hyes.out, row_set_ri Hr.out j ((d : Int) + 1), Hb.out.setCell (p := ⟨w.heap.size, j, none⟩) (Nat.le_refl _) _⟩
                      · have Hno := Lib.hid (Hstep.out fun h => h3 h.2.2)
                        clear h1 q1 h2
                        go_wp2
                        go_roundg (N - (j + 1))
                        case measure => go_light; omega
                        case rel => exact ⟨j + 1, F, by omega, rfl, by go_num, Hno.out, Hr.out, Hb.out⟩
                  · have q1 : (F i == (d : Int)) = false := by simp [h1]
                    have Hno := Lib.hid (Hstep.out fun h => h1 h.1)
                    clear h1
                    go_wp2
                    go_roundg (N - (j + 1))
                    case measure => go_light; omega
                    case rel => exact ⟨j + 1, F, by omega, rfl, by go_num, Hno.out, Hr.out, Hb.out⟩
                · obtain rfl : j = N := by omega
                  clear hf hr hb
                  go_wp2
                  go_roundg (j - (i + 1))
                  case measure => go_light; omega
                  case rel => exact ⟨i + 1, F, by omega, rfl, by go_num, Hf.out.row, Hr.out, Hb.out⟩
            · obtain rfl : i = N := by omega
              go_wp2
              go_roundg (i - (d + 1))
              case measure => go_light; omega
              case rel => exact ⟨d + 1, F, by omega, rfl, by go_num, Hf.out.round, Hr.out, Hb.out⟩
        · obtain rfl : d = N := by omega
          go_wp2
          go_ret
          exact ⟨w.heap.size, F, rfl, Nat.le_refl _, Hr.out, Hf.out.done ha, Hb.out⟩

end Go.Proofs.Ytnmljgjegodkaaa
