/- arborref.Reach. arborref.Parts. -/
import Derived.Test.YtnhhohhhpaejmaaPA
import Derived.Test.YtnhhohhhpaejmaaHasGrid
namespace Go.Proofs.Ytnhhohhhpaejmaa
open Go.RowKit

/-- What is shut: behind the end nothing is. -/
def HasShut (w : World) (v : Value) (S : Nat → Bool) : Prop :=
  ∃ (a : Option Addr) (n cap b o : Nat), v = .slice a n cap ∧ n ≤ cap ∧ cap ≤ 9223372036854775807 ∧ (0 < n → a = some ⟨b, o, none⟩) ∧ (∀ j, j < n → w.cell? ⟨b, o + j, none⟩ = some (.bool (S j))) ∧ ∀ j, n ≤ j → S j = false
theorem HasShut.below {w w' : World} {v : Value} {S : Nat → Bool} (h : HasShut w v S) (hb : Below w.heap.size w w') : HasShut w' v S := by
  obtain ⟨a, n, cap, b, o, h1, h2, h3, h4, h5, h6⟩ := h
  exact ⟨a, n, cap, b, o, h1, h2, h3, h4, fun j hj => below_cell hb (h5 j hj), h6⟩
theorem HasShut.nil (w : World) : HasShut w (.slice none 0 0) (fun _ => false) := ⟨none, 0, 0, 0, 0, rfl, Nat.le_refl _, by omega, by simp, by simp, fun _ _ => rfl⟩

/-- The nodes that are in, under way. -/
structure RcSt (w wr : World) (bI N : Nat) (I : Nat → Bool) : Prop where
  hb : Below w.heap.size w wr
  nI : w.heap.size ≤ bI
  row : wr.rowIs bI 4 N (rb I)
theorem RcSt.set {w wr : World} {bI N : Nat} {I : Nat → Bool} (h : RcSt w wr bI N I) (k : Nat) (x : Bool) : RcSt w (wr.setCell ⟨bI, k, none⟩ (.bool x)) bI N (fun q => if q = k then x else I q) :=
  ⟨h.hb.setCell h.nI _, h.nI, row_set_rb h.row k x⟩
theorem RcSt.below {w wr w' : World} {bI N : Nat} {I : Nat → Bool} (h : RcSt w wr bI N I) (hb : Below wr.heap.size wr w') : RcSt w w' bI N I :=
  ⟨h.hb.trans (hb.mono h.hb.size), h.nI, h.row.of_block (hb.block _ h.row.lt)⟩

/-- A row of bools comes back. -/
def BoolsPost (N : Nat) (I : Nat → Bool) (w : World) (e : Ending) (w' : World) : Prop := ∃ b, e = .returned (.slice (some ⟨b, 0, none⟩) N N) ∧ w.heap.size ≤ b ∧ w'.rowIs b 4 N (rb I) ∧ Below w.heap.size w w'

set_option maxHeartbeats 6400000 in
set_option maxRecDepth 100000 in
theorem reach_any (N a : Nat) (G : Nat → Nat → Bool) (S : Nat → Bool) (gv sv : Value) (w : World) (hN : N ≤ 100) (ha : a < N) (hg : HasGrid w gv N G) (hs : HasShut w sv S) :
    Calls Try.prog 50 #[gv, .int .i64 (a : Int), sv] w (BoolsPost N (rchB N G S a) w) := by
  have Hg := Lib.hid hg
  obtain ⟨B, ga, gc, gb, go, R0, rfl, -⟩ := hg
  obtain ⟨sa, n, sc, sb, so, rfl, hn1, hn2, hadr, hcell, hbeh⟩ := hs
  have Hcell := Lib.hid hcell
  have Hbeh := Lib.hid hbeh
  have Hadr := Lib.hid hadr
  have hmk := run_make_row' (P := Try.prog) 39 4 (.bool false) 1 Try.underlying39 info4 rfl .i64 .i64 N (by omega) (by omega)
  have hr1 := World.rowIs_made w (.bool false) N 4
  have R1 := Lib.hid (RcSt.mk (bI := w.heap.size) (I := fun _ => false) (below1 w (.cells (madeCells #[.bool false] N) 4)) (Nat.le_refl _) (hr1.congr fun _ _ => rfl))
  clear hcell hbeh hadr hr1
  go_enter Try.func50, Try.ntmps50
  go_upto_region 2 with fail
  clear hmk
  generalize w.alloc (.cells (madeCells #[.bool false] N) 4) = w1 at *
  have t0 := R1.out.row.cell ha
  have f0 := R1.out.row.frozen a
  have R2 := Lib.hid (R1.out.set a true)
  have Con0 := Lib.hid (show ∀ k, k < N → (if k = a then true else false) = true → Rch N G S a k from fun k _ h => by
    by_cases e : k = a
    · rw [e]; exact .refl
    · rw [if_neg e] at h; cases h)
  go_wp2
  clear t0 f0
  go_loopg [8] (N + 1) (fun g s8 wr => ∃ (I : Nat → Bool) (ag : Bool), s8 = .bool ag ∧ I a = true ∧ (∀ k, k < N → I k = true → Rch N G S a k) ∧ (ag = false → ∀ k, k < N → I k = rchB N G S a k) ∧ (if ag = true then N - cnt I N + 1 else 0) ≤ g ∧ RcSt w wr w.heap.size N I)
  case atStart => exact ⟨_, true, rfl, by simp, Con0.out, (fun h => by cases h), by rw [if_pos rfl]; omega, R2.out⟩
  case round =>
    obtain ⟨I, ag, rfl, hia, hcon, hfin, hme, hst⟩ := hrel
    have Hfin := Lib.hid hfin
    have Hme := Lib.hid hme
    have Hst := Lib.hid hst
    have P0 := Lib.hid (Pass.start hia hcon)
    clear hia hcon hfin hme hst
    cases ag
    · go_wp2
      go_ret
      exact ⟨_, rfl, Nat.le_refl _, row_rb Hst.out.row (Hfin.out (by first | rfl | trivial)), Hst.out.hb⟩
    · go_wp2
      obtain ⟨wo, rfl⟩ : ∃ wo : World, wo = wr := ⟨_, rfl⟩
      go_loopg [8, 9] N (fun g s8 s9 wr => ∃ (i : Nat) (J : Nat → Bool) (ag : Bool), i ≤ N ∧ g = N - i ∧ s9 = .int .i64 i ∧ s8 = .bool ag ∧ Pass N G S a I J ag i 0 ∧ RcSt w wr w.heap.size N J)
      case atStart => exact ⟨0, _, _, Nat.zero_le _, rfl, rfl, rfl, P0.out, Hst.out⟩
      case round =>
        obtain ⟨i, J, ag, hi, rfl, rfl, rfl, hp, hst⟩ := hrel
        have Hp := Lib.hid hp
        have Hst2 := Lib.hid hst
        clear hp hst
        by_cases hiN : i < N
        · go_wp2
          obtain ⟨w5, rfl⟩ : ∃ w5 : World, w5 = wr := ⟨_, rfl⟩
          go_loopg [8, 10] N (fun g s8 s10 wr => ∃ (j : Nat) (K : Nat → Bool) (ag : Bool), j ≤ N ∧ g = N - j ∧ s10 = .int .i64 j ∧ s8 = .bool ag ∧ Pass N G S a I K ag i j ∧ RcSt w wr w.heap.size N K)
          case atStart => exact ⟨0, _, _, Nat.zero_le _, rfl, rfl, rfl, Hp.out, Hst2.out⟩
          case round =>
            obtain ⟨j, K, ag, hj, rfl, rfl, rfl, hp, hst⟩ := hrel
            have Hp3 := Lib.hid hp
            have Hst3 := Lib.hid hst
            by_cases hjN : j < N
            · obtain ⟨b, o, c, r, he, c1, c2⟩ := (Hg.out.below hst.hb).entry hiN hjN
              simp only [Value.slice.injEq, true_and] at he
              obtain ⟨rfl, rfl⟩ := he
              have t1 : wr.cell? ⟨w.heap.size, i, none⟩ = some (.bool (K i)) := hst.row.cell hiN
              have t2 : wr.cell? ⟨w.heap.size, j, none⟩ = some (.bool (K j)) := hst.row.cell hjN
              have f2 := hst.row.frozen j
              have lr := hst.row.lt
              have Add := Lib.hid (fun h1 h2 h3 h4 => Hp3.out.add hiN hjN h1 h2 h3 h4)
              have Set := Lib.hid (hst.set j true)
              have Skip := Lib.hid Hp3.out.skip
              have hbe := Hbeh.out j
              have hce : j < n → wr.cell? ⟨sb, so + j, none⟩ = some (.bool (S j)) := fun h => below_cell hst.hb (Hcell.out j h)
              clear hp hst
              cases hx : K i
              · rw [hx] at t1
                have Hx := Lib.hid hx
                clear hx hbe hce
                go_wp2
                go_roundg (N - (j + 1))
                case measure => go_light; omega
                case rel => exact ⟨j + 1, K, ag, by omega, rfl, by go_num, rfl, Skip.out (fun h => by rw [Hx.out] at h; cases h.1), Hst3.out⟩
              · rw [hx] at t1
                have Hx := Lib.hid hx
                clear hx
                cases hy : G i j
                · rw [hy] at c2
                  have Hy := Lib.hid hy
                  clear hy hbe hce
                  go_wp2
                  go_roundg (N - (j + 1))
                  case measure => go_light; omega
                  case rel => exact ⟨j + 1, K, ag, by omega, rfl, by go_num, rfl, Skip.out (fun h => by rw [Hy.out] at h; cases h.2.1), Hst3.out⟩
                · rw [hy] at c2
                  have Hy := Lib.hid hy
                  clear hy
                  cases hz : K j
                  · rw [hz] at t2
                    have Hz := Lib.hid hz
                    clear hz
                    by_cases hjn : j < n
                    · obtain rfl := Hadr.out (by omega)
                      have t3 := hce hjn
                      clear hbe hce
                      cases hs : S j
                      · rw [hs] at t3
                        have Hs := Lib.hid hs
                        clear hs
                        go_wp2
                        go_roundg (N - (j + 1))
                        case measure => go_light; omega
                        case rel => exact ⟨j + 1, _, true, by omega, rfl, by go_num, rfl, Add.out Hx.out Hy.out Hz.out Hs.out, Set.out⟩
                      · rw [hs] at t3
                        have Hs := Lib.hid hs
                        clear hs
                        go_wp2
                        go_roundg (N - (j + 1))
                        case measure => go_light; omega
                        case rel => exact ⟨j + 1, K, ag, by omega, rfl, by go_num, rfl, Skip.out (fun h => by rw [Hs.out] at h; cases h.2.2.2), Hst3.out⟩
                    · have Hs := Lib.hid (hbe (by omega))
                      clear hbe hce
                      go_wp2
                      go_roundg (N - (j + 1))
                      case measure => go_light; omega
                      case rel => exact ⟨j + 1, _, true, by omega, rfl, by go_num, rfl, Add.out Hx.out Hy.out Hz.out Hs.out, Set.out⟩
                  · rw [hz] at t2
                    have Hz := Lib.hid hz
                    clear hz hbe hce
                    go_wp2
                    go_roundg (N - (j + 1))
                    case measure => go_light; omega
                    case rel => exact ⟨j + 1, K, ag, by omega, rfl, by go_num, rfl, Skip.out (fun h => by rw [Hz.out] at h; cases h.2.2.1), Hst3.out⟩
            · obtain rfl : j = N := by omega
              have Hn := Lib.hid Hp3.out.next
              clear hp hst
              go_wp2
              go_roundg (j - (i + 1))
              case measure => go_light; omega
              case rel => exact ⟨i + 1, K, ag, by omega, rfl, by go_num, rfl, Hn.out, Hst3.out⟩
        · obtain rfl : i = N := by omega
          have hle := cnt_le J i
          cases ag
          · go_wp2
            go_roundg 0
            case measure => go_light; have := Hme.out; simp at this; omega
            case rel => exact ⟨J, false, rfl, Hp.out.has, Hp.out.con, fun _ => Hp.out.fin ha, by simp, Hst2.out⟩
          · go_wp2
            go_roundg (i - cnt J i + 1)
            case measure => go_light; have h1 := Hme.out; have h2 := Hp.out.more (by first | rfl | trivial); simp at h1; omega
            case rel => exact ⟨J, true, rfl, Hp.out.has, Hp.out.con, (fun h => by cases h), by simp, Hst2.out⟩

end Go.Proofs.Ytnhhohhhpaejmaa
namespace Go.Proofs.Ytnhhohhhpaejmaa
open Go.RowKit

theorem doneB_zero {N : Nat} {G : Nat → Nat → Bool} {S : Nat → Bool} (k : Nat) : doneB N G S 0 k = false := by
  cases h : doneB N G S 0 k
  · rfl
  · obtain ⟨u, hu, _⟩ := doneB_iff.1 h
    exact absurd hu (Nat.not_lt_zero _)

set_option maxHeartbeats 6400000 in
set_option maxRecDepth 100000 in
theorem parts_any (N : Nat) (G : Nat → Nat → Bool) (S : Nat → Bool) (gv sv : Value) (w : World) (hN : N ≤ 100) (hg : HasGrid w gv N G) (hs : HasShut w sv S) :
    Calls Try.prog 51 #[gv, sv] w fun e w' => e = .returned (.int .i64 (partsF N G S : Int)) ∧ Below w.heap.size w w' := by
  have Hg := Lib.hid hg
  have Hs := Lib.hid hs
  obtain ⟨B, ga, gc, gb, go, R0, rfl, -⟩ := hg
  obtain ⟨sa, n, sc, sb, so, rfl, hn1, hn2, hadr, hcell, hbeh⟩ := hs
  have Hcell := Lib.hid hcell
  have Hbeh := Lib.hid hbeh
  have Hadr := Lib.hid hadr
  have hmk := run_make_row' (P := Try.prog) 39 4 (.bool false) 1 Try.underlying39 info4 rfl .i64 .i64 N (by omega) (by omega)
  have hr1 := World.rowIs_made w (.bool false) N 4
  have R1 := Lib.hid (RcSt.mk (bI := w.heap.size) (I := doneB N G S 0) (below1 w (.cells (madeCells #[.bool false] N) 4)) (Nat.le_refl _) (hr1.congr fun k _ => by simp [rb, doneB_zero]))
  clear hcell hbeh hadr hr1
  go_enter Try.func51, Try.ntmps51
  go_wp2
  clear hmk
  generalize w.alloc (.cells (madeCells #[.bool false] N) 4) = w1 at *
  go_loopg [6, 7] N (fun g s6 s7 wr => ∃ v : Nat, v ≤ N ∧ g = N - v ∧ s7 = .int .i64 v ∧ s6 = .int .i64 (cnt (leadB N G S) v : Int) ∧ RcSt w wr w.heap.size N (doneB N G S v))
  case atStart => exact ⟨0, Nat.zero_le _, rfl, rfl, rfl, R1.out⟩
  case round =>
    obtain ⟨v, hv, rfl, rfl, rfl, hst⟩ := hrel
    have Hst := Lib.hid hst
    have hcl := cnt_le (leadB N G S) v
    by_cases hvN : v < N
    · have t1 : wr.cell? ⟨w.heap.size, v, none⟩ = some (.bool (doneB N G S v v)) := hst.row.cell hvN
      have hce : v < n → wr.cell? ⟨sb, so + v, none⟩ = some (.bool (S v)) := fun h => below_cell hst.hb (Hcell.out v h)
      have hbe := Hbeh.out v
      have hle := leadB_eq (N := N) (G := G) (S := S) (v := v)
      have Hle := Lib.hid hle
      clear hle hst
      cases hd : doneB N G S v v
      · rw [hd] at t1
        have Hd := Lib.hid hd
        clear hd
        by_cases hsv : S v = true
        · have Hsv := Lib.hid hsv
          have hvn : v < n := by
            rcases Nat.lt_or_ge v n with h | h
            · exact h
            · rw [hbe h] at hsv; cases hsv
          have t2 := hce hvn
          rw [hsv] at t2
          obtain rfl := Hadr.out (by omega)
          have Hl := Lib.hid (show leadB N G S v = false by rw [Hle.out, Hsv.out]; simp)
          clear hsv hbe hce
          go_wp2
          go_roundg (N - (v + 1))
          case measure => go_light; omega
          case rel => exact ⟨v + 1, by omega, rfl, by go_num, by rw [cnt, if_neg (by rw [Hl.out]; exact Bool.false_ne_true)]; rfl, Hst.out.below (Below.refl _ _) |> fun h => ⟨h.hb, h.nI, row_rb h.row fun k _ => (doneB_other Hl.out k).symm⟩⟩
        · have hsf : S v = false := by simpa using hsv
          have Hsf := Lib.hid hsf
          have Hl := Lib.hid (show leadB N G S v = true by rw [Hle.out, Hsf.out, Hd.out]; rfl)
          have t2 : v < n → wr.cell? ⟨sb, so + v, none⟩ = some (.bool false) := fun h => by rw [hce h, hsf]
          have hget : v < n → sa = some ⟨sb, so, none⟩ := fun h => Hadr.out (by omega)
          clear hsv hsf hbe hce
          rcases Nat.lt_or_ge v n with hvn | hvn
          · have t2 := t2 hvn
            obtain rfl := hget hvn
            clear hget
            go_wp2_with fail
            refine (reach_any N v G S _ _ wr hN hvN (Hg.out.below Hst.out.hb) (Hs.out.below Hst.out.hb)).mono ?_
            rintro e wq ⟨bR, rfl, hbR, hrow, hbq⟩
            have Hst2 := Lib.hid (Hst.out.below hbq)
            have Hrow := Lib.hid hrow
            have hlt0 := Hst.out.row.lt
            have nR : w.heap.size ≠ bR := by omega
            clear hrow hbq t1
            go_wp2
            obtain ⟨w5, rfl⟩ : ∃ w5 : World, w5 = wq := ⟨_, rfl⟩
            go_loopg [9] N (fun g s9 wr => ∃ k : Nat, k ≤ N ∧ g = N - k ∧ s9 = .int .i64 k ∧ RcSt w wr w.heap.size N (fun q => if q < k then doneB N G S (v + 1) q else doneB N G S v q) ∧ wr.rowIs bR 4 N (rb (rchB N G S v)))
            case atStart => exact ⟨0, Nat.zero_le _, rfl, rfl, Hst2.out, Hrow.out⟩
            case round =>
              obtain ⟨k, hk, rfl, rfl, hst3, hrow3⟩ := hrel
              have Hst3 := Lib.hid hst3
              have Hrow3 := Lib.hid hrow3
              by_cases hkN : k < N
              · have t1 := hst3.row.cell hkN
                have f1 := hst3.row.frozen k
                simp only [rb, if_neg (Nat.lt_irrefl k)] at t1
                have t2 : wr.cell? ⟨bR, k, none⟩ = some (.bool (rchB N G S v k)) := hrow3.cell hkN
                have hdl := doneB_lead Hl.out k
                have l1 := hst3.row.lt
                have key : ∀ (x : Bool), x = doneB N G S (v + 1) k → RcSt w (wr.setCell ⟨w.heap.size, k, none⟩ (.bool x)) w.heap.size N (fun q => if q < k + 1 then doneB N G S (v + 1) q else doneB N G S v q) ∧ (wr.setCell ⟨w.heap.size, k, none⟩ (.bool x)).rowIs bR 4 N (rb (rchB N G S v)) := fun x hx => by
                  have h := Hst3.out.set k x
                  refine ⟨⟨h.hb, h.nI, row_rb h.row fun q _ => ?_⟩, Hrow3.out.setOther (Ne.symm nR) _⟩
                  by_cases e : q = k
                  · subst e; rw [if_pos rfl, if_pos (by omega)]; exact hx
                  · rw [if_neg e]
                    by_cases e2 : q < k
                    · rw [if_pos e2, if_pos (by omega)]
                    · rw [if_neg e2, if_neg (by omega)]
                have Key := Lib.hid key
                have Hdl := Lib.hid hdl
                clear hst3 hrow3 key hdl
                cases hd2 : doneB N G S v k
                · rw [hd2] at t1
                  have Hd2 := Lib.hid hd2
                  clear hd2
                  go_wp2
                  go_roundg (N - (k + 1))
                  case measure => go_light; omega
                  case rel => exact ⟨k + 1, by omega, rfl, by go_num, Key.out _ (by rw [Hdl.out, Hd2.out]; rfl)⟩
                · rw [hd2] at t1
                  have Hd2 := Lib.hid hd2
                  clear hd2
                  go_wp2
                  go_roundg (N - (k + 1))
                  case measure => go_light; omega
                  case rel => exact ⟨k + 1, by omega, rfl, by go_num, Key.out _ (by rw [Hdl.out, Hd2.out]; rfl)⟩
              · obtain rfl : k = N := by omega
                clear hst3 hrow3
                go_wp2
                go_roundg (k - (v + 1))
                case measure => go_light; omega
                case rel => exact ⟨v + 1, by omega, rfl, by go_num, by rw [cnt, if_pos Hl.out]; go_num, ⟨Hst3.out.hb, Hst3.out.nI, row_rb Hst3.out.row fun q hq => by rw [if_pos hq]⟩⟩
          · clear t2 hget
            go_wp2_with fail
            refine (reach_any N v G S _ _ wr hN hvN (Hg.out.below Hst.out.hb) (Hs.out.below Hst.out.hb)).mono ?_
            rintro e wq ⟨bR, rfl, hbR, hrow, hbq⟩
            have Hst2 := Lib.hid (Hst.out.below hbq)
            have Hrow := Lib.hid hrow
            have hlt0 := Hst.out.row.lt
            have nR : w.heap.size ≠ bR := by omega
            clear hrow hbq t1
            go_wp2
            obtain ⟨w5, rfl⟩ : ∃ w5 : World, w5 = wq := ⟨_, rfl⟩
            go_loopg [9] N (fun g s9 wr => ∃ k : Nat, k ≤ N ∧ g = N - k ∧ s9 = .int .i64 k ∧ RcSt w wr w.heap.size N (fun q => if q < k then doneB N G S (v + 1) q else doneB N G S v q) ∧ wr.rowIs bR 4 N (rb (rchB N G S v)))
            case atStart => exact ⟨0, Nat.zero_le _, rfl, rfl, Hst2.out, Hrow.out⟩
            case round =>
              obtain ⟨k, hk, rfl, rfl, hst3, hrow3⟩ := hrel
              have Hst3 := Lib.hid hst3
              have Hrow3 := Lib.hid hrow3
              by_cases hkN : k < N
              · have t1 := hst3.row.cell hkN
                have f1 := hst3.row.frozen k
                simp only [rb, if_neg (Nat.lt_irrefl k)] at t1
                have t2 : wr.cell? ⟨bR, k, none⟩ = some (.bool (rchB N G S v k)) := hrow3.cell hkN
                have hdl := doneB_lead Hl.out k
                have l1 := hst3.row.lt
                have key : ∀ (x : Bool), x = doneB N G S (v + 1) k → RcSt w (wr.setCell ⟨w.heap.size, k, none⟩ (.bool x)) w.heap.size N (fun q => if q < k + 1 then doneB N G S (v + 1) q else doneB N G S v q) ∧ (wr.setCell ⟨w.heap.size, k, none⟩ (.bool x)).rowIs bR 4 N (rb (rchB N G S v)) := fun x hx => by
                  have h := Hst3.out.set k x
                  refine ⟨⟨h.hb, h.nI, row_rb h.row fun q _ => ?_⟩, Hrow3.out.setOther (Ne.symm nR) _⟩
                  by_cases e : q = k
                  · subst e; rw [if_pos rfl, if_pos (by omega)]; exact hx
                  · rw [if_neg e]
                    by_cases e2 : q < k
                    · rw [if_pos e2, if_pos (by omega)]
                    · rw [if_neg e2, if_neg (by omega)]
                have Key := Lib.hid key
                have Hdl := Lib.hid hdl
                clear hst3 hrow3 key hdl
                cases hd2 : doneB N G S v k
                · rw [hd2] at t1
                  have Hd2 := Lib.hid hd2
                  clear hd2
                  go_wp2
                  go_roundg (N - (k + 1))
                  case measure => go_light; omega
                  case rel => exact ⟨k + 1, by omega, rfl, by go_num, Key.out _ (by rw [Hdl.out, Hd2.out]; rfl)⟩
                · rw [hd2] at t1
                  have Hd2 := Lib.hid hd2
                  clear hd2
                  go_wp2
                  go_roundg (N - (k + 1))
                  case measure => go_light; omega
                  case rel => exact ⟨k + 1, by omega, rfl, by go_num, Key.out _ (by rw [Hdl.out, Hd2.out]; rfl)⟩
              · obtain rfl : k = N := by omega
                clear hst3 hrow3
                go_wp2
                go_roundg (k - (v + 1))
                case measure => go_light; omega
                case rel => exact ⟨v + 1, by omega, rfl, by go_num, by rw [cnt, if_pos Hl.out]; go_num, ⟨Hst3.out.hb, Hst3.out.nI, row_rb Hst3.out.row fun q hq => by rw [if_pos hq]⟩⟩
      · rw [hd] at t1
        have Hd := Lib.hid hd
        have Hl := Lib.hid (show leadB N G S v = false by rw [Hle.out, Hd.out]; rfl)
        clear hd hbe hce
        go_wp2
        go_roundg (N - (v + 1))
        case measure => go_light; omega
        case rel => exact ⟨v + 1, by omega, rfl, by go_num, by rw [cnt, if_neg (by rw [Hl.out]; exact Bool.false_ne_true)]; rfl, ⟨Hst.out.hb, Hst.out.nI, row_rb Hst.out.row fun k _ => (doneB_other Hl.out k).symm⟩⟩
    · obtain rfl : v = N := by omega
      clear hst
      go_wp2
      go_ret
      exact ⟨rfl, Hst.out.hb⟩

end Go.Proofs.Ytnhhohhhpaejmaa
