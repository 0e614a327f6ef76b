/- arborref.Reach. -/
import Derived.Test.YtnmljgjegodkaaaDoorPA
import Derived.Test.YtnmljgjegodkaaaDoorHasGrid
namespace Go.Proofs.YtnmljgjegodkaaaDoor
open Go.RowKit

/-- What is shut: behind the end nothing is. -/
def HasShut (w : World) (v : Value) (S : Nat → Bool) : Prop :=
  ∃ (a : Option Addr) (n cap b o : Nat), v = .slice a n cap ∧ n ≤ cap ∧ cap ≤ 9223372036854775807 ∧ (0 < n → a = some ⟨b, o, none⟩) ∧ (∀ j, j < n → w.cell? ⟨b, o + j, none⟩ = some (.bool (S j))) ∧ ∀ j, n ≤ j → S j = false
theorem HasShut.below {w w' : World} {v : Value} {S : Nat → Bool} (h : HasShut w v S) (hb : Below w.heap.size w w') : HasShut w' v S := by
  obtain ⟨a, n, cap, b, o, h1, h2, h3, h4, h5, h6⟩ := h
  exact ⟨a, n, cap, b, o, h1, h2, h3, h4, fun j hj => below_cell hb (h5 j hj), h6⟩
theorem HasShut.nil (w : World) : HasShut w (.slice none 0 0) (fun _ => false) := ⟨none, 0, 0, 0, 0, rfl, Nat.le_refl _, by omega, by simp, by simp, fun _ _ => rfl⟩

/-- The nodes that are in, under way. -/
structure RcSt (w wr : World) (bI N : Nat) (I : Nat → Bool) : Prop where
  hb : Below w.heap.size w wr
  nI : w.heap.size ≤ bI
  row : wr.rowIs bI 4 N (rb I)
theorem RcSt.set {w wr : World} {bI N : Nat} {I : Nat → Bool} (h : RcSt w wr bI N I) (k : Nat) (x : Bool) : RcSt w (wr.setCell ⟨bI, k, none⟩ (.bool x)) bI N (fun q => if q = k then x else I q) :=
  ⟨h.hb.setCell h.nI _, h.nI, row_set_rb h.row k x⟩
theorem RcSt.below {w wr w' : World} {bI N : Nat} {I : Nat → Bool} (h : RcSt w wr bI N I) (hb : Below wr.heap.size wr w') : RcSt w w' bI N I :=
  ⟨h.hb.trans (hb.mono h.hb.size), h.nI, h.row.of_block (hb.block _ h.row.lt)⟩

/-- A row of bools comes back. -/
def BoolsPost (N : Nat) (I : Nat → Bool) (w : World) (e : Ending) (w' : World) : Prop := ∃ b, e = .returned (.slice (some ⟨b, 0, none⟩) N N) ∧ w.heap.size ≤ b ∧ w'.rowIs b 4 N (rb I) ∧ Below w.heap.size w w'

set_option maxHeartbeats 6400000 in
set_option maxRecDepth 100000 in
theorem reach_any (N a : Nat) (G : Nat → Nat → Bool) (S : Nat → Bool) (gv sv : Value) (w : World) (hN : N ≤ 100) (ha : a < N) (hg : HasGrid w gv N G) (hs : HasShut w sv S) :
    Calls Tryd.prog 55 #[gv, .int .i64 (a : Int), sv] w (BoolsPost N (rchB N G S a) w) := by
  have Hg := Lib.hid hg
  obtain ⟨B, ga, gc, gb, go, R0, rfl, -⟩ := hg
  obtain ⟨sa, n, sc, sb, so, rfl, hn1, hn2, hadr, hcell, hbeh⟩ := hs
  have Hcell := Lib.hid hcell
  have Hbeh := Lib.hid hbeh
  have Hadr := Lib.hid hadr
  have hmk := run_make_row' (P := Tryd.prog) 52 4 (.bool false) 1 Tryd.underlying52 info4 rfl .i64 .i64 N (by omega) (by omega)
  have hr1 := World.rowIs_made w (.bool false) N 4
  have R1 := Lib.hid (RcSt.mk (bI := w.heap.size) (I := fun _ => false) (below1 w (.cells (madeCells #[.bool false] N) 4)) (Nat.le_refl _) (hr1.congr fun _ _ => rfl))
  clear hcell hbeh hadr hr1
  go_enter Tryd.func55, Tryd.ntmps55
  go_upto_region 2 with fail
  clear hmk
  generalize w.alloc (.cells (madeCells #[.bool false] N) 4) = w1 at *
  have t0 := R1.out.row.cell ha
  have f0 := R1.out.row.frozen a
  have R2 := Lib.hid (R1.out.set a true)
  have Con0 := Lib.hid (show ∀ k, k < N → (if k = a then true else false) = true → Rch N G S a k from fun k _ h => by
    by_cases e : k = a
    · rw [e]; exact .refl
    · rw [if_neg e] at h; cases h)
  go_wp2
  clear t0 f0
  go_loopg [8] (N + 1) (fun g s8 wr => ∃ (I : Nat → Bool) (ag : Bool), s8 = .bool ag ∧ I a = true ∧ (∀ k, k < N → I k = true → Rch N G S a k) ∧ (ag = false → ∀ k, k < N → I k = rchB N G S a k) ∧ (if ag = true then N - cnt I N + 1 else 0) ≤ g ∧ RcSt w wr w.heap.size N I)
  case atStart => exact ⟨_, true, rfl, by simp, Con0.out, (fun h => by cases h), by rw [if_pos rfl]; omega, R2.out⟩
  case round =>
    obtain ⟨I, ag, rfl, hia, hcon, hfin, hme, hst⟩ := hrel
    have Hfin := Lib.hid hfin
    have Hme := Lib.hid hme
    have Hst := Lib.hid hst
    have P0 := Lib.hid (Pass.start hia hcon)
    clear hia hcon hfin hme hst
    cases ag
    · go_wp2
      go_ret
      exact ⟨_, rfl, Nat.le_refl _, row_rb Hst.out.row (Hfin.out (by first | rfl | trivial)), Hst.out.hb⟩
    · go_wp2
      obtain ⟨wo, rfl⟩ : ∃ wo : World, wo = wr := ⟨_, rfl⟩
      go_loopg [8, 9] N (fun g s8 s9 wr => ∃ (i : Nat) (J : Nat → Bool) (ag : Bool), i ≤ N ∧ g = N - i ∧ s9 = .int .i64 i ∧ s8 = .bool ag ∧ Pass N G S a I J ag i 0 ∧ RcSt w wr w.heap.size N J)
      case atStart => exact ⟨0, _, _, Nat.zero_le _, rfl, rfl, rfl, P0.out, Hst.out⟩
      case round =>
        obtain ⟨i, J, ag, hi, rfl, rfl, rfl, hp, hst⟩ := hrel
        have Hp := Lib.hid hp
        have Hst2 := Lib.hid hst
        clear hp hst
        by_cases hiN : i < N
        · go_wp2
          obtain ⟨w5, rfl⟩ : ∃ w5 : World, w5 = wr := ⟨_, rfl⟩
          go_loopg [8, 10] N (fun g s8 s10 wr => ∃ (j : Nat) (K : Nat → Bool) (ag : Bool), j ≤ N ∧ g = N - j ∧ s10 = .int .i64 j ∧ s8 = .bool ag ∧ Pass N G S a I K ag i j ∧ RcSt w wr w.heap.size N K)
          case atStart => exact ⟨0, _, _, Nat.zero_le _, rfl, rfl, rfl, Hp.out, Hst2.out⟩
          case round =>
            obtain ⟨j, K, ag, hj, rfl, rfl, rfl, hp, hst⟩ := hrel
            have Hp3 := Lib.hid hp
            have Hst3 := Lib.hid hst
            by_cases hjN : j < N
            · obtain ⟨b, o, c, r, he, c1, c2⟩ := (Hg.out.below hst.hb).entry hiN hjN
              simp only [Value.slice.injEq, true_and] at he
              obtain ⟨rfl, rfl⟩ := he
              have t1 : wr.cell? ⟨w.heap.size, i, none⟩ = some (.bool (K i)) := hst.row.cell hiN
              have t2 : wr.cell? ⟨w.heap.size, j, none⟩ = some (.bool (K j)) := hst.row.cell hjN
              have f2 := hst.row.frozen j
              have lr := hst.row.lt
              have Add := Lib.hid (fun h1 h2 h3 h4 => Hp3.out.add hiN hjN h1 h2 h3 h4)
              have Set := Lib.hid (hst.set j true)
              have Skip := Lib.hid Hp3.out.skip
              have hbe := Hbeh.out j
              have hce : j < n → wr.cell? ⟨sb, so + j, none⟩ = some (.bool (S j)) := fun h => below_cell hst.hb (Hcell.out j h)
              clear hp hst
              cases hx : K i
              · rw [hx] at t1
                have Hx := Lib.hid hx
                clear hx hbe hce
                go_wp2
                go_roundg (N - (j + 1))
                case measure => go_light; omega
                case rel => exact ⟨j + 1, K, ag, by omega, rfl, by go_num, rfl, Skip.out (fun h => by rw [Hx.out] at h; cases h.1), Hst3.out⟩
              · rw [hx] at t1
                have Hx := Lib.hid hx
                clear hx
                cases hy : G i j
                · rw [hy] at c2
                  have Hy := Lib.hid hy
                  clear hy hbe hce
                  go_wp2
                  go_roundg (N - (j + 1))
                  case measure => go_light; omega
                  case rel => exact ⟨j + 1, K, ag, by omega, rfl, by go_num, rfl, Skip.out (fun h => by rw [Hy.out] at h; cases h.2.1), Hst3.out⟩
                · rw [hy] at c2
                  have Hy := Lib.hid hy
                  clear hy
                  cases hz : K j
                  · rw [hz] at t2
                    have Hz := Lib.hid hz
                    clear hz
                    by_cases hjn : j < n
                    · obtain rfl := Hadr.out (by omega)
                      have t3 := hce hjn
                      clear hbe hce
                      cases hs : S j
                      · rw [hs] at t3
                        have Hs := Lib.hid hs
                        clear hs
                        go_wp2
                        go_roundg (N - (j + 1))
                        case measure => go_light; omega
                        case rel => exact ⟨j + 1, _, true, by omega, rfl, by go_num, rfl, Add.out Hx.out Hy.out Hz.out Hs.out, Set.out⟩
                      · rw [hs] at t3
                        have Hs := Lib.hid hs
                        clear hs
                        go_wp2
                        go_roundg (N - (j + 1))
                        case measure => go_light; omega
                        case rel => exact ⟨j + 1, K, ag, by omega, rfl, by go_num, rfl, Skip.out (fun h => by rw [Hs.out] at h; cases h.2.2.2), Hst3.out⟩
                    · have Hs := Lib.hid (hbe (by omega))
                      clear hbe hce
                      go_wp2
                      go_roundg (N - (j + 1))
                      case measure => go_light; omega
                      case rel => exact ⟨j + 1, _, true, by omega, rfl, by go_num, rfl, Add.out Hx.out Hy.out Hz.out Hs.out, Set.out⟩
                  · rw [hz] at t2
                    have Hz := Lib.hid hz
                    clear hz hbe hce
                    go_wp2
                    go_roundg (N - (j + 1))
                    case measure => go_light; omega
                    case rel => exact ⟨j + 1, K, ag, by omega, rfl, by go_num, rfl, Skip.out (fun h => by rw [Hz.out] at h; cases h.2.2.1), Hst3.out⟩
            · obtain rfl : j = N := by omega
              have Hn := Lib.hid Hp3.out.next
              clear hp hst
              go_wp2
              go_roundg (j - (i + 1))
              case measure => go_light; omega
              case rel => exact ⟨i + 1, K, ag, by omega, rfl, by go_num, rfl, Hn.out, Hst3.out⟩
        · obtain rfl : i = N := by omega
          have hle := cnt_le J i
          cases ag
          · go_wp2
            go_roundg 0
            case measure => go_light; have := Hme.out; simp at this; omega
            case rel => exact ⟨J, false, rfl, Hp.out.has, Hp.out.con, fun _ => Hp.out.fin ha, by simp, Hst2.out⟩
          · go_wp2
            go_roundg (i - cnt J i + 1)
            case measure => go_light; have h1 := Hme.out; have h2 := Hp.out.more (by first | rfl | trivial); simp at h1; omega
            case rel => exact ⟨J, true, rfl, Hp.out.has, Hp.out.con, (fun h => by cases h), by simp, Hst2.out⟩

end Go.Proofs.YtnmljgjegodkaaaDoor
