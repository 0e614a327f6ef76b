/- minor.whole: which sets of nodes hang together, and what is near them. -/
import Derived.Test.YtfflnpcbpcldeaaConn
import Derived.Test.YtfflnpcbpcldeaaMasks
namespace Go.Proofs.Ytfflnpcbpcldeaa
open Go.RowKit

/-- The two tables under way. -/
structure WhSt (w wr : World) (n P rN bI bB : Nat) (m : Nat → Nat) (I : Nat → Bool) (B : Nat → Nat) : Prop where
  hb : Below w.heap.size w wr
  nI : w.heap.size ≤ bI
  nB : w.heap.size ≤ bB
  ne : bI ≠ bB
  hN : wr.rowIs rN 3 n (rn m)
  lN : rN < w.heap.size
  hI : wr.rowIs bI 4 P (rb I)
  hB : wr.rowIs bB 3 P (rn B)
section
variable {w wr w' : World} {n P rN bI bB : Nat} {m : Nat → Nat} {I I' : Nat → Bool} {B B' : Nat → Nat}
theorem WhSt.below (h : WhSt w wr n P rN bI bB m I B) (hb : Below wr.heap.size wr w') : WhSt w w' n P rN bI bB m I B :=
  ⟨h.hb.trans (hb.mono h.hb.size), h.nI, h.nB, h.ne, h.hN.of_block (hb.block _ h.hN.lt), h.lN, h.hI.of_block (hb.block _ h.hI.lt), h.hB.of_block (hb.block _ h.hB.lt)⟩
theorem WhSt.setI (h : WhSt w wr n P rN bI bB m I B) (k : Nat) (x : Bool) : WhSt w (wr.setCell ⟨bI, k, none⟩ (.bool x)) n P rN bI bB m (fun q => if q = k then x else I q) B :=
  ⟨h.hb.setCell h.nI _, h.nI, h.nB, h.ne, h.hN.setOther (show rN ≠ bI by have := h.nI; have := h.lN; omega) _, h.lN, row_set_rb h.hI k x, h.hB.setOther (Ne.symm h.ne) _⟩
theorem WhSt.setB (h : WhSt w wr n P rN bI bB m I B) (k x : Nat) : WhSt w (wr.setCell ⟨bB, k, none⟩ (.int .i64 (x : Int))) n P rN bI bB m I (fun q => if q = k then x else B q) :=
  ⟨h.hb.setCell h.nB _, h.nI, h.nB, h.ne, h.hN.setOther (show rN ≠ bB by have := h.nB; have := h.lN; omega) _, h.lN, h.hI.setOther h.ne _, row_set_rn h.hB k x⟩
theorem WhSt.congr (h : WhSt w wr n P rN bI bB m I B) (e : ∀ k, k < P → I k = I' k) (e' : ∀ k, k < P → B k = B' k) : WhSt w wr n P rN bI bB m I' B' :=
  ⟨h.hb, h.nI, h.nB, h.ne, h.hN, h.lN, row_rb h.hI e, row_rn h.hB e'⟩
end

/-- Both tables are made, in one order or the other one. -/
def WhCut (w : World) (n P rN : Nat) (m : Nat → Nat) (s5 s6 : Value) (wx : World) : Prop :=
  ∃ bI bB, s5 = .slice (some ⟨bI, 0, none⟩) P P ∧ s6 = .slice (some ⟨bB, 0, none⟩) P P ∧ WhSt w wx n P rN bI bB m (fun _ => false) (fun _ => 0)

theorem WhCut.mk1 {w : World} {n P rN : Nat} {m : Nat → Nat} (h : w.rowIs rN 3 n (rn m)) :
    WhCut w n P rN m (.slice (some ⟨w.heap.size, 0, none⟩) P P) (.slice (some ⟨w.heap.size + 1, 0, none⟩) P P) ((w.alloc (.cells (madeCells #[.bool false] P) 4)).alloc (.cells (madeCells #[.int .i64 0] P) 3)) := by
  have h1 := World.rowIs_made w (.bool false) P 4
  have h2 := World.rowIs_made (w.alloc (.cells (madeCells #[.bool false] P) 4)) (.int .i64 0) P 3
  rw [World.size_alloc] at h2
  exact ⟨_, _, rfl, rfl, below2 _ _ _, Nat.le_refl _, by omega, by omega, (h.alloc _).alloc _, h.lt, (h1.alloc _).congr fun _ _ => rfl, h2.congr fun _ _ => rfl⟩
theorem WhCut.mk2 {w : World} {n P rN : Nat} {m : Nat → Nat} (h : w.rowIs rN 3 n (rn m)) :
    WhCut w n P rN m (.slice (some ⟨w.heap.size + 1, 0, none⟩) P P) (.slice (some ⟨w.heap.size, 0, none⟩) P P) ((w.alloc (.cells (madeCells #[.int .i64 0] P) 3)).alloc (.cells (madeCells #[.bool false] P) 4)) := by
  have h1 := World.rowIs_made w (.int .i64 0) P 3
  have h2 := World.rowIs_made (w.alloc (.cells (madeCells #[.int .i64 0] P) 3)) (.bool false) P 4
  rw [World.size_alloc] at h2
  exact ⟨_, _, rfl, rfl, below2 _ _ _, by omega, Nat.le_refl _, by omega, (h.alloc _).alloc _, h.lt, h2.congr fun _ _ => rfl, (h1.alloc _).congr fun _ _ => rfl⟩

theorem WhCut.drew {w wx : World} {n P rN : Nat} {m : Nat → Nat} {s5 s6 : Value} (h : WhCut w n P rN m s5 s6 wx) : WhCut w n P rN m s5 s6 wx.drew := by
  obtain ⟨bI, bB, h1, h2, h3⟩ := h
  exact ⟨bI, bB, h1, h2, h3.below (Below.refl _ _).drew⟩

/-- Both tables. -/
def WholePost (n : Nat) (m : Nat → Nat) (w : World) (e : Ending) (w' : World) : Prop :=
  ∃ bI bB, e = .returned (.tuple #[.slice (some ⟨bI, 0, none⟩) (pow2 n) (pow2 n), .slice (some ⟨bB, 0, none⟩) (pow2 n) (pow2 n)]) ∧ w.heap.size ≤ bI ∧ w.heap.size ≤ bB ∧ bI ≠ bB ∧ w'.rowIs bI 4 (pow2 n) (rb (wholeB m)) ∧ w'.rowIs bB 3 (pow2 n) (rn fun s => bes m s n) ∧ Below w.heap.size w w'

theorem bes_zero (m : Nat → Nat) : ∀ n, bes m 0 n = 0
  | 0 => rfl
  | n + 1 => by rw [bes, if_neg (by simp), bes_zero m n]
theorem whole_zero (m : Nat → Nat) : wholeB m 0 = false := by
  cases h : wholeB m 0
  · rfl
  · exact absurd rfl (wholeB_iff.1 h).1
theorem pow2_le {n : Nat} (h : n ≤ 10) : pow2 n ≤ 1024 := by
  unfold pow2
  exact Nat.le_trans (Nat.pow_le_pow_right (by decide) h) (by decide)
theorem pow2_pos (n : Nat) : 1 ≤ pow2 n := Nat.one_le_two_pow
theorem bits_lt {s n : Nat} (h : s < pow2 n) {u : Nat} (hu : s.testBit u = true) : u < n := by
  rcases Nat.lt_or_ge u n with h' | h'
  · exact h'
  · have : s < 2 ^ u := Nat.lt_of_lt_of_le h (Nat.pow_le_pow_right (by decide) h')
    rw [Nat.testBit_lt_two_pow this] at hu
    cases hu

set_option maxHeartbeats 6400000 in
set_option maxRecDepth 100000 in
theorem whole_any (n rN : Nat) (m : Nat → Nat) (w : World) (hn : n ≤ 10) (hr : w.rowIs rN 3 n (rn m)) (hm : ∀ v, v < n → Few (m v)) (hsym : ∀ x y, x < n → y < n → (m x).testBit y = true → (m y).testBit x = true) :
    Calls Try.prog 76 #[.slice (some ⟨rN, 0, none⟩) n n] w (WholePost n m w) := by
  have hP := pow2_le hn
  have hP1 := pow2_pos n
  have q0 := op_shl (show n < 62 by omega)
  have Hm := Lib.hid hm
  have Hsym := Lib.hid hsym
  have Hr := Lib.hid hr
  unfold WholePost
  have hbit : ∀ s u, s < pow2 n → s.testBit u = true → u < n := fun s u h hu => bits_lt h hu
  have Hbit := Lib.hid hbit
  clear hm hsym hbit hr
  generalize hPP : pow2 n = P at *
  have HP := Lib.hid hPP
  clear hPP
  have hmk := run_make_row' (P := Try.prog) 38 4 (.bool false) 1 Try.underlying38 info4 rfl .i64 .i64 P (by omega) (by omega)
  have hmk2 := run_make_row' (P := Try.prog) 51 3 (.int .i64 0) 8 Try.underlying51 info3 rfl .i64 .i64 P (by omega) (by omega)
  go_enter Try.func76, Try.ntmps76
  go_upto_region 2 with fail
  go_cut [5, 6] from 15 to 20 (fun s5 s6 wx => WhCut w n P rN m s5 s6 wx)
  case first =>
    go_region
    all_goals
      go_wp2
      go_meet
    case rel => exact (WhCut.mk1 Hr.out).drew
    case rel => exact (WhCut.mk2 Hr.out).drew
  case rest =>
    obtain ⟨bI, bB, rfl, rfl, h1⟩ := hcut
    have H1 := Lib.hid (h1.congr (I' := fun q => if q < 1 then wholeB m q else false) (B' := fun q => if q < 1 then bes m q n else 0) (fun k _ => by
      by_cases e : k < 1
      · rw [if_pos e, show k = 0 by omega, whole_zero]
      · rw [if_neg e]) (fun k _ => by
      by_cases e : k < 1
      · rw [if_pos e, show k = 0 by omega, bes_zero]
      · rw [if_neg e]))
    clear h1 hmk hmk2
    go_wp2
    go_loopg [7] (P - 1) (fun g s7 wr => ∃ s : Nat, 1 ≤ s ∧ s ≤ P ∧ g = P - s ∧ s7 = .int .i64 s ∧ WhSt w wr n P rN bI bB m (fun q => if q < s then wholeB m q else false) (fun q => if q < s then bes m q n else 0))
    case atStart => exact ⟨1, Nat.le_refl _, hP1, rfl, by go_num, H1.out⟩
    case round =>
      obtain ⟨s, hs1, hsP, rfl, rfl, hm⟩ := hrel
      have Hst := Lib.hid hm
      clear hm
      by_cases hlt : s < P
      · go_wp2
        obtain ⟨wo, rfl⟩ : ∃ wo : World, wo = wr := ⟨_, rfl⟩
        go_loopg [28] n (fun g s28 wr => ∃ v : Nat, v ≤ n ∧ g = n - v ∧ s28 = .int .i64 v ∧ WhSt w wr n P rN bI bB m (fun q => if q < s then wholeB m q else false) (fun q => if q = s then bes m s v else if q < s then bes m q n else 0))
        case atStart => exact ⟨0, Nat.zero_le _, rfl, rfl, Hst.out.congr (fun _ _ => rfl) (fun q _ => by
          by_cases e : q = s
          · subst e; rw [if_pos rfl, if_neg (by omega)]; rfl
          · rw [if_neg e])⟩
        case round =>
          obtain ⟨v, hv, rfl, rfl, hm⟩ := hrel
          by_cases hvn : v < n
          · have hsf : Few s := by show s < _; omega
            have q1 := op_shr s v
            have q2 := op_bit (v := v) hsf
            cases hb : s.testBit v
            · rw [bit_zero hb] at q2
              have Hb := Lib.hid hb
              have Hm2 := Lib.hid hm
              clear hb hm
              go_wp2
              go_roundg (n - (v + 1))
              case measure => go_light; omega
              case rel => exact ⟨v + 1, by omega, rfl, by go_num, Hm2.out.congr (fun _ _ => rfl) (fun q _ => by rw [show bes m s (v + 1) = bes m s v from by rw [bes, if_neg (by rw [Hb.out]; exact Bool.false_ne_true)]])⟩
            · rw [bit_one hb] at q2
              have Hb := Lib.hid hb
              have t1 : wr.cell? ⟨rN, v, none⟩ = some (.int .i64 (m v : Int)) := hm.hN.cell hvn
              have t2 := hm.hB.cell hlt
              have f2 := hm.hB.frozen s
              simp only [rn, if_true] at t2
              have q3 := op_or (bes_few (s := s) (n := v) fun u hu => Hm.out u (by omega)) (Hm.out v hvn)
              have Hm2 := Lib.hid ((hm.below (Below.refl _ _).drew).setB s (lor (bes m s v) (m v)))
              clear hb hm
              go_wp2_with fail
              refine region_tail 10 (by kernel_rfl) (by kernel_rfl) ?_
              simp only [List.take_succ_cons, List.take_zero, List.drop_succ_cons, List.drop_zero]
              repeat still_step
              refine wpStill_nil ?_
              go_wp2
              go_roundg (n - (v + 1))
              case measure => go_light; omega
              case rel => exact ⟨v + 1, by omega, rfl, by go_num, Hm2.out.congr (fun _ _ => rfl) (fun q _ => by
                rw [show bes m s (v + 1) = lor (bes m s v) (m v) from by rw [bes, if_pos Hb.out]]
                by_cases e : q = s
                · rw [if_pos e, if_pos e]
                · rw [if_neg e, if_neg e, if_neg e])⟩
          · obtain rfl : v = n := by omega
            have Hm2 := Lib.hid hm
            obtain ⟨v0, hv0, q1⟩ := op_low (show Few s by show s < _; omega) (show s ≠ 0 by omega)
            have G0 := Lib.hid (Grown.start (m := m) hv0)
            have hsym : ∀ x y, s.testBit x = true → s.testBit y = true → (m x).testBit y = true → (m y).testBit x = true := fun x y hx hy => Hsym.out x y (Hbit.out _ _ hlt hx) (Hbit.out _ _ hlt hy)
            have Hsy := Lib.hid hsym
            have hsb : ∀ u, s.testBit u = true → u < v := fun u hu => Hbit.out _ _ hlt hu
            have Hsb := Lib.hid hsb
            clear hm hsym hsb hv0
            go_wp2
            obtain ⟨w3, rfl⟩ : ∃ w3 : World, w3 = wr := ⟨_, rfl⟩
            go_loopg [9, 10] (s + 1) (fun g s9 s10 wr => ∃ (i : Nat) (ag : Bool), s9 = .int .i64 i ∧ s10 = .bool ag ∧ Grown m s v0 i ∧ (ag = false → gro m s i v = i) ∧ (if ag = true then s - i + 1 else 0) ≤ g ∧ w3 = wr)
            case atStart => exact ⟨pow2 v0, true, rfl, rfl, G0.out, (fun h => by cases h), by rw [if_pos rfl]; omega, rfl⟩
            case round =>
              obtain ⟨i, ag, rfl, rfl, hg, hag, hme, rfl⟩ := hrel
              have his : i ≤ s := hg.sub.le
              have Hg := Lib.hid hg
              have Hag := Lib.hid hag
              have Hme := Lib.hid hme
              clear hg hag hme
              cases ag
              · have hfin : ((i : Int) == (s : Int)) = wholeB m s := by
                  have h := Grown.fin (n := v) Hsb.out Hsy.out Hg.out (Hag.out rfl)
                  by_cases e : i = s
                  · rw [wholeB_iff.2 (h.1 e), e]; simp
                  · have : wholeB m s = false := by
                      cases hw : wholeB m s
                      · rfl
                      · exact absurd (h.2 (wholeB_iff.1 hw)) e
                    rw [this]; simp; omega
                have t1 := Hm2.out.hI.cell hlt
                have f1 := Hm2.out.hI.frozen s
                have Hn := Lib.hid (Hm2.out.setI s (wholeB m s))
                go_wp2
                go_roundg (P - (s + 1))
                case measure => go_light; omega
                case rel => exact ⟨s + 1, by omega, by omega, rfl, by go_num, Hn.out.congr (fun q _ => by
                  by_cases e : q = s
                  · subst e; rw [if_pos rfl, if_pos (by omega)]
                  · rw [if_neg e]
                    by_cases e2 : q < s
                    · rw [if_pos e2, if_pos (by omega)]
                    · rw [if_neg e2, if_neg (by omega)]) (fun q _ => by
                  by_cases e : q = s
                  · subst e; rw [if_pos rfl, if_pos (by omega)]
                  · rw [if_neg e]
                    by_cases e2 : q < s
                    · rw [if_pos e2, if_pos (by omega)]
                    · rw [if_neg e2, if_neg (by omega)])⟩
              · go_wp2
                obtain ⟨w4, rfl⟩ : ∃ w4 : World, w4 = w3 := ⟨_, rfl⟩
                go_loopg [11, 54] v (fun g s11 s54 wr => ∃ u : Nat, u ≤ v ∧ g = v - u ∧ s54 = .int .i64 u ∧ s11 = .int .i64 (gro m s i u : Int) ∧ w4 = wr)
                case atStart => exact ⟨0, Nat.zero_le _, rfl, rfl, rfl, rfl⟩
                case round =>
                  obtain ⟨u, hu, rfl, rfl, rfl, rfl⟩ := hrel
                  by_cases huv : u < v
                  · have hif : Few i := by show i < _; omega
                    have q2 := op_shr i u
                    have q3 := op_bit (v := u) hif
                    cases hb : i.testBit u
                    · rw [bit_zero hb] at q3
                      have Hb := Lib.hid hb
                      clear hb
                      go_wp2
                      go_roundg (v - (u + 1))
                      case measure => go_light; omega
                      case rel => exact ⟨u + 1, by omega, rfl, by go_num, by rw [gro, if_neg (by rw [Hb.out]; exact Bool.false_ne_true)], rfl⟩
                    · rw [bit_one hb] at q3
                      have Hb := Lib.hid hb
                      have t1 : w4.cell? ⟨rN, u, none⟩ = some (.int .i64 (m u : Int)) := Hm2.out.hN.cell huv
                      have hgu : Few (gro m s i u) := by
                        have h := (Hg.out.round u).2.2
                        show gro m s i u < _
                        omega
                      have q4 := op_and (Hm.out u huv) (show Few s by show s < _; omega)
                      have q5 := op_or hgu (land_few (b := s) (Hm.out u huv))
                      clear hb hgu
                      go_wp2
                      go_roundg (v - (u + 1))
                      case measure => go_light; omega
                      case rel => exact ⟨u + 1, by omega, rfl, by go_num, by rw [gro, if_pos Hb.out], rfl⟩
                  · obtain rfl : u = v := by omega
                    obtain ⟨hr1, hr2, hr3⟩ := Hg.out.round u
                    by_cases he : gro m s i u = i
                    · have q2 : (((gro m s i u : Nat) : Int) != (i : Int)) = false := by rw [he]; simp
                      have He := Lib.hid he
                      clear he
                      go_wp2
                      go_roundg 0
                      case measure => go_light; have := Hme.out; simp at this; omega
                      case rel => exact ⟨_, false, rfl, rfl, by rw [He.out]; exact Hg.out, fun _ => by rw [He.out]; exact He.out, by simp, rfl⟩
                    · have q2 : (((gro m s i u : Nat) : Int) != (i : Int)) = true := by simp; omega
                      have He := Lib.hid he
                      have Hr1 := Lib.hid hr1
                      clear he hr1
                      go_wp2
                      go_roundg (s - gro m s i u + 1)
                      case measure => go_light; have := Hme.out; have := He.out; simp at *; omega
                      case rel => exact ⟨_, true, rfl, rfl, Hr1.out, (fun h => by cases h), by simp, rfl⟩
      · obtain rfl : s = P := by omega
        go_wp2
        go_ret2
        exact ⟨bI, bB, rfl, Hst.out.nI, Hst.out.nB, Hst.out.ne, row_rb Hst.out.hI fun q hq => by rw [if_pos hq], row_rn Hst.out.hB fun q hq => by rw [if_pos hq], Hst.out.hb⟩

end Go.Proofs.Ytfflnpcbpcldeaa
