/- width.order: an order of all nodes that leaves the least behind at once. -/
import Derived.Test.YtnmljgjegodkaaaDoorPB
import Derived.Test.YtnmljgjegodkaaaDoorPL
import Derived.Test.YtnmljgjegodkaaaDoorPT
import Derived.Test.YtnmljgjegodkaaaDoorTabB
import Derived.Test.YtnmljgjegodkaaaDoorPC
import Derived.Test.YtnmljgjegodkaaaDoorPD
import Derived.Test.YtnmljgjegodkaaaDoorRevI
import Derived.BigQuiet
namespace Go.Proofs.YtnmljgjegodkaaaDoor
open Go Go.RowKit

/-- Two rows of numbers. -/
structure Wo2 (w wr : World) (bb bl M : Nat) (b la : Nat → Nat) : Prop where
  hb : Below w.heap.size w wr
  n1 : w.heap.size ≤ bb
  n2 : w.heap.size ≤ bl
  ne : bb ≠ bl
  r1 : wr.rowIs bb 3 M (rn b)
  r2 : wr.rowIs bl 3 M (rn la)
section
variable {w wr w' : World} {bb bl M : Nat} {b la : Nat → Nat}
theorem Wo2.setB (h : Wo2 w wr bb bl M b la) (k x : Nat) : Wo2 w (wr.setCell ⟨bb, k, none⟩ (.int .i64 (x : Int))) bb bl M (fun q => if q = k then x else b q) la :=
  ⟨h.hb.setCell h.n1 _, h.n1, h.n2, h.ne, row_set_rn h.r1 k x, h.r2.setOther (a := ⟨bb, k, none⟩) (by show bl ≠ bb; exact h.ne.symm) _⟩
theorem Wo2.setL (h : Wo2 w wr bb bl M b la) (k x : Nat) : Wo2 w (wr.setCell ⟨bl, k, none⟩ (.int .i64 (x : Int))) bb bl M b (fun q => if q = k then x else la q) :=
  ⟨h.hb.setCell h.n2 _, h.n1, h.n2, h.ne, h.r1.setOther (a := ⟨bl, k, none⟩) (by show bb ≠ bl; exact h.ne) _, row_set_rn h.r2 k x⟩
theorem Wo2.below (h : Wo2 w wr bb bl M b la) (hb : Below wr.heap.size wr w') : Wo2 w w' bb bl M b la :=
  ⟨h.hb.trans (hb.mono h.hb.size), h.n1, h.n2, h.ne, h.r1.of_block (hb.block _ h.r1.lt), h.r2.of_block (hb.block _ h.r2.lt)⟩
theorem two_madeW (W : World) (M : Nat) : ((W.alloc (.cells (madeCells #[.int .i64 0] M) 3)).alloc (.cells (madeCells #[.int .i64 0] M) 3)).rowIs W.heap.size 3 M (rn fun _ => 0) ∧
    ((W.alloc (.cells (madeCells #[.int .i64 0] M) 3)).alloc (.cells (madeCells #[.int .i64 0] M) 3)).rowIs (W.heap.size + 1) 3 M (rn fun _ => 0) ∧
    Below W.heap.size W ((W.alloc (.cells (madeCells #[.int .i64 0] M) 3)).alloc (.cells (madeCells #[.int .i64 0] M) 3)) := by
  have h1 := World.rowIs_made W (.int .i64 0) M 3
  have h2 := World.rowIs_made (W.alloc (.cells (madeCells #[.int .i64 0] M) 3)) (.int .i64 0) M 3
  rw [World.size_alloc] at h2
  have hb := below1 (W.alloc (.cells (madeCells #[.int .i64 0] M) 3)) (.cells (madeCells #[.int .i64 0] M) 3)
  exact ⟨(h1.of_block (hb.block _ h1.lt)).congr fun i _ => rfl, h2.congr fun i _ => rfl, below2 _ _ _⟩
end
/-- width.beyond's answer, by name. -/
theorem beyond_is {N v set b : Nat} {G : Nat → Nat → Bool} {M : Nat → Nat} (hN : N ≤ 24) (hM : ∀ w u, w < N → ((M w).testBit u = true ↔ u < N ∧ G w u = true)) (hv : v < N) (hset : set < 2 ^ N) (w : World) (hr : w.rowIs b 3 N (rn M)) (hT : TabAt 1 Lib.deBruijn64tab w) :
    Calls Tryd.prog 29 #[.slice (some ⟨b, 0, none⟩) N N, .int .i64 (set : Int), .int .i64 (v : Int)] w fun e w' => e = .returned (.int .i64 (beyM N G set v : Int)) ∧ w' = w := by
  refine (beyond_any hN hM hv hset w hr hT).mono ?_
  rintro e w' ⟨r, rfl, hr1, hr2, rfl⟩
  have : r = beyM N G set v := Nat.eq_of_testBit_eq fun u => by rw [hr2, beyM_bit]
  rw [this]
  exact ⟨rfl, rfl⟩
/-- What width.order answers. -/
def OrdPost (N : Nat) (l : List (Int × Int)) (w : World) (e : Ending) (w' : World) : Prop :=
  ∃ v L W, e = .returned v ∧ w'.ownsRow w.heap.size 3 1 v L.length (nvals L) ∧ Below w.heap.size w w' ∧ Ord N L ∧ WidL N (adj l) L W ∧ ∀ L', Ord N L' → ∀ B, (∀ i, i < N → degB N (adj l) (goneL L' i) (L'.getD i 0) ≤ B) → W ≤ B
theorem near_is {l : List (Int × Int)} {N : Nat} : ∀ w u, w < N → ((near l N w).testBit u = true ↔ u < N ∧ adj l w u = true) := fun w u _ => by
  unfold near; rw [maskOf_bit, Bool.and_eq_true, decide_eq_true_iff]

set_option maxHeartbeats 6400000 in
set_option maxRecDepth 100000 in
theorem worder_any (l : List (Int × Int)) (N : Nat) (s : Value) (w : World) (h : IsEdges w s l) (hN : N ≤ 12) (hok : ∀ j, j < l.length → EndsOk (N : Int) (l.getD j (0, 0)) ∧ (l.getD j (0, 0)).1 ≠ (l.getD j (0, 0)).2) (hT : TabAt 1 Lib.deBruijn64tab w) :
    Calls Tryd.prog 28 #[.agg #[.int .i64 (N : Int), s]] w (OrdPost N l w) := by
  have b1 := below1 w (Obj.cells #[.int .i64 (N : Int), s] 24)
  have c0 := two_cells w (.int .i64 (N : Int)) s 24
  have cn := c0.1
  have cs := c0.2
  have HE := Lib.hid (h.below b1)
  have HT := Lib.hid (TabAt.below (g := 1) hT b1)
  have Hb1 := Lib.hid b1
  have Hok := Lib.hid hok
  have hP : pow2 N ≤ 4096 := by unfold pow2; exact Nat.pow_le_pow_right (by decide) hN
  have hP0 : 0 < pow2 N := Nat.two_pow_pos N
  have e0 := op_shl (show N < 62 by omega)
  have HPe := Lib.hid (show pow2 N = 2 ^ N from rfl)
  clear h hok hT c0 b1
  go_enter Tryd.func28, Tryd.ntmps28
  go_upto_region 1 with fail
  generalize w.alloc (Obj.cells #[.int .i64 (N : Int), s] 24) = w1 at *
  go_upto_region 2 with (go_at_call 27; refine (masks_any l N s w1 HE.out (by omega) Hok.out).mono ?_; rintro e w2 ⟨bM, rfl, hlM, hrM, hb2⟩; have HrM := Lib.hid hrM; have Hb2 := Lib.hid hb2; have cn2 := below_cell hb2 cn; have HT2 := Lib.hid (TabAt.below (g := 1) HT.out hb2); clear hrM hb2)
  clear cn cs HE HT
  generalize pow2 N = M at *
  have hmk := run_make_row' (P := Tryd.prog) 30 3 (.int .i64 0) 8 Tryd.underlying30 info3 rfl .i64 .i64 M (by omega) (by omega)
  have cn3 := below_cell (below1 w2 (.cells (madeCells #[.int .i64 0] M) 3)) cn2
  go_cut [4, 5] from 15 to 22 (fun s4 s5 wx => ∃ bb bl, s4 = .slice (some ⟨bb, 0, none⟩) M M ∧ s5 = .slice (some ⟨bl, 0, none⟩) M M ∧ Wo2 w2 wx bb bl M (fun _ => 0) (fun _ => 0))
  case first =>
    go_region
    all_goals
      obtain ⟨r1, r2, r3⟩ := two_madeW w2 M
      go_wp2_with fail
      go_meet
      first
        | exact ⟨w2.heap.size, w2.heap.size + 1, rfl, rfl, ⟨r3.drew, Nat.le_refl _, by omega, by omega, r1, r2⟩⟩
        | exact ⟨w2.heap.size + 1, w2.heap.size, rfl, rfl, ⟨r3.drew, by omega, Nat.le_refl _, by omega, r2, r1⟩⟩
  case rest =>
  obtain ⟨bb, bl, rfl, rfl, hst⟩ := hcut
  obtain ⟨w3, rfl⟩ : ∃ w3 : World, w3 = wc := ⟨_, rfl⟩
  have Hst := Lib.hid hst
  have hne := hst.ne
  have cn3' := below_cell hst.hb cn2
  have Hcn2 := Lib.hid cn2
  clear hmk cn3 hst cn2
  go_upto_region 4 with fail
  clear cn3'
  go_loopg [6] (M - 1) (fun g s6 wr => ∃ (s : Nat) (b la : Nat → Nat), 1 ≤ s ∧ s ≤ M ∧ g = M - s ∧ s6 = .int .i64 (s : Int) ∧ Wo2 w2 wr bb bl M b la ∧ ∀ q, q < s → WoOk N (adj l) b la q)
  case atStart => exact ⟨1, fun _ => 0, fun _ => 0, Nat.le_refl _, hP0, rfl, rfl, Hst.out, fun q hq => by
    obtain rfl : q = 0 := by omega
    exact ⟨fun _ => rfl, fun h => absurd rfl h, fun h => h⟩⟩
  case round =>
    clear Hst
    obtain ⟨s, b, la, hs1, hsM, rfl, rfl, hst, hall⟩ := hrel
    have Hst := Lib.hid hst; have Hall := Lib.hid hall
    have cn := below_cell hst.hb Hcn2.out
    by_cases hlt : s < M
    · have t0 := hst.r1.cell hlt
      have y0 := hst.r1.frozen s
      have l0 := hst.r1.lt
      simp only [rn] at t0
      have Hst1 := Lib.hid (hst.setB s N)
      have hsN : s < 2 ^ N := by rw [← HPe.out]; exact hlt
      have HIn := Lib.hid (show WoIn N (adj l) (fun q => if q = s then N else b q) la s s from WoIn.start (by simp))
      have Hall1 := Lib.hid (show ∀ q, q < s → WoOk N (adj l) (fun q => if q = s then N else b q) la q from fun q hq => (Hall.out q hq).congr (fun p hp => by rw [if_neg (by omega)]) rfl)
      clear hst hall
      go_upto_region 8 with fail
      generalize wr.setCell ⟨bb, s, none⟩ (.int .i64 (N : Int)) = w4 at *
      clear t0 y0 l0 cn
      generalize (fun q => if q = s then N else b q) = b1 at *
      go_loopg [7] s (fun g s7 wi => ∃ (q : Nat) (b' la' : Nat → Nat), q = g ∧ s7 = .int .i64 (q : Int) ∧ WoIn N (adj l) b' la' s q ∧ Wo2 w2 wi bb bl M b' la' ∧ (∀ p, p < s → WoOk N (adj l) b' la' p) ∧ ∀ u, q.testBit u = true → s.testBit u = true)
      case atStart => exact ⟨s, b1, la, rfl, rfl, HIn.out, Hst1.out, Hall1.out, fun _ h => h⟩
      case round =>
        clear HIn Hst1 Hall1 Hst Hall
        obtain ⟨q, b', la', rfl, rfl, hin, hst, hall, hsub⟩ := hrel
        have Hin := Lib.hid hin; have Hst := Lib.hid hst; have Hall := Lib.hid hall; have Hsub := Lib.hid hsub
        have hqs : q ≤ s := Nat.le_of_testBit hsub
        by_cases hq : q = 0
        · subst hq
          have Hok2 := Lib.hid (hin.fin (by omega) (fun u hu => by
            rcases Nat.lt_or_ge u N with h | h
            · exact h
            · rw [Nat.testBit_lt_two_pow (Nat.lt_of_lt_of_le hsN (Nat.pow_le_pow_right (by omega) h))] at hu; cases hu) (fun u hu => (hall _ (less_lt hu)).2.2 (by
            rcases Nat.lt_or_ge 0 N with h | h
            · exact h
            · have : N = 0 := by omega
              subst this; simp at hsN; omega)))
          have cn := below_cell hst.hb Hcn2.out
          clear hin hst hall hsub
          go_wp2
          go_roundg (M - (s + 1))
          case measure => go_light; omega
          case rel => exact ⟨s + 1, b', la', by omega, by omega, rfl, by go_num, Hst.out, fun p hp => by
            by_cases e : p = s
            · subst e; exact Hok2.out
            · exact Hall.out p (by omega)⟩
        · have hqp : (0 : Int) < (q : Int) := by omega
          obtain ⟨hlow, hand⟩ := ctz_low hq (show Few q by unfold Few; omega)
          have hsc := hsub _ hlow
          have hu64 : IntKind.u64.wrap (q : Int) = (q : Int) := u64_nat (by omega)
          have hw1 : IntKind.i64.wrap ((q : Int) - 1) = ((q - 1 : Nat) : Int) := by rw [show (q : Int) - 1 = ((q - 1 : Nat) : Int) by omega]; exact wrap_nat (by omega)
          have Htz := Lib.hid (tz_any q (by omega) hq wr (TabAt.below (g := 1) HT2.out hst.hb))
          generalize Lib.ctz 64 q = c at *
          have hcN : c < N := by
            rcases Nat.lt_or_ge c N with h | h
            · exact h
            · rw [Nat.testBit_lt_two_pow (Nat.lt_of_lt_of_le hsN (Nat.pow_le_pow_right (by omega) h))] at hsc; cases hsc
          have hrl := less_lt hsc
          have hrb := (hall _ hrl).2.2 (by omega)
          have Hstep := Lib.hid (hin.step hlow hsc hcN hand hrb)
          have e1 := op_and (show Few q by unfold Few; omega) (show Few (q - 1) by unfold Few; omega)
          have e2 := op_shl (show c < 62 by omega)
          have e3 := op_andNot (show Few s by unfold Few; omega) (pow2_few (show c < 62 by omega))
          have Hq1 := Lib.hid (show ∀ u, (land q (q - 1)).testBit u = true → s.testBit u = true from fun u hu => by rw [hand] at hu; exact hsub u (Bool.and_eq_true _ _ |>.mp hu).1)
          have Hq2 := Lib.hid (show land q (q - 1) < q from Nat.lt_of_le_of_ne Nat.and_le_left fun e => by
            have := hand c
            rw [e, hlow] at this
            simp at this)
          have hq14 : land q (q - 1) ≤ q := Nat.and_le_left
          generalize land q (q - 1) = q1 at *
          have tr := hst.r1.cell (show less s (pow2 c) < M by omega)
          have ts := hst.r1.cell hlt
          have ys := hst.r1.frozen s
          have ls := hst.r1.lt
          have us := hst.r2.cell hlt
          have vs := hst.r2.frozen s
          have ms := hst.r2.lt
          simp only [rn] at tr ts us
          have HBe := Lib.hid (fun n => beyond_is (G := adj l) (show N ≤ 24 by omega) near_is hcN (show less s (pow2 c) < 2 ^ N by omega) (wr.drewN n) (hst.below (Below.drewN' (Below.refl wr.heap.size wr) n) |> fun h => (HrM.out.of_block (h.hb.block _ HrM.out.lt))) (TabAt.below (g := 1) HT2.out (hst.below (Below.drewN' (Below.refl wr.heap.size wr) n)).hb))
          have hbl := beyM_lt (N := N) (G := adj l) (set := less s (pow2 c)) (v := c)
          have hbc := beyM_card (N := N) (G := adj l) (set := less s (pow2 c)) (v := c) (by omega)
          have hb24 : beyM N (adj l) (less s (pow2 c)) c < 16777216 := pow_few (by omega) hbl
          have hdl := degB_lt (G := adj l) (S := bitsF (less s (pow2 c))) hcN
          rw [← hbc] at Hstep hdl
          generalize beyM N (adj l) (less s (pow2 c)) c = r at *
          have HPo := Lib.hid (fun n => pop_any r hb24 (wr.drewN n))
          have hu64r : IntKind.u64.wrap (r : Int) = (r : Int) := u64_nat (by omega)
          generalize card 24 r = d at *
          generalize less s (pow2 c) = rest at *
          have HD := Lib.hid (fun n => hst.below (Below.drewN' (Below.refl wr.heap.size wr) n))
          clear hin hst hall hsub hand hlow hbc hbl
          go_upto_region 12 with (go_at_call 30; refine Htz.out.mono ?_; rintro e w5 ⟨rfl, rfl⟩)
          go_quiet (first | (go_at_call 29; exact Calls.quiet_of_same (HBe.out _)) | (go_at_call 49; exact Calls.quiet_of_same (HPo.out _)))
          go_upto_region 13 with fail
          obtain ⟨m, hm⟩ : ∃ m : Nat, max (b' rest) d = m := ⟨_, rfl⟩
          have hmi : max (b' rest : Int) (d : Int) = (m : Int) := by omega
          rw [hmi]
          rw [hm] at Hstep
          clear hmi hm HBe HPo tr
          by_cases hlt2 : m < b' s
          · have HI2 := Lib.hid (Hstep.out.1 hlt2)
            have HS2 := Lib.hid (((HD.out nq).setB s m).setL s c)
            have HA2 := Lib.hid (show ∀ p, p < s → WoOk N (adj l) (fun q => if q = s then m else b' q) (fun q => if q = s then c else la' q) p from fun p hp => (Hall.out p hp).congr (fun x hx => by rw [if_neg (by omega)]) (by rw [if_neg (by omega)]))
            go_wp2
            go_roundg q1
            case measure => exact Hq2.out
            case rel => exact ⟨q1, _, _, rfl, rfl, HI2.out, HS2.out, HA2.out, Hq1.out⟩
          · have HI2 := Lib.hid (Hstep.out.2 hlt2)
            go_wp2
            go_roundg q1
            case measure => exact Hq2.out
            case rel => exact ⟨q1, _, _, rfl, rfl, HI2.out, HD.out nq, Hall.out, Hq1.out⟩
    · obtain rfl : M = s := by omega
      have hM1 : M - 1 < M := by omega
      have hw : IntKind.i64.wrap ((M : Int) - 1) = ((M - 1 : Nat) : Int) := by rw [show (M : Int) - 1 = ((M - 1 : Nat) : Int) by omega]; exact wrap_nat (by omega)
      have HT0 := Lib.hid (show WoT N (adj l) b (2 ^ N - 1) [] from WoT.start)
      have Hokk := Lib.hid (show ∀ q, q < 2 ^ N → WoOk N (adj l) b la q from fun q hq => Hall.out q (by rw [HPe.out]; exact hq))
      clear hst hall Hall
      go_upto_region 17 with fail
      obtain ⟨w6, rfl⟩ : ∃ w6 : World, w6 = wr := ⟨_, rfl⟩
      go_loopg [11, 12] (M - 1) (fun g s11 s12 wx => ∃ (q : Nat) (o : List Nat), q = g ∧ s12 = .int .i64 (q : Int) ∧ wx.ownsRow w6.heap.size 3 1 s11 o.length (nvals o) ∧ WoT N (adj l) b q o ∧ Below w6.heap.size w6 wx)
      case atStart => exact ⟨M - 1, [], rfl, rfl, World.ownsRow_nil _ _ _ _, by rw [HPe.out]; exact HT0.out, Below.refl _ _⟩
      case round =>
        clear HT0
        obtain ⟨q, o, rfl, rfl, ho, hT, hb⟩ := hrel
        have Ho := Lib.hid ho; have HT := Lib.hid hT; have Hb := Lib.hid hb
        obtain ⟨aO, cO, rfl⟩ := ownsRow_form ho
        have hqM : q < M := by rw [HPe.out]; exact hT.lt
        have holen : o.length ≤ N := nodup_lt N o hT.nd hT.rng
        have hsz := hb.size
        by_cases hq : q = 0
        · subst hq
          have HF := Lib.hid (hT.fin ((Hokk.out 0 (Nat.two_pow_pos N)).1 rfl))
          have HL := Lib.hid (fun L' (hO : Ord N L') B hB => wo_least (G := adj l) Hokk.out hO (W := B) hB)
          have Hrev := Lib.hid (revI_any (m := ints o) (by rw [ints_length]; exact ho) (by rw [ints_length]; omega))
          have hbase : w.heap.size ≤ w6.heap.size := by
            have h1 := Hb1.out.size; have h2 := Hb2.out.size; have h3 := Hst.out.hb.size; omega
          have Hw6 := Lib.hid (show Below w.heap.size w w6 from (Hb1.out.trans (Hb2.out.mono Hb1.out.size)).trans (Hst.out.hb.mono (by have h1 := Hb1.out.size; have h2 := Hb2.out.size; omega)))
          clear ho hT hb
          go_wp2_with (go_at_call 50; refine Hrev.out.mono ?_; rintro e w7 ⟨rfl, ho7, hg7⟩; rw [ints_length] at ho7; have Ho7 := Lib.hid ho7; have Hb7 := Lib.hid (Hb.out.grown hg7 hsz (fun g e => (Ho.out.lt g e).1)); clear ho7 hg7)
          exact bodyPost_ret (v := .slice aO o.length cO) (by simp [results, Tryd.results28, go_sem]) rfl ⟨_, o.reverse, _, rfl, by
            have h := ownsRow_low (b' := w.heap.size) Ho7.out hbase
            rw [List.length_reverse]
            rwa [show nvals o.reverse = (ints o).reverse.map (Value.int .i64) by simp [nvals, ints]], Hw6.out.trans (Hb7.out.mono Hw6.out.size), HF.out.1, HF.out.2, HL.out⟩
        · have hqp : (0 : Int) < (q : Int) := by omega
          obtain ⟨h1, h2, h3, h4⟩ := hT.next (Hokk.out q (by rw [← HPe.out]; exact hqM)) hq
          have HT4 := Lib.hid h4
          have tl0 := Hst.out.r2.cell hqM
          simp only [rn] at tl0
          have e2 := op_shl (show la q < 62 by omega)
          have e3 := op_andNot (show Few q by unfold Few; omega) (pow2_few (show la q < 62 by omega))
          generalize less q (pow2 (la q)) = q1 at *
          generalize la q = c at *
          have TL := Lib.hid tl0
          have tl := below_cell hb TL.out
          generalize hon : o.length = on at *
          have Hon := Lib.hid hon
          clear ho hT hb h1 h4 hon tl0
          go_upto_region 18 with (at_builtin; refine wpList_append_has rfl (.tmp 87) (.tmp 92) 30 rfl w6.heap.size 3 (.int .i64 0) 8 Tryd.underlying30 info3 rfl (.slice aO on cO) on (nvals o) rfl (Ho.out.alloc _) _ 1 (nvals [c]) rfl (HasCells.one _ _ _ rfl) (by omega) (by omega) (by simp; omega) ?_; intro a8 c8 w8 ho8 hg8; have Ho8 := Lib.hid ho8; have hb8 := (Hb.out.alloc Hb.out.size (Obj.cells #[.int .i64 (c : Int)] 3)).grown hg8 (by simp; omega) (fun g e => (Ho.out.lt g e).1); have tl8 := below_cell hb8 TL.out; have Hb8 := Lib.hid hb8; clear ho8 hg8 hb8)
          clear tl
          go_wp2
          go_roundg q1
          case measure => go_light; omega
          case rel => exact ⟨q1, o ++ [c], rfl, rfl, by rw [List.length_append, Hon.out, show nvals (o ++ [c]) = nvals o ++ nvals [c] by simp [nvals, ints]]; exact Ho8.out, HT4.out, Hb8.out⟩

end Go.Proofs.YtnmljgjegodkaaaDoor
