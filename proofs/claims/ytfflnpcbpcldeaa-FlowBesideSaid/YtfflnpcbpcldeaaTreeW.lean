/- flow.Tree: the walk. -/
import Derived.Test.YtfflnpcbpcldeaaTreeM
import Derived.Test.YtfflnpcbpcldeaaEnds
import Derived.Test.YtfflnpcbpcldeaaRising
namespace Go.Proofs.Ytfflnpcbpcldeaa
open Go.RowKit

set_option maxHeartbeats 6400000 in
set_option maxRecDepth 100000 in
theorem tree_any (n : Int) (l : List (Int × Int)) (ws : List Int) (s wv : Value) (w : World) (h : IsEdges w s l) (hw : IsInts w wv ws) :
    Calls Try.prog 41 #[.agg #[.int .i64 n, s], wv] w (TreePost n l ws w) := by
  obtain ⟨ad, cap, rfl⟩ : ∃ ad cap, s = .slice ad l.length cap := by
    obtain ⟨a, c, _, _, rfl, _⟩ := h
    exact ⟨a, c, rfl⟩
  obtain ⟨wa, wk, wb, wo, rfl, hwcap, hwmax, hwadr, -, hwcell⟩ := id hw
  have hg := (GRes.start w n (.slice ad l.length cap)).zero
  have He := Lib.hid h; have Hw := Lib.hid hw; have Hwc := Lib.hid hwcell
  have Hg := Lib.hid hg
  obtain ⟨cn, cs, b0, b1, d0, d1, hBl, hAB⟩ := hg.facts
  clear h hw hwcell hg
  go_enter Try.func41, Try.ntmps41
  go_upto_region 1 with fail
  generalize (w.alloc (Obj.cells #[.int .i64 n, .slice ad l.length cap] 24)).alloc (Obj.cells #[Value.int IntKind.i64 0, Value.int IntKind.i64 0] 27) = w1 at *
  go_upto_region 2 with (go_at_call 63; refine (gcheck_any l n _ w1 (He.out.below Hg.out.hb)).mono ?_; rintro e w2 ⟨c, a, hsp, rfl, hb2⟩; have Hsp := Lib.hid hsp; have H3 := Lib.hid (Hg.out.below (upt hb2 (below1 w2 (Obj.cells #[.int .i64 c, .int .i64 a] 27)))); have F3 := Lib.hid (FV.new w2 c a); clear hsp hb2)
  generalize w2.alloc (Obj.cells #[.int .i64 c, .int .i64 a] 27) = w3 at *
  generalize w2.heap.size = F at *
  clear cn cs b0 b1 d0 d1 hBl hAB Hg
  obtain ⟨cn, cs, b0, b1, d0, d1, hBl, hAB⟩ := H3.out.facts
  obtain ⟨f0, f1, -, -, -⟩ := F3.out.facts
  by_cases hc : c = 0
  · subst hc
    obtain ⟨rfl, hn0, hn1, hl, hok⟩ := tree_good Hsp.out
    obtain ⟨N, rfl⟩ := Int.eq_ofNat_of_zero_le hn0
    have hN : N ≤ 100 := by omega
    have Hok := Lib.hid hok
    clear hok hn0 hn1
    go_upto_region 4 with fail
    clear f0 f1 F3
    by_cases hlen : ws.length = l.length
    · have q : ((ws.length : Int) != (l.length : Int)) = false := by simp; omega
      have Hlen := Lib.hid hlen
      have hwl : ws.length ≤ 1000 := by omega
      clear hlen b0 b1 d0 d1 hBl hAB
      go_wp2
      go_loopg [31] ws.length (fun g s31 wr => ∃ k : Nat, k ≤ ws.length ∧ g = ws.length - k ∧ s31 = .int .i64 (k : Int) ∧ (∀ j, j < k → WOk ws j) ∧ Below w3.heap.size w3 wr)
      case atStart => exact ⟨0, Nat.zero_le _, rfl, rfl, fun j hj => absurd hj (Nat.not_lt_zero _), Below.refl _ _⟩
      case round =>
        obtain ⟨k, hk, rfl, rfl, hwok, hb⟩ := hrel
        have Hb := Lib.hid hb; have Hwok := Lib.hid hwok
        have hbw := H3.out.hb.trans (hb.mono H3.out.hb.size)
        by_cases hlt : k < ws.length
        · obtain rfl := hwadr (by omega)
          obtain ⟨z, Hz, cz⟩ := ints_at Hwc.out hbw hlt
          obtain ⟨cn, cs, b0, b1, d0, d1, hBl, hAB⟩ := (H3.out.below hb).facts
          have H4 := Lib.hid (H3.out.below hb)
          clear hb hwok hbw
          by_cases hz0 : z < 0
          · have Hbad := Lib.hid (show ¬ WOk ws k by unfold WOk; rw [Hz.out]; omega)
            go_wp2_with (go_at_call 69; refine (ffault_any _ _ _).mono ?_; rintro e wf ⟨rfl, rfl⟩)
            obtain ⟨e0, e1, e2⟩ := H4.out.resA 3 k (Obj.cells #[Value.int .i64 3, .int .i64 (k : Int)] 27)
            exact bodyPost_ret (v := .tuple #[.slice none 0 0, .slice none 0 0, .agg #[.int .i64 3, .int .i64 (k : Int)]]) (by simp [results, Try.results41, go_sem, e0, e1]) rfl ⟨3, k, _, _, rfl, Or.inr ⟨Hsp.out, Or.inr ⟨Hlen.out, Or.inl ⟨k, hlt, Hwok.out, Hbad.out, rfl, rfl⟩⟩⟩, e2, Or.inl ⟨by omega, rfl, rfl⟩⟩
          · by_cases hz1 : 1000000 < z
            · have Hbad := Lib.hid (show ¬ WOk ws k by unfold WOk; rw [Hz.out]; omega)
              go_wp2_with (go_at_call 69; refine (ffault_any _ _ _).mono ?_; rintro e wf ⟨rfl, rfl⟩)
              obtain ⟨e0, e1, e2⟩ := H4.out.resA 3 k (Obj.cells #[Value.int .i64 3, .int .i64 (k : Int)] 27)
              exact bodyPost_ret (v := .tuple #[.slice none 0 0, .slice none 0 0, .agg #[.int .i64 3, .int .i64 (k : Int)]]) (by simp [results, Try.results41, go_sem, e0, e1]) rfl ⟨3, k, _, _, rfl, Or.inr ⟨Hsp.out, Or.inr ⟨Hlen.out, Or.inl ⟨k, hlt, Hwok.out, Hbad.out, rfl, rfl⟩⟩⟩, e2, Or.inl ⟨by omega, rfl, rfl⟩⟩
            · have Hgood := Lib.hid (show WOk ws k by unfold WOk; rw [Hz.out]; omega)
              go_wp2
              go_roundg (ws.length - (k + 1))
              case measure => go_light; omega
              case rel => exact ⟨k + 1, by omega, rfl, by go_num, fun j hj => by
                by_cases e : j = k
                · rw [e]; exact Hgood.out
                · exact Hwok.out j (by omega), Hb.out⟩
        · obtain rfl : ws.length = k := by omega
          have H4 := Lib.hid (H3.out.below hb)
          have He4 := Lib.hid (He.out.below (H3.out.below hb).hb)
          have Hw4 := Lib.hid (Hw.out.below (H3.out.below hb).hb)
          clear hb hwok hbw cn cs Hwc He Hw hwadr hlt hk Hb H3
          obtain ⟨w4, rfl⟩ : ∃ w4 : World, w4 = wr := ⟨_, rfl⟩
          have cn := H4.out.cn
          have lcn := World.block_lt_of_cell? _ _ cn
          simp only at lcn
          have hmk := run_make_row' (P := Try.prog) 51 3 (.int .i64 0) 8 Try.underlying51 info3 rfl .i64 .i64 N (by omega) (by omega)
          go_upto_region 12 with fail
          go_cut [4, 5] from 45 to 50 (fun s4 s5 wx => RCut w4 N s4 s5 wx)
          case first =>
            go_region
            all_goals
              go_wp2
              go_meet
              first
                | exact ⟨_, _, rfl, rfl, (TR.start w4 N).below (Below.refl _ _).drew⟩
                | exact ⟨_, _, rfl, rfl, ((TR.start w4 N).below (Below.refl _ _).drew).swap⟩
          case rest =>
          obtain ⟨bU, bC, rfl, rfl, hT⟩ := hcut
          obtain ⟨w5, rfl⟩ : ∃ w5 : World, w5 = wc := ⟨_, rfl⟩
          obtain ⟨f, hf⟩ := capG_cuts l ws
          have HT0 := Lib.hid hT; have Hf := Lib.hid hf
          have hz : ∀ j, j < l.length → 0 ≤ ws.getD j 0 ∧ ws.getD j 0 ≤ 1000000 := fun j hj => Hwok.out j (by have := Hlen.out; omega)
          have harc := bothN_ok (N := N) Hok.out hz (Nat.le_refl _)
          have hNO := netOk (l := bothN l ws l.length) (N := N) (by omega) (by rw [bothN_length]; omega) harc
          have Hz := Lib.hid hz; have Harc := Lib.hid harc; have HNO := Lib.hid hNO
          clear hT hf hz harc hNO hmk cn lcn
          have hsz : w4.heap.size ≤ w5.heap.size := HT0.out.hb.size
          go_wp2
          go_loopg [10] (N - 1) (fun g s10 wr => ∃ (v : Nat) (up cut : Nat → Nat) (S : Nat → Nat → Bool), 1 ≤ v ∧ (v ≤ N ∨ v = 1) ∧ g = N - v ∧ s10 = .int .i64 (v : Int) ∧ TR w4 wr bU bC N (fun u => (up u : Int)) (fun u => (cut u : Int)) ∧ (0 < N → Gus (capG l ws) f N v up cut S) ∧ cut 0 = 0)
          case atStart => exact ⟨1, fun _ => 0, fun _ => 0, fun _ _ => false, Nat.le_refl _, Or.inr rfl, rfl, rfl, HT0.out, fun _ => Gus.start N _ _, rfl⟩
          case round =>
            obtain ⟨v, up, cut, S, hv1, hvN, rfl, rfl, ht, hgus, hcut0⟩ := hrel
            have Ht := Lib.hid ht; have Hgus := Lib.hid hgus; have Hc0 := Lib.hid hcut0
            by_cases hlt : v < N
            · have hG := hgus (by omega)
              have huv := hG.up_lt v (by omega) hlt
              have HG := Lib.hid hG
              have cn := (H4.out.below ht.hb).cn
              have cs := (H4.out.below ht.hb).cs
              have htf := ht.facts
              have hUw := ht.hU
              have hCw := ht.hC
              clear hgus hG hvN hcut0 ht
              go_upto_region 17 with (go_at_call 83; refine (fboth_any l ws N _ _ wr (He4.out.below Ht.out.hb) (Hw4.out.below Ht.out.hb) Hlen.out hN hl Hok.out Hz.out).mono ?_; rintro e w6 ⟨base, bP, bA, V, rfl, hp, hbP, hbA, hb6⟩; have Hp := Lib.hid hp; have Hb6 := Lib.hid hb6; have H6 := Lib.hid (Ht.out.below hb6); clear hp hb6)
              have tU := H6.out.ru.cell hlt
              simp only [ri] at tU
              clear cn cs
              go_upto_region 18 with (go_at_call 72; refine (fmost_any base bP bA N (2 * (bothN l ws l.length).length) v (up v) V (netX (bothN l ws l.length)) w6 hlt (by omega) (by omega) HNO.out (net_few Harc.out) Hp.out).mono ?_; rintro e w7 ⟨sum, X, lev, rfl, hp7, hsent, hlev, hlvt, hch⟩; have h67 := hch.toBelow (B := wr.heap.size) Hb6.out.size (fun k hk hS => by have h1 := Hp.out.ge (show 1 < N + 2 by omega) hS; have h2 := Hp.out.lt; omega); have h7 := Ht.out.below (Hb6.out.trans h67); have tC := h7.rc.cell hlt; have tCf := h7.rc.frozen v; have tCl := h7.rc.lt; simp only [ri] at tC; have H7 := Lib.hid h7; have Hp7 := Lib.hid hp7; have Hsent := Lib.hid hsent; have Hlev := Lib.hid hlev; have Hlvt := Lib.hid hlvt; clear hp7 hsent hlev hlvt hch h67 h7)
              have h8 := H7.out.setC v (sum : Int)
              have hp8 := Hp7.out.setLow (b := bC) (by omega) (by omega) v (.int .i64 (sum : Int))
              have H8 := Lib.hid h8; have Hp8 := Lib.hid hp8
              have cn := (H4.out.below h8.hb).cn
              have lcn := World.block_lt_of_cell? _ _ cn
              have hf8 := h8.facts
              clear tU tC tCf tCl h8 hp8 H7 Hp7 H6 Hp
              generalize w7.setCell ⟨bC, v, none⟩ (.int .i64 (sum : Int)) = w8 at *
              have hmk2 := run_make_row' (P := Try.prog) 38 4 (.bool false) 1 Try.underlying38 info4 rfl .i64 .i64 N (by omega) (by omega)
              go_upto_region 19 with fail
              clear hmk2 cn lcn
              have hI0 := World.rowIs_made w8 (.bool false) N 4
              have H9 := Lib.hid (H8.out.below (below1 w8 (.cells (madeCells #[Value.bool false] N) 4)))
              have Hp9 := Lib.hid (Hp8.out.alloc (.cells (madeCells #[Value.bool false] N) 4))
              have HI0 := Lib.hid hI0
              clear hI0
              generalize w8.alloc (.cells (madeCells #[Value.bool false] N) 4) = w9 at *
              have hIU : w8.heap.size ≠ bU := by omega
              have hIC : w8.heap.size ≠ bC := by omega
              have hI4 : w4.heap.size ≤ w8.heap.size := by omega
              generalize w8.heap.size = bI at *
              go_upto_region 20 with (go_at_call 73; refine (fside_any base bP bA N (2 * (bothN l ws l.length).length) v V X _ hlt Hsent.out.ok Hp9.out).mono ?_; rintro e w10 ⟨lev', v8, rfl, hlev', hown8, hb8⟩; obtain ⟨a8, c8, rfl⟩ := ownsRow_form hown8; have H10 := Lib.hid (H9.out.below hb8); have HI1 := Lib.hid (HI0.out.of_block (hb8.block _ HI0.out.lt)); have Hlev' := Lib.hid hlev'; have Hside := Lib.hid (IsInts.owned hown8); have Hown := Lib.hid (fun g e => (World.ownsRow.lt hown8 g e).1); have hI9 := HI0.out.lt; clear hlev' hown8 hb8)
              have hsl := sideL_length lev' N
              have hI10 := HI1.out.lt
              go_loopg [77] (sideL lev' N).length (fun g s77 wx => ∃ k : Nat, k ≤ (sideL lev' N).length ∧ g = (sideL lev' N).length - k ∧ s77 = .int .i64 (k : Int) ∧ wx.rowIs bI 4 N (rb fun u => decide (u ∈ (sideL lev' N).take k)) ∧ TR w4 wx bU bC N (fun u => (up u : Int)) (fun u => if u = v then (sum : Int) else (cut u : Int)) ∧ Chg (fun q => q = bI) w10 wx)
              case atStart => exact ⟨0, Nat.zero_le _, rfl, rfl, HI1.out.congr (fun k _ => by simp [rb]), H10.out, Chg.refl _ _⟩
              case round =>
                obtain ⟨k, hk, rfl, rfl, hrI, htr, hch⟩ := hrel
                have HrI := Lib.hid hrI; have Htr := Lib.hid htr; have Hch := Lib.hid hch
                by_cases hkl : k < (sideL lev' N).length
                · obtain ⟨b8', o8, e8, h1⟩ := ints_at' Hside.out (Below.refl _ _) hkl
                  have hb8' : b8' ≠ bI := fun e => by
                    have := Hown.out b8' (by rw [e8]; rfl)
                    omega
                  subst e8
                  have c8 := hch.cell h1 (show ¬ b8' = bI from hb8')
                  have hx := (sideL_at hkl).1
                  have hI := hrI.cell hx
                  have hIf := hrI.frozen ((sideL lev' N).getD k 0)
                  have hIl := hrI.lt
                  have hmem : ∀ q, q ∈ (sideL lev' N).take (k + 1) ↔ q ∈ (sideL lev' N).take k ∨ q = (sideL lev' N).getD k 0 := fun q => by
                    rw [List.take_succ_eq_append_getElem hkl, List.mem_append, List.mem_singleton]
                    simp [List.getD, hkl]
                  generalize hxx : (sideL lev' N).getD k 0 = x at *
                  have Hmem := Lib.hid hmem
                  clear hrI htr hch hxx hmem h1
                  simp only [rb] at hI
                  go_wp2
                  go_roundg ((sideL lev' N).length - (k + 1))
                  case measure => go_light; omega
                  case rel => exact ⟨k + 1, by omega, rfl, by go_num, row_rb (row_set_rb HrI.out x true) (fun q _ => by
                    by_cases e : q = x
                    · rw [if_pos e]; exact (decide_eq_true ((Hmem.out q).2 (Or.inr e))).symm
                    · rw [if_neg e]
                      have := Hmem.out q
                      simp only [e, or_false] at this
                      simp only [this]), Htr.out.setNew (by omega) hIU hIC _ _, Hch.out.setCell (fun _ => rfl) _⟩
                · obtain rfl : (sideL lev' N).length = k := by omega
                  have hrT : wr.rowIs bI 4 N (rb fun u => decide (0 ≤ lev' u)) := row_rb hrI fun u hu => by
                    rw [List.take_length]
                    simp only [sideL_mem, hu, true_and]
                  have HrT := Lib.hid hrT
                  clear hrI htr hch hrT HrI Hch HI1 Hside Hown hsl hk
                  obtain ⟨w11, rfl⟩ : ∃ w11 : World, w11 = wr := ⟨_, rfl⟩
                  have cn := (H4.out.below Htr.out.hb).cn
                  go_wp2
                  clear cn
                  go_loopg [15] (N - (v + 1)) (fun g s15 wx => ∃ k : Nat, v + 1 ≤ k ∧ k ≤ N ∧ g = N - k ∧ s15 = .int .i64 (k : Int) ∧ wx.rowIs bI 4 N (rb fun u => decide (0 ≤ lev' u)) ∧ TR w4 wx bU bC N (fun u => (upP up v (fun u => decide (0 ≤ lev' u)) k u : Int)) (fun u => if u = v then (sum : Int) else (cut u : Int)))
                  case atStart => exact ⟨v + 1, Nat.le_refl _, by omega, rfl, by go_num, HrT.out, Htr.out.congr (fun u _ => by rw [upP_start]) (fun _ _ => rfl)⟩
                  case round =>
                    obtain ⟨k, hvk, hk, rfl, rfl, hrI, htr⟩ := hrel
                    have HrI := Lib.hid hrI; have Htr := Lib.hid htr
                    have cn := (H4.out.below htr.hb).cn
                    by_cases hkN : k < N
                    · have tI := hrI.cell hkN
                      have tk := htr.ru.cell hkN
                      have tv := htr.ru.cell hlt
                      have tkf := htr.ru.frozen k
                      have tkl := htr.ru.lt
                      simp only [rb] at tI
                      simp only [ri] at tk tv
                      rw [upP_at] at tk
                      rw [upP_same] at tv
                      clear hrI htr
                      by_cases hT : 0 ≤ lev' k
                      · rw [decide_eq_true hT] at tI
                        by_cases he : up k = up v
                        · have HT := Lib.hid (And.intro (decide_eq_true hT) he)
                          have q1 : ((up k : Int) == (up v : Int)) = true := by simp [he]
                          rw [he] at tk
                          clear hT he q1
                          go_wp2
                          go_quiet (fail)
                          go_wp2
                          go_roundg (N - (k + 1))
                          case measure => go_light; omega
                          case rel => exact ⟨k + 1, by omega, by omega, rfl, by go_num, HrI.out.setOther (a := ⟨bU, k, none⟩) hIU _, ((Htr.out.below (Below.drewN' (Below.refl _ _) _)).setU k (v : Int)).congr (f' := fun u => (upP up v (fun u => decide (0 ≤ lev' u)) (k + 1) u : Int)) (fun u _ => by
                            have := upP_yes (i := v) (k := k) (T := fun u => decide (0 ≤ lev' u)) (by omega) HT.out u
                            rw [← this]
                            split <;> rfl) (fun _ _ => rfl)⟩
                        · have HT := Lib.hid (show ¬ ((fun u => decide (0 ≤ lev' u)) k = true ∧ up k = up v) from fun h => he h.2)
                          have q1 : ((up k : Int) == (up v : Int)) = false := by simp; omega
                          clear hT he
                          go_wp2
                          go_quiet (fail)
                          go_wp2
                          go_roundg (N - (k + 1))
                          case measure => go_light; omega
                          case rel => exact ⟨k + 1, by omega, by omega, rfl, by go_num, HrI.out, (Htr.out.below (Below.drewN' (Below.refl _ _) _)).congr (f' := fun u => (upP up v (fun u => decide (0 ≤ lev' u)) (k + 1) u : Int)) (fun u _ => by rw [upP_no HT.out]) (fun _ _ => rfl)⟩
                      · have HT := Lib.hid (show ¬ ((fun u => decide (0 ≤ lev' u)) k = true ∧ up k = up v) from fun h => hT (of_decide_eq_true h.1))
                        rw [decide_eq_false hT] at tI
                        clear hT
                        go_wp2
                        go_quiet (fail)
                        go_wp2
                        go_roundg (N - (k + 1))
                        case measure => go_light; omega
                        case rel => exact ⟨k + 1, by omega, by omega, rfl, by go_num, HrI.out, (Htr.out.below (Below.drewN' (Below.refl _ _) _)).congr (f' := fun u => (upP up v (fun u => decide (0 ≤ lev' u)) (k + 1) u : Int)) (fun u _ => by rw [upP_no HT.out]) (fun _ _ => rfl)⟩
                    · obtain rfl : N = k := by omega
                      have hno : lev' (up v) < 0 := Hlev.out.shut Hlev'.out (by omega) Hlvt.out
                      obtain ⟨hcap, hleast⟩ := MostOk.least (show MostOk N (2 * (bothN l ws l.length).length) (bothN l ws l.length) v (up v) sum X lev' from ⟨Hsent.out, Hlev'.out, hno⟩) hlt
                      have hsum := hleast.uniq (Hf.out.least v (up v) (by omega))
                      rw [hsum] at hcap
                      have Hnext := Lib.hid (HG.out.next Hf.out hlt (T := fun u => decide (0 ≤ lev' u)) (decide_eq_true (by rw [Hlev'.out.src]; exact Int.le_refl 0)) (decide_eq_false (by omega)) hcap)
                      have Hsum := Lib.hid hsum
                      clear hrI htr hno hcap hleast hsum
                      go_wp2
                      go_roundg (N - (v + 1))
                      case measure => go_light; omega
                      case rel => exact ⟨v + 1, _, _, _, by omega, Or.inl (by omega), rfl, by go_num, Htr.out.congr (fun u _ => rfl) (fun u _ => by
                        rw [Hsum.out]
                        split <;> rfl), fun _ => Hnext.out, by rw [if_neg (by omega)]; exact Hc0.out⟩
            · have hvN' : N = 0 ∨ v = N := by omega
              have HvN := Lib.hid hvN'
              have hr := H4.out.below ht.hb
              obtain ⟨cn, cs, b0, b1, d0, d1, hBl, hAB⟩ := hr.facts
              have Hr := Lib.hid hr
              have hBU : w.heap.size + 1 ≠ bU := by
                have := ht.hU
                have := H4.out.hf.lt
                omega
              have hBC : w.heap.size + 1 ≠ bC := by
                have := ht.hC
                have := H4.out.hf.lt
                omega
              have tUl := ht.ru.lt
              by_cases hN0 : 0 < N
              · have tU := ht.ru.cell hN0
                have tUf := ht.ru.frozen 0
                simp only [ri] at tU
                have ht2 := ht.setU 0 (-1)
                have hr2 := H4.out.below ht2.hb
                have Ht2 := Lib.hid ht2; have Hr2 := Lib.hid hr2
                have b02 := hr2.f0
                have b12 := hr2.f1
                have d02 := hr2.hf.frozen 0
                have d12 := hr2.hf.frozen 1
                have hBl2 := hr2.hf.lt
                clear hgus hcut0 ht hvN hvN' ht2 hr2 hr cs
                go_upto_region 31 with fail
                clear cn tU tUf tUl b0 b1 d0 d1 hBl
                generalize wr.setCell ⟨bU, 0, none⟩ (.int .i64 (-1)) = w20 at *
                go_region
                all_goals
                  obtain ⟨e0, e1, e2⟩ := Hr2.out.res 0 0
                  have rU := ((Ht2.out.ru.setOther (a := ⟨w.heap.size + 1, 0, none⟩) (Ne.symm hBU) (.int .i64 0)).setOther (a := ⟨w.heap.size + 1, 1, none⟩) (Ne.symm hBU) (.int .i64 0))
                  have rC := ((Ht2.out.rc.setOther (a := ⟨w.heap.size + 1, 0, none⟩) (Ne.symm hBC) (.int .i64 0)).setOther (a := ⟨w.heap.size + 1, 1, none⟩) (Ne.symm hBC) (.int .i64 0))
                  go_wp2
                  exact bodyPost_ret (v := .tuple #[.slice (some ⟨bU, 0, none⟩) N N, .slice (some ⟨bC, 0, none⟩) N N, .agg #[.int .i64 0, .int .i64 0]]) (by simp [results, Try.results41, go_sem, e0, e1]) rfl
                    ⟨0, 0, _, _, rfl, Or.inr ⟨Hsp.out, Or.inr ⟨Hlen.out, Or.inr ⟨fun j hj => Hwok.out j hj, rfl, rfl⟩⟩⟩, e2.drew, Or.inr ⟨rfl, rfl, N, up, cut, rfl, ⟨f, S, Hf.out, fun h => by
                      have hv : v = N := by have := HvN.out; omega
                      have := Hgus.out h
                      rwa [hv] at this, Hc0.out⟩, IsInts.ofRow (f := upV up) (rU.congr fun i _ => by
                        unfold upV ri
                        rfl) (by omega), IsInts.ofRow rC (by omega)⟩⟩
              · obtain rfl : N = 0 := by omega
                have Ht2 := Lib.hid ht
                clear hgus hcut0 ht hvN hvN' hr cs
                go_upto_region 31 with fail
                go_region
                all_goals
                  obtain ⟨e0, e1, e2⟩ := Hr.out.res 0 0
                  have rU := ((Ht2.out.ru.setOther (a := ⟨w.heap.size + 1, 0, none⟩) (Ne.symm hBU) (.int .i64 0)).setOther (a := ⟨w.heap.size + 1, 1, none⟩) (Ne.symm hBU) (.int .i64 0))
                  have rC := ((Ht2.out.rc.setOther (a := ⟨w.heap.size + 1, 0, none⟩) (Ne.symm hBC) (.int .i64 0)).setOther (a := ⟨w.heap.size + 1, 1, none⟩) (Ne.symm hBC) (.int .i64 0))
                  go_wp2
                  exact bodyPost_ret (v := .tuple #[.slice (some ⟨bU, 0, none⟩) 0 0, .slice (some ⟨bC, 0, none⟩) 0 0, .agg #[.int .i64 0, .int .i64 0]]) (by simp [results, Try.results41, go_sem, e0, e1]) rfl
                    ⟨0, 0, _, _, rfl, Or.inr ⟨Hsp.out, Or.inr ⟨Hlen.out, Or.inr ⟨fun j hj => Hwok.out j hj, rfl, rfl⟩⟩⟩, e2.drew, Or.inr ⟨rfl, rfl, 0, up, cut, rfl, ⟨f, S, Hf.out, fun h => by omega, Hc0.out⟩, IsInts.ofRow (f := upV up) (rU.congr fun i hi => absurd hi (Nat.not_lt_zero _)) (by omega), IsInts.ofRow rC (by omega)⟩⟩
    · have q : ((ws.length : Int) != (l.length : Int)) = true := by simp; omega
      have Hlen := Lib.hid hlen
      clear hlen
      go_wp2_with (go_at_call 69; refine (ffault_any _ _ _).mono ?_; rintro e wf ⟨rfl, rfl⟩)
      obtain ⟨e0, e1, e2⟩ := H3.out.resA 6 0 (Obj.cells #[Value.int .i64 6, .int .i64 0] 27)
      exact bodyPost_ret (v := .tuple #[.slice none 0 0, .slice none 0 0, .agg #[.int .i64 6, .int .i64 0]]) (by simp [results, Try.results41, go_sem, e0, e1]) rfl ⟨6, 0, _, _, rfl, Or.inr ⟨Hsp.out, Or.inl ⟨Hlen.out, rfl, rfl⟩⟩, e2, Or.inl ⟨by omega, rfl, rfl⟩⟩
  · have q : (c != 0) = true := by simp [hc]
    have Hc := Lib.hid hc
    clear hc
    go_wp2
    go_region
    all_goals
      obtain ⟨e0, e1, e2⟩ := H3.out.res c a
      go_wp2
      exact bodyPost_ret (v := .tuple #[.slice none 0 0, .slice none 0 0, .agg #[.int .i64 c, .int .i64 a]]) (by simp [results, Try.results41, go_sem, e0, e1]) rfl ⟨c, a, _, _, rfl, Or.inl ⟨Hsp.out, Hc.out⟩, e2.drew, Or.inl ⟨Hc.out, rfl, rfl⟩⟩

end Go.Proofs.Ytfflnpcbpcldeaa
