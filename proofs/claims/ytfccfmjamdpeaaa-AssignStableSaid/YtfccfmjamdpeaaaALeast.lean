/- arborlaw.AssignLeast: the walk: the law answers true. -/
import Derived.Test.YtfccfmjamdpeaaaABegunW
import Derived.Test.YtfccfmjamdpeaaaCopies
namespace Go.Proofs.Ytfccfmjamdpeaaa
open Go.RowKit

theorem lists_is {c : Bool} (l m : List (List Int)) (s t : Value) (w : World) (h : IsRows w s l) (h' : IsRows w t m) (e : decide (l = m) = c) :
    Calls Try.prog 26 #[s, t] w fun e w' => e = .returned (.bool c) ∧ Drew w w' := by
  subst e; exact lists_any l m s t w h h'

theorem all_yes_n {n : Nat} (l : List Int) (s : Value) (w : World) (h : IsInts w s l) (hn : l.length = n) (hr : ∀ i, i < n → 0 ≤ l.getD i 0 ∧ l.getD i 0 < n) (hd : ∀ i j, i < n → j < i → l.getD j 0 ≠ l.getD i 0) :
    Calls Try.prog 38 #[s, .int .i64 n] w fun e w' => e = .returned (.bool true) ∧ Drew w w' := by
  subst hn
  exact all_yes l s w h hr hd

theorem pair_cells (w : World) (c d : Value) (T : TypeId) : (w.alloc (Obj.cells #[c, d] T)).cell? ⟨w.heap.size, 0, none⟩ = some c ∧ (w.alloc (Obj.cells #[c, d] T)).cell? ⟨w.heap.size, 1, none⟩ = some d :=
  ⟨by rw [World.cell?_alloc_at _ _ _ _ rfl]; rfl, by rw [World.cell?_alloc_at _ _ _ _ rfl]; rfl⟩

set_option maxHeartbeats 3200000 in
set_option maxRecDepth 100000 in
theorem leastLaw_any (m : List (List Int)) (s : Value) (w : World) (h : IsRows w s m) (hm : m.length * 24 ≤ 140737488351232) (hr : ∀ j, j < m.length → (m.getD j []).length * 8 ≤ 140737488351232) :
    Calls Try.prog 6 #[s] w fun e w' => e = .returned (.bool true) ∧ Below w.heap.size w w' := by
  have hm0 := h
  obtain ⟨a, cap, b, o, rfl, hcap, hmax, hadr, -, hcell⟩ := h
  have Hm := Lib.hid hm0
  clear hm0
  go_enter Try.func6, Try.ntmps6
  go_wp2_with fail
  refine (rows_any m _ w Hm.out hm hr).mono ?_
  rintro e w1 ⟨v, rfl, hv, hb1⟩
  have Hv := Lib.hid hv; have Hb1 := Lib.hid hb1
  clear hv hb1 hr
  go_wp2_with fail
  refine (costFault_any m _ w1 (Hm.out.below Hb1.out)).mono ?_
  rintro e w2 ⟨c, d, hsp, rfl, hb2⟩
  have Hsp := Lib.hid hsp
  have hb2w := Hb1.out.trans (hb2.mono Hb1.out.size)
  have hv2 := Hv.out.below hb2
  have HbA := Lib.hid (hb2w.alloc hb2w.size (Obj.cells #[Value.int .i64 c, Value.int .i64 d] 27))
  have hvA := hv2.below (below1 w2 (Obj.cells #[Value.int .i64 c, Value.int .i64 d] 27))
  have HvA := Lib.hid hvA
  clear hsp hb2 hv2 hvA hb2w
  go_wp2_with fail
  refine (least_any m _ _ HvA.out).mono ?_
  rintro e w3 ⟨hb3, hp⟩
  have hz3 := hb3.size
  simp only [World.size_alloc] at hz3
  have hF0 := below_cell hb3 (pair_cells w2 (.int .i64 c) (.int .i64 d) 27).1
  have hF1 := below_cell hb3 (pair_cells w2 (.int .i64 c) (.int .i64 d) 27).2
  have hb3w := HbA.out.trans (hb3.mono HbA.out.size)
  have hv3 := HvA.out.below hb3
  rcases hp with ⟨c', d', hsp', hc', rfl⟩ | ⟨hsp', t, p, q, T, P, Q, total, hok, hT, hP, hQ, rfl⟩
  · obtain ⟨rfl, rfl⟩ := Hsp.out.uniq hsp'
    have hc1 : (c != 0) = true := by simpa using hc'
    have hc2 : (c == 0) = false := by simpa using hc'
    have Hb3w := Lib.hid hb3w; have Hv3 := Lib.hid hv3
    clear hb3 hb3w hv3 hsp' hc'
    go_wp2_with fail
    refine (assignBegun_any _).mono ?_
    rintro e w4 ⟨rfl, hb4⟩
    have hz4 := hb4.size
    simp only [World.size_alloc] at hz4
    have pc := pair_cells w3 (.int .i64 c) (.int .i64 d) 27
    have hG0 := below_cell hb4 pc.1
    have hG1 := below_cell hb4 pc.2
    have hF0 := below_cell hb4 (below_cell (below1 w3 _) hF0)
    have hF1 := below_cell hb4 (below_cell (below1 w3 _) hF1)
    have hb4w := (Hb3w.out.alloc Hb3w.out.size (Obj.cells #[Value.int .i64 c, Value.int .i64 d] 27))
    have hb4w := hb4w.trans (hb4.mono hb4w.size)
    have hv4 := (Hv3.out.below (below1 w3 (Obj.cells #[Value.int .i64 c, Value.int .i64 d] 27))).below hb4
    have hm4 := Hm.out.below hb4w
    have Hb4w := Lib.hid hb4w; have Hv4 := Lib.hid hv4; have Hm4 := Lib.hid hm4
    clear hb4 hb4w hv4 hm4 pc
    go_wp2_with fail
    refine (lists_is m m _ _ w4 Hv4.out Hm4.out (decide_eq_true rfl)).mono ?_
    rintro e w5 ⟨rfl, hd⟩
    have hF5 := below_cell hd.below hF0
    have hd5 := Hb4w.out.trans hd.below
    have Hd5 := Lib.hid hd5
    clear hd hd5
    go_wp2
    go_ret
    exact ⟨rfl, Hd5.out⟩
  · obtain ⟨rfl, rfl⟩ := Hsp.out.uniq hsp'
    have Hb3w := Lib.hid hb3w; have Hv3 := Lib.hid hv3; have HT := Lib.hid hT; have HP := Lib.hid hP; have HQ := Lib.hid hQ; have Hok := Lib.hid hok
    clear hb3 hb3w hv3 hsp' hT hP hQ hok
    go_wp2_with fail
    refine (assignBegun_any _).mono ?_
    rintro e w4 ⟨rfl, hb4⟩
    have hz4 := hb4.size
    simp only [World.size_alloc] at hz4
    have pc := pair_cells w3 (.int .i64 0) (.int .i64 0) 27
    have hG0 := below_cell hb4 pc.1
    have hG1 := below_cell hb4 pc.2
    have hF0 := below_cell hb4 (below_cell (below1 w3 _) hF0)
    have hF1 := below_cell hb4 (below_cell (below1 w3 _) hF1)
    have hb4w := (Hb3w.out.alloc Hb3w.out.size (Obj.cells #[Value.int .i64 0, Value.int .i64 0] 27))
    have hb4w := hb4w.trans (hb4.mono hb4w.size)
    have hv4 := (Hv3.out.below (below1 w3 (Obj.cells #[Value.int .i64 0, Value.int .i64 0] 27))).below hb4
    have hm4 := Hm.out.below hb4w
    have hT4 := (HT.out.below (below1 w3 (Obj.cells #[Value.int .i64 0, Value.int .i64 0] 27))).below hb4
    have hP4 := (HP.out.below (below1 w3 (Obj.cells #[Value.int .i64 0, Value.int .i64 0] 27))).below hb4
    have hQ4 := (HQ.out.below (below1 w3 (Obj.cells #[Value.int .i64 0, Value.int .i64 0] 27))).below hb4
    have Hb4w := Lib.hid hb4w; have Hv4 := Lib.hid hv4; have Hm4 := Lib.hid hm4; have HT4 := Lib.hid hT4; have HP4 := Lib.hid hP4; have HQ4 := Lib.hid hQ4
    clear hb4 hb4w hv4 hm4 pc hT4 hP4 hQ4
    go_wp2_with fail
    refine (lists_is m m _ _ w4 Hv4.out Hm4.out (decide_eq_true rfl)).mono ?_
    rintro e w5 ⟨rfl, hd⟩
    have hF5 := below_cell hd.below hF0
    have hb5 := Hb4w.out.trans hd.below
    have hT5 := HT4.out.below hd.below
    have hP5 := HP4.out.below hd.below
    have hQ5 := HQ4.out.below hd.below
    have Hb5 := Lib.hid hb5; have HT5 := Lib.hid hT5
    obtain ⟨l1, l2, l3, hTr, hTd, hPb, hQb, hfe, hti, htot⟩ := Hok.out
    obtain ⟨pa, pcap, pb, po, rfl, hpc, hpm, hpadr, -, hpcell⟩ := hP5
    obtain ⟨qa, qcap, qb, qo, rfl, hqc, hqm, hqadr, -, hqcell⟩ := hQ5
    obtain ⟨ta, tcap, tb, to_, rfl, htc, htm, htadr, -, htcell⟩ := hT5
    have hn1 : m.length ≤ 100 := by
      rcases Hsp.out with ⟨_, h, _⟩ | ⟨h, _⟩ | ⟨h, _⟩ <;> omega
    have hrow : ∀ i, i < m.length → RowOk m i := by
      rcases Hsp.out with ⟨_, h, _⟩ | ⟨_, i, _, _, _, _, ⟨_, h⟩ | ⟨_, h⟩⟩ | ⟨_, h, _⟩ <;> first | omega | exact h
    generalize hn : m.length = n at *
    rw [l1] at htc htadr htcell HT5
    rw [l2] at hpc hpadr hpcell
    rw [l3] at hqc hqadr hqcell
    have HTr := Lib.hid hTr; have HTd := Lib.hid hTd; have HPb := Lib.hid hPb; have HQb := Lib.hid hQb; have Hfe := Lib.hid hfe; have Hti := Lib.hid hti; have Htot := Lib.hid htot; have Hrow := Lib.hid hrow; have Hn := Lib.hid hn
    have Hl1 := Lib.hid l1; have Hl2 := Lib.hid l2; have Hl3 := Lib.hid l3
    clear hd hb5 hTr hTd hPb hQb hfe hti htot hrow hn
    go_wp2_with fail
    refine (all_yes_n T _ w5 HT5.out Hl1.out HTr.out HTd.out).mono ?_
    rintro e w6 ⟨rfl, hd6⟩
    have hb6 := Hb5.out.trans hd6.below
    have Hb6 := Lib.hid hb6; have Hd6 := Lib.hid hd6
    clear hb6 hd6
    go_wp2
    generalize w6 = wX at *
    go_loopw [11, 12] (fun s11 s12 wr => ∃ k : Nat, k ≤ n ∧ s12 = .int .i64 k ∧ s11 = .int .i64 (sumTo m (fun i => (T.getD i 0).toNat) k) ∧ Drew wX wr ∧ -1000000 * (k : Int) ≤ sumTo m (fun i => (T.getD i 0).toNat) k ∧ sumTo m (fun i => (T.getD i 0).toNat) k ≤ 1000000 * (k : Int)) (fun _ i _ => n - (intOf i).toNat)
    case atStart => exact ⟨0, Nat.zero_le _, rfl, rfl, Drew.refl _, by simp [sumTo], by simp [sumTo]⟩
    case round =>
      obtain ⟨k, hk, rfl, rfl, hdk, hs1, hs2⟩ := hrel
      by_cases hlt : k < n
      · obtain rfl := hadr (by omega)
        obtain rfl := htadr (by omega)
        obtain rfl := hpadr (by omega)
        obtain rfl := hqadr (by omega)
        have hbr := Hb6.out.trans hdk.below
        have hd5r := Hd6.out.trans hdk
        obtain ⟨x, Hx, ra, rcap, hc, hr⟩ := rows_at (m := m) (w := w) (b := b) (o := o) (k := k) (by rw [Hn.out]; exact hcell) hbr (show k < m.length by rw [Hn.out]; exact hlt)
        have hxl : x.length = n := by rw [← Hx.out, (Hrow.out k hlt).1, Hn.out]
        obtain ⟨ra', rcap', rb, ro, he, hrc, hrm, hra, -, hrcell⟩ := id hr
        simp only [Value.slice.injEq, true_and] at he
        obtain ⟨rfl, rfl⟩ := he
        obtain rfl := hra (by omega)
        have htc5 := below_cell hd5r.below (htcell k hlt)
        have hpc5 := below_cell hd5r.below (hpcell k hlt)
        obtain ⟨ht0, ht1⟩ := HTr.out k hlt
        have hss : sumTo m (fun i => (T.getD i 0).toNat) (k + 1) = _ := sumTo_succ _ _ _
        rw [Hx.out] at hss
        have hti := Hti.out k hlt
        rw [Hx.out] at hti
        have hpb := HPb.out k hlt
        generalize hte : T.getD k 0 = tk at *
        obtain ⟨tn, rfl⟩ : ∃ tn : Nat, tk = tn := ⟨tk.toNat, by omega⟩
        simp only [Int.toNat_natCast] at hss hti
        obtain ⟨z, Hz, hcz⟩ := ints_at hrcell (Below.refl _ _) (show tn < x.length by omega)
        have bz := (Hrow.out k hlt).2 tn (by rw [Hn.out]; omega)
        rw [Hx.out, Hz.out] at bz
        rw [Hz.out] at hss hti
        generalize hpe : P.getD k 0 = pk at *
        generalize hse : sumTo m (fun i => (T.getD i 0).toNat) k = sk at *
        have Hss := Lib.hid hss; have Hti2 := Lib.hid hti; have Hte := Lib.hid hte; have Hpe := Lib.hid hpe; have Hse := Lib.hid hse; have Hxl := Lib.hid hxl
        have hxl2 : n ≤ x.length := by omega
        have hxl3 : x.length ≤ 100 := by omega
        have Hrx := Lib.hid hrcell; have Hhr := Lib.hid hr
        have Hdk := Lib.hid hdk
        have Hqcell := Lib.hid hqcell; have Hd5r := Lib.hid hd5r
        have Htc5 := Lib.hid htc5; have Hpc5 := Lib.hid hpc5; have Hc := Lib.hid hc; have Hcell := Lib.hid hcell
        clear hss hti hte hpe hse hxl hrcell hr hcell htcell hpcell hadr htadr hpadr hqadr hqcell hd5r
        obtain ⟨wo, rfl⟩ : ∃ wo : World, wo = wr := ⟨_, rfl⟩
        go_wp2
        go_quiet (fail)
        go_wp2
        have Hd0 := Lib.hid ((Drew.refl wo).add nq)
        generalize wo.drewN nq = wq at *
        clear htc5 hpc5 hc hcz
        go_loopw [13] (fun s13 wi => ∃ q : Nat, q ≤ n ∧ s13 = .int .i64 q ∧ Drew wo wi) (fun i _ => n - (intOf i).toNat)
        case atStart => exact ⟨0, Nat.zero_le _, rfl, Hd0.out⟩
        case round =>
          obtain ⟨q, hq, rfl, hdi⟩ := hrel
          by_cases hltq : q < n
          · have htc5 := below_cell hdi.below Htc5.out
            have hpc5 := below_cell hdi.below Hpc5.out
            have hc := below_cell hdi.below Hc.out
            have hqc5 := below_cell (Hd5r.out.trans hdi).below (Hqcell.out q hltq)
            obtain ⟨z2, Hz2, hcz2⟩ := ints_at Hrx.out hdi.below (show q < x.length by omega)
            have hqb := HQb.out q hltq
            have hfe := Hfe.out k q hlt hltq
            have bz2 := (Hrow.out k hlt).2 q (by rw [Hn.out]; omega)
            rw [Hx.out, Hz2.out] at bz2 hfe
            rw [Hpe.out] at hfe
            have hti3 : tn = q → pk + Q.getD q 0 = z2 := fun e => by
              subst e
              have h1 := Hti2.out
              have h2 := Hz.out
              have h3 := Hz2.out
              rw [h2] at h3
              rw [← h3]; exact h1
            generalize Q.getD q 0 = qk at *
            have hgt : ¬ z2 < pk + qk := by omega
            have hgd : decide (z2 < pk + qk) = false := decide_eq_false hgt
            have hqx : (q : Int) < (x.length : Int) := by omega
            have hqx2 : q < x.length := by omega
            have Hdi := Lib.hid hdi
            clear hdi
            by_cases e : tn = q
            · have h4 := hti3 e
              have h5 : ((pk + qk) != z2) = false := by rw [h4]; simp
              have h6 : ((pk + qk) == z2) = true := by rw [h4]; simp
              have h7 : ((tn : Int) == (q : Int)) = true := by rw [e]; simp
              have He := Lib.hid e
              clear h4 hti3 e
              go_wp2
              go_quiet (fail)
              go_wp2
              go_roundw
              case rel => exact ⟨q + 1, by omega, by go_num, Hdi.out.add _⟩
              case measure => simp [intOf]; omega
            · have h7 : ((tn : Int) == (q : Int)) = false := by simp; omega
              have He := Lib.hid e
              clear hti3 e
              go_wp2
              go_quiet (fail)
              go_wp2
              go_roundw
              case rel => exact ⟨q + 1, by omega, by go_num, Hdi.out.add _⟩
              case measure => simp [intOf]; omega
          · have Hdi := Lib.hid hdi
            clear hdi
            go_wp2
            go_roundw
            case rel => exact ⟨k + 1, by omega, by go_num, by rw [Hss.out], Hdk.out.trans Hdi.out, by rw [Hss.out]; omega, by rw [Hss.out]; omega⟩
            case measure => simp [intOf]; omega
      · obtain rfl : n = k := by omega
        have htot := Htot.out
        have he : sumTo m (fun i => (T.getD i 0).toNat) n = total := by rw [htot]; rfl
        have h8 : ((sumTo m (fun i => (T.getD i 0).toNat) n) == total) = true := by rw [he]; simp
        have Hdk := Lib.hid hdk
        clear hdk htot he
        generalize sumTo m (fun i => (T.getD i 0).toNat) n = sn at *
        go_wp2
        go_ret
        exact ⟨rfl, Hb6.out.trans Hdk.out.below⟩

end Go.Proofs.Ytfccfmjamdpeaaa
