/- colour.Number: the walk. -/
import Derived.Test.YtfflnpcbpcldeaaDoorNumP
import Derived.Test.YtfflnpcbpcldeaaDoorLoose
import Derived.Test.YtfflnpcbpcldeaaDoorSmallC
import Derived.BigRegion
import Derived.BigQuiet
import Derived.Deep.CutBlock
import Derived.Deep.RegionHeld3
namespace Go.Proofs.YtfflnpcbpcldeaaDoor
open Go Go.RowKit

theorem NOk.le {l : List (Int × Int)} {N : Nat} {need last : Nat → Nat} {s : Nat} (h : NOk l N need last s) (hl : ∀ j, j < l.length → (l.getD j (0, 0)).1 ≠ (l.getD j (0, 0)).2) (hs : s < 2 ^ N) : need s ≤ N := by
  rcases Nat.lt_or_ge N (need s) with e | e
  · exact absurd (Col.all hl hs) (h.no N e)
  · exact e
theorem two_made (W : World) (M : Nat) : ((W.alloc (.cells (madeCells #[.int .i64 0] M) 3)).alloc (.cells (madeCells #[.int .i64 0] M) 3)).rowIs W.heap.size 3 M (rn fun _ => 0) ∧
    ((W.alloc (.cells (madeCells #[.int .i64 0] M) 3)).alloc (.cells (madeCells #[.int .i64 0] M) 3)).rowIs (W.heap.size + 1) 3 M (rn fun _ => 0) ∧
    Below W.heap.size W ((W.alloc (.cells (madeCells #[.int .i64 0] M) 3)).alloc (.cells (madeCells #[.int .i64 0] M) 3)) := by
  have h1 := World.rowIs_made W (.int .i64 0) M 3
  have h2 := World.rowIs_made (W.alloc (.cells (madeCells #[.int .i64 0] M) 3)) (.int .i64 0) M 3
  rw [World.size_alloc] at h2
  have hb := below1 (W.alloc (.cells (madeCells #[.int .i64 0] M) 3)) (.cells (madeCells #[.int .i64 0] M) 3)
  exact ⟨(h1.of_block (hb.block _ h1.lt)).congr fun i _ => rfl, h2.congr fun i _ => rfl, below2 _ _ _⟩

/-- colour.Number comes back. -/
def NumPost (n : Int) (l : List (Int × Int)) (w : World) (e : Ending) (w' : World) : Prop :=
  ∃ c a k v, e = .returned (.tuple #[.int .i64 k, v, .agg #[.int .i64 c, .int .i64 a]]) ∧ SmallSpec n l 12 c a ∧ Below w.heap.size w w' ∧
    ((c ≠ 0 ∧ k = 0 ∧ v = .slice none 0 0) ∨ (c = 0 ∧ a = 0 ∧ ∃ (N K : Nat) (f : Nat → Nat), n = N ∧ k = K ∧ NumOk l N K f ∧ IsInts w' v ((List.range N).map fun i => (f i : Int))))
set_option maxHeartbeats 6400000 in
set_option maxRecDepth 100000 in
theorem number_any (n : Int) (l : List (Int × Int)) (sv : Value) (w : World) (h : IsEdges w sv l) (hT : TabAt 1 Lib.deBruijn64tab w) :
    Calls Tryd.prog 15 #[.agg #[.int .i64 n, sv]] w (NumPost n l w) := by
  obtain ⟨ad, cap, rfl⟩ : ∃ ad cap, sv = .slice ad l.length cap := by
    obtain ⟨a, c, _, _, rfl, _⟩ := h
    exact ⟨a, c, rfl⟩
  have hg := GRes.start w n (.slice ad l.length cap)
  have He := Lib.hid h; have Hg := Lib.hid hg; have HT := Lib.hid hT
  have cn := hg.cn
  have cs := hg.cs
  clear h hg hT
  go_enter Tryd.func15, Tryd.ntmps15
  go_upto_region 1 with fail
  generalize (w.alloc (Obj.cells #[.int .i64 n, .slice ad l.length cap] 24)).alloc (Obj.cells #[Value.int IntKind.i64 0, Value.int IntKind.i64 0] 27) = w1 at *
  go_upto_region 2 with (go_at_call 23; refine (small_c n l _ w1 (He.out.below Hg.out.hb)).mono ?_; rintro e w2 ⟨c, a, hsp, rfl, hb2⟩; have Hsp := Lib.hid hsp; have H3 := Lib.hid (Hg.out.below (upc hb2 (below1 w2 (Obj.cells #[.int .i64 c, .int .i64 a] 27)))); have F3 := Lib.hid (FV.new w2 c a); clear hsp hb2)
  generalize w2.alloc (Obj.cells #[.int .i64 c, .int .i64 a] 27) = w3 at *
  generalize w2.heap.size = F at *
  clear cn cs Hg
  have cn := H3.out.cn
  have cs := H3.out.cs
  have hAB := H3.out.hA
  obtain ⟨f0, f1, -, -, -⟩ := F3.out.facts
  by_cases hc : c = 0
  · subst hc
    obtain ⟨rfl, hn0, hn1, hl, hok⟩ := small_good Hsp.out
    obtain ⟨N, rfl⟩ := Int.eq_ofNat_of_zero_le hn0
    have hN : N ≤ 12 := by omega
    have Hok := Lib.hid hok
    clear hok hn0 hn1
    go_upto_region 4 with fail
    clear f0 f1 F3
    go_upto_region 5 with (go_at_call 24; refine (loose_any l N _ w3 (He.out.below H3.out.hb) hN Hok.out (TabAt.below (g := 1) HT.out H3.out.hb)).mono ?_; rintro e w4 ⟨bf, rfl, hbf, hrf, hb4⟩; have Hrf := Lib.hid hrf; have H4 := Lib.hid (H3.out.below hb4); clear hrf hb4 hbf)
    clear cn cs
    have hP : pow2 N ≤ 4096 := by unfold pow2; exact Nat.pow_le_pow_right (by decide) hN
    have hP0 : 0 < pow2 N := Nat.two_pow_pos N
    have HPe := Lib.hid (show pow2 N = 2 ^ N from rfl)
    generalize pow2 N = M at *
    have hmk := run_make_row' (P := Tryd.prog) 29 3 (.int .i64 0) 8 Tryd.underlying29 info3 rfl .i64 .i64 M (by omega) (by omega)
    go_cut [7, 8] from 21 to 26 (fun s7 s8 wx => ∃ bn bl, s7 = .slice (some ⟨bn, 0, none⟩) M M ∧ s8 = .slice (some ⟨bl, 0, none⟩) M M ∧ bn ≠ bl ∧ w4.heap.size ≤ bn ∧ w4.heap.size ≤ bl ∧ wx.rowIs bn 3 M (rn fun _ => 0) ∧ wx.rowIs bl 3 M (rn fun _ => 0) ∧ Below w4.heap.size w4 wx)
    case first =>
      go_region
      all_goals
        obtain ⟨r1, r2, r3⟩ := two_made w4 M
        go_wp2_with fail
        go_meet
        first
          | exact ⟨w4.heap.size, w4.heap.size + 1, rfl, rfl, by omega, Nat.le_refl _, by omega, r1, r2, r3.drew⟩
          | exact ⟨w4.heap.size + 1, w4.heap.size, rfl, rfl, by omega, by omega, Nat.le_refl _, r2, r1, r3.drew⟩
    case rest =>
    obtain ⟨bn, bl, rfl, rfl, hnl, hbn, hbl, hrn, hrl, hb5⟩ := hcut
    obtain ⟨w5, rfl⟩ : ∃ w5 : World, w5 = wc := ⟨_, rfl⟩
    have hbf4 := Hrf.out.lt
    have Hrn := Lib.hid hrn; have Hrl := Lib.hid hrl; have Hb5 := Lib.hid hb5
    have Hl := Lib.hid (fun j hj => (Hok.out j hj).2)
    have hnl2 := Ne.symm hnl
    clear hmk hrn hrl hb5
    go_wp2
    go_loopg [9] (M - 1) (fun g s9 wr => ∃ (s : Nat) (need last : Nat → Nat), 1 ≤ s ∧ s ≤ M ∧ g = M - s ∧ s9 = .int .i64 (s : Int) ∧ wr.rowIs bn 3 M (rn need) ∧ wr.rowIs bl 3 M (rn last) ∧ (∀ q, q < s → NOk l N need last q) ∧ Below w4.heap.size w4 wr)
    case atStart => exact ⟨1, fun _ => 0, fun _ => 0, Nat.le_refl _, hP0, rfl, rfl, Hrn.out, Hrl.out, fun q hq => by
      obtain rfl : q = 0 := by omega
      exact NOk.start l N, Hb5.out⟩
    case round =>
      obtain ⟨s, need, last, hs1, hsM, rfl, rfl, hrn, hrl, hall, hb⟩ := hrel
      have Hrn1 := Lib.hid hrn; have Hrl1 := Lib.hid hrl; have Hb1 := Lib.hid hb; have Hall := Lib.hid hall
      by_cases hlt : s < M
      · have hsN : s < 2 ^ N := by rw [← HPe.out]; exact hlt
        have HsN := Lib.hid hsN
        have hfewS : Few s := by show s < 4611686018427387904; omega
        have cn := (H4.out.below hb).cn
        have ts := hrn.cell hlt
        have fs := hrn.frozen s
        have ms := hrn.lt
        have hw0 : IntKind.i64.wrap ((N : Int) + 1) = ((N + 1 : Nat) : Int) := wrap_nat (n := N + 1) (by omega)
        simp only [rn] at ts
        clear hrn hrl hb hall hsN
        go_wp2
        clear cn ts fs ms
        go_loopg [10] s (fun g s10 wx => ∃ (t k x : Nat), t = g ∧ s10 = .int .i64 (t : Int) ∧ t ≤ s ∧ NTry l N need s t k x ∧ wx.rowIs bn 3 M (rn fun q => if q = s then k else need q) ∧ wx.rowIs bl 3 M (rn fun q => if q = s then x else last q) ∧ Below w4.heap.size w4 wx)
        case atStart => exact ⟨s, N + 1, last s, rfl, rfl, Nat.le_refl _, NTry.start need s _, row_set_rn Hrn1.out s (N + 1),
          row_rn (Hrl1.out.setOther (a := ⟨bn, s, none⟩) hnl2 _) (fun q _ => by by_cases e : q = s <;> simp [e]), Hb1.out.setCell (p := ⟨bn, s, none⟩) hbn _⟩
        case round =>
          obtain ⟨t, k, x, rfl, rfl, hts, htry, hrn, hrl, hb⟩ := hrel
          have Hrn2 := Lib.hid hrn; have Hrl2 := Lib.hid hrl; have Hb2 := Lib.hid hb; have Htry := Lib.hid htry
          by_cases ht0 : 0 < t
          · have hne : t ≠ 0 := by omega
            have hfewT : Few t := by show t < 4611686018427387904; omega
            have e1 := op_andNot hfewS hfewT
            have hw1 : IntKind.i64.wrap ((t : Int) - 1) = ((t - 1 : Nat) : Int) := by rw [show (t : Int) - 1 = ((t - 1 : Nat) : Int) by omega]; exact wrap_nat (by omega)
            have e2 := op_and (show Few (t - 1) by show t - 1 < 4611686018427387904; omega) hfewS
            have hless := less_lt htry.within hne
            have ht2 : land (t - 1) s < t := by
              have : land (t - 1) s ≤ t - 1 := Nat.and_le_left
              omega
            have tf := (Hrf.out.of_block (hb.block _ hbf4)).cell (show t < M by omega)
            have tn := hrn.cell (show less s t < M by omega)
            have ts := hrn.cell hlt
            have tl := hrl.cell hlt
            have hd := (Hall.out _ hless).le Hl.out (Nat.lt_trans hless HsN.out)
            have hk := htry.le
            have hw2 : IntKind.i64.wrap ((need (less s t) : Int) + 1) = ((need (less s t) + 1 : Nat) : Int) := wrap_nat (n := need (less s t) + 1) (by omega)
            have Hnext := Lib.hid (fun k' x' hc => htry.next hne (k' := k') (x' := x') hc)
            simp only [rb] at tf
            simp only [rn, if_neg (show ¬ less s t = s by omega)] at tn
            simp only [rn, if_true] at ts tl
            have hpM : less s t < M := by omega
            clear hrn hrl hb htry hless
            generalize need (less s t) = d at *
            generalize less s t = p at *
            generalize land (t - 1) s = t2 at *
            generalize hff : freeB l N t = ff at *
            cases ff with
            | false =>
              have Hno := Lib.hid (show ¬ (false = true ∧ d + 1 < k) from fun h => by cases h.1)
              clear hff
              go_upto_region 13 with fail
              go_quiet (fail)
              have hq := Below.drewN' (Below.refl wr.heap.size wr) nq
              have Hrn3 := Lib.hid (Hrn2.out.of_block (hq.block _ Hrn2.out.lt))
              have Hrl3 := Lib.hid (Hrl2.out.of_block (hq.block _ Hrl2.out.lt))
              have Hb3 := Lib.hid (Hb2.out.trans (hq.mono Hb2.out.size))
              clear hq tf tn ts tl
              generalize wr.drewN nq = wB at *
              go_wp2
              go_roundg t2
              case measure => go_light; omega
              case rel => exact ⟨t2, k, x, rfl, rfl, by omega, Hnext.out k x (Or.inr ⟨Hno.out, rfl, rfl⟩), Hrn3.out, Hrl3.out, Hb3.out⟩
            | true =>
              by_cases hdk : d + 1 < k
              · have Hyes := Lib.hid (show true = true ∧ d + 1 < k from ⟨rfl, hdk⟩)
                clear hff
                go_upto_region 13 with fail
                go_quiet (fail)
                have hq := Below.drewN' (Below.refl wr.heap.size wr) nq
                have Hrn3 := Lib.hid (Hrn2.out.of_block (hq.block _ Hrn2.out.lt))
                have Hrl3 := Lib.hid (Hrl2.out.of_block (hq.block _ Hrl2.out.lt))
                have Hb3 := Lib.hid (Hb2.out.trans (hq.mono Hb2.out.size))
                have tn := below_cell hq tn
                have ts := below_cell hq ts
                have tl := below_cell hq tl
                have fn := Hrn3.out.frozen s
                have fl := Hrl3.out.frozen s
                have mn := Hrn3.out.lt
                have ml := Hrl3.out.lt
                clear hq tf
                generalize wr.drewN nq = wB at *
                go_wp2
                go_roundg t2
                case measure => go_light; omega
                case rel => exact ⟨t2, d + 1, t, rfl, rfl, by omega, Hnext.out (d + 1) t (Or.inl ⟨Hyes.out.1, Hyes.out.2, rfl, rfl⟩),
                  row_rn ((row_set_rn Hrn3.out s (d + 1)).setOther (a := ⟨bl, s, none⟩) (show bn ≠ bl from hnl) (.int .i64 (t : Int))) (fun q _ => by by_cases e : q = s <;> simp [e]),
                  row_rn (row_set_rn (Hrl3.out.setOther (a := ⟨bn, s, none⟩) (show bl ≠ bn from fun e => hnl e.symm) (.int .i64 ((d + 1 : Nat) : Int))) s t) (fun q _ => by by_cases e : q = s <;> simp [e]),
                  (Hb3.out.setCell (p := ⟨bn, s, none⟩) hbn _).setCell (p := ⟨bl, s, none⟩) hbl _⟩
              · have Hno := Lib.hid (show ¬ (true = true ∧ d + 1 < k) from fun h => hdk h.2)
                clear hff
                go_upto_region 13 with fail
                go_quiet (fail)
                have hq := Below.drewN' (Below.refl wr.heap.size wr) nq
                have Hrn3 := Lib.hid (Hrn2.out.of_block (hq.block _ Hrn2.out.lt))
                have Hrl3 := Lib.hid (Hrl2.out.of_block (hq.block _ Hrl2.out.lt))
                have Hb3 := Lib.hid (Hb2.out.trans (hq.mono Hb2.out.size))
                clear hq tf tn ts tl
                generalize wr.drewN nq = wB at *
                go_wp2
                go_roundg t2
                case measure => go_light; omega
                case rel => exact ⟨t2, k, x, rfl, rfl, by omega, Hnext.out k x (Or.inr ⟨Hno.out, rfl, rfl⟩), Hrn3.out, Hrl3.out, Hb3.out⟩
          · obtain rfl : t = 0 := by omega
            have hfin : ∀ q, q < s + 1 → NOk l N (fun q => if q = s then k else need q) (fun q => if q = s then x else last q) q := fun q hq => by
              by_cases e : q = s
              · subst e
                exact htry.fin Hl.out (by omega) HsN.out Hall.out (fun r hr => by simp [show ¬ r = q by omega]) (by simp) (by simp)
              · exact (Hall.out q (by omega)).congr (fun r hr => by simp [show ¬ r = s by omega]) (by simp [e])
            have Hfin := Lib.hid hfin
            clear hrn hrl hb htry hfin
            go_wp2
            go_roundg (M - (s + 1))
            case measure => go_light; omega
            case rel => exact ⟨s + 1, _, _, by omega, by omega, rfl, by go_num, Hrn2.out, Hrl2.out, Hfin.out, Hb2.out⟩
      · obtain rfl : M = s := by omega
        have cn := (H4.out.below hb).cn
        have lcn := World.block_lt_of_cell? _ _ cn
        simp only at lcn
        have hmk3 := run_make_row' (P := Tryd.prog) 29 3 (.int .i64 0) 8 Tryd.underlying29 info3 rfl .i64 .i64 N (by omega) (by omega)
        obtain ⟨w6, rfl⟩ : ∃ w6 : World, w6 = wr := ⟨_, rfl⟩
        clear hrn hrl hb hall
        go_upto_region 16 with fail
        clear hmk3 cn lcn
        have HC0 := Lib.hid (World.rowIs_made w6 (.int .i64 0) N 3)
        have HbC := Lib.hid (below1 w6 (.cells (madeCells #[.int .i64 0] N) 3))
        generalize w6.alloc (.cells (madeCells #[.int .i64 0] N) 3) = w7 at *
        have hwM : IntKind.i64.wrap ((M : Int) - 1) = ((M - 1 : Nat) : Int) := by rw [show (M : Int) - 1 = ((M - 1 : Nat) : Int) by omega]; exact wrap_nat (by omega)
        have Hfull := Lib.hid (show ∀ v, v < N → (M - 1).testBit v = true from fun v hv => by rw [HPe.out, Nat.testBit_two_pow_sub_one]; exact decide_eq_true hv)
        go_wp2
        clear hwM
        go_loopg [2, 11] (M - 1) (fun g s2 s11 wr => ∃ (s k : Nat) (c : Nat → Nat), s = g ∧ s < M ∧ s2 = .int .i64 (k : Int) ∧ s11 = .int .i64 (s : Int) ∧ wr.rowIs w6.heap.size 3 N (rn c) ∧ NLay l N need (M - 1) s k c ∧ Below w6.heap.size w6 wr)
        case atStart => exact ⟨M - 1, 0, fun _ => 0, rfl, by omega, rfl, rfl, HC0.out.congr (fun i _ => rfl), NLay.start need Hfull.out _, HbC.out⟩
        case round =>
          obtain ⟨s, k, c, rfl, hsM, rfl, rfl, hrc, hlay, hb⟩ := hrel
          have Hrc := Lib.hid hrc; have Hlay := Lib.hid hlay; have Hb2 := Lib.hid hb
          have hkN : k ≤ N := by
            have h1 := hlay.sum
            have h2 := (Hall.out (M - 1) (by omega)).le Hl.out (by rw [← HPe.out]; omega)
            omega
          by_cases hs0 : 0 < s
          · have hne : s ≠ 0 := by omega
            obtain ⟨x0, xw, xf, xn⟩ := (Hall.out s hsM).class_ hne
            have Hnext := Lib.hid (fun c' hc => hlay.next (c' := c') (Hall.out s hsM) hne hc)
            have hxs := Within.le xw
            have hlx := less_lt xw x0
            have tl := (Hrl1.out.of_block (hb.block _ Hrl1.out.lt)).cell hsM
            simp only [rn] at tl
            have Htl := Lib.hid (fun (wx : World) (hbx : Below w6.heap.size w6 wx) => show wx.cell? ⟨bl, s, none⟩ = some (.int .i64 (last s : Int)) from by
              have := (Hrl1.out.of_block (hbx.block _ Hrl1.out.lt)).cell hsM
              simpa only [rn] using this)
            generalize last s = x at *
            clear hrc hlay hb xw xf xn x0 tl
            go_wp2
            go_loopg [94] N (fun g s94 wx => ∃ v : Nat, v ≤ N ∧ g = N - v ∧ s94 = .int .i64 (v : Int) ∧ wx.rowIs w6.heap.size 3 N (rn fun q => if q < v ∧ x.testBit q = true then k else c q) ∧ Below w6.heap.size w6 wx)
            case atStart => exact ⟨0, Nat.zero_le _, rfl, rfl, row_rn Hrc.out (fun q _ => by simp), Hb2.out⟩
            case round =>
              obtain ⟨v, hv, rfl, rfl, hrc, hb⟩ := hrel
              have Hrc3 := Lib.hid hrc; have Hb3 := Lib.hid hb
              have tl := Htl.out _ hb
              have hfewx : Few x := by show x < 4611686018427387904; omega
              have hfews : Few s := by show s < 4611686018427387904; omega
              by_cases hvN : v < N
              · have tc := hrc.cell hvN
                have fc := hrc.frozen v
                have mc := hrc.lt
                simp only [rn, if_neg (show ¬ (v < v ∧ x.testBit v = true) from fun h => Nat.lt_irrefl _ h.1)] at tc
                have e3 := op_shr x v
                clear hrc hb
                cases hbit : x.testBit v with
                | true =>
                  have e4 : bits .and .i64 (shr x v : Int) 1 = 1 := by rw [op_bit hfewx, bit_one hbit]; rfl
                  have Hbit := Lib.hid hbit
                  clear hbit
                  go_wp2
                  go_roundg (N - (v + 1))
                  case measure => go_light; omega
                  case rel => exact ⟨v + 1, by omega, rfl, by go_num, row_rn (row_set_rn Hrc3.out v k) (fun q _ => by
                    by_cases e : q = v
                    · subst e; rw [if_pos rfl, if_pos ⟨by omega, Hbit.out⟩]
                    · rw [if_neg e]
                      have : (q < v + 1) ↔ q < v := by omega
                      simp only [this]), Hb3.out.setCell (Nat.le_refl _) _⟩
                | false =>
                  have e4 : bits .and .i64 (shr x v : Int) 1 = 0 := by rw [op_bit hfewx, bit_zero hbit]; rfl
                  have Hbit := Lib.hid hbit
                  clear hbit
                  go_wp2
                  go_roundg (N - (v + 1))
                  case measure => go_light; omega
                  case rel => exact ⟨v + 1, by omega, rfl, by go_num, row_rn Hrc3.out (fun q _ => by
                    by_cases e : q = v
                    · subst e
                      rw [if_neg (fun h => Nat.lt_irrefl _ h.1), if_neg (fun h => by rw [Hbit.out] at h; cases h.2)]
                    · have : (q < v + 1) ↔ q < v := by omega
                      simp only [this]), Hb3.out⟩
              · obtain rfl : N = v := by omega
                have e6 := op_andNot hfews hfewx
                have hrc2 := row_rn hrc (g' := fun q => if x.testBit q = true then k else c q) (fun q hq => by simp [hq])
                have Hrc4 := Lib.hid hrc2
                clear hrc hb hrc2
                go_wp2
                go_roundg (less s x)
                case measure => go_light; omega
                case rel => exact ⟨less s x, k + 1, _, rfl, by omega, by go_num, rfl, Hrc4.out, Hnext.out _ (fun v _ => rfl), Hb3.out⟩
          · obtain rfl : s = 0 := by omega
            have hnum := hlay.fin (Hall.out (M - 1) (by omega)) (Hall.out 0 (by omega)) (by rw [← HPe.out]; omega)
            have Hnum := Lib.hid hnum
            have hbz := Hb1.out.trans (hb.mono Hb1.out.size)
            have H9 := Lib.hid (H4.out.below hbz)
            have b0 := H9.out.hz.cell (show 0 < 2 by omega)
            have b1 := H9.out.hz.cell (show 1 < 2 by omega)
            have d0 := H9.out.hz.frozen 0
            have d1 := H9.out.hz.frozen 1
            have hBl := H9.out.hz.lt
            have h48 : w.heap.size + 1 < w6.heap.size := by have := H4.out.hz.lt; have := Hb1.out.size; omega
            clear hrc hlay hb hbz hnum
            obtain ⟨w9, rfl⟩ : ∃ w9 : World, w9 = wr := ⟨_, rfl⟩
            go_upto_region 26 with fail
            go_region
            all_goals
              obtain ⟨e0, e1, e2⟩ := H9.out.put (.int .i64 0) (.int .i64 0)
              have hi := IsInts.ofRow (f := fun i => (c i : Int)) ((Hrc.out.setOther (a := ⟨w.heap.size + 1, 0, none⟩) (show w6.heap.size ≠ w.heap.size + 1 by omega) (.int .i64 0)).setOther (a := ⟨w.heap.size + 1, 1, none⟩) (show w6.heap.size ≠ w.heap.size + 1 by omega) (.int .i64 0)) (show N ≤ 9223372036854775807 by omega)
              have Hi := Lib.hid hi
              clear hi
              go_wp2
              exact bodyPost_ret (v := .tuple #[.int .i64 (k : Int), .slice (some ⟨w6.heap.size, 0, none⟩) N N, .agg #[.int .i64 0, .int .i64 0]]) (by simp [results, Tryd.results15, go_sem, e0, e1]) rfl ⟨0, 0, (k : Int), _, rfl, Hsp.out, e2.drew, Or.inr ⟨rfl, rfl, N, k, c, rfl, rfl, Hnum.out, Hi.out⟩⟩
  · have q : (c != 0) = true := by simp [hc]
    have Hc := Lib.hid hc
    clear hc
    have b0 := H3.out.hz.cell (show 0 < 2 by omega)
    have b1 := H3.out.hz.cell (show 1 < 2 by omega)
    have d0 := H3.out.hz.frozen 0
    have d1 := H3.out.hz.frozen 1
    have hBl := H3.out.hz.lt
    go_wp2
    go_region
    all_goals
      obtain ⟨e0, e1, e2⟩ := H3.out.put (.int .i64 c) (.int .i64 a)
      go_wp2
      exact bodyPost_ret (v := .tuple #[.int .i64 0, .slice none 0 0, .agg #[.int .i64 c, .int .i64 a]]) (by simp [results, Tryd.results15, go_sem, e0, e1]) rfl ⟨c, a, 0, _, rfl, Hsp.out, e2.drew, Or.inl ⟨Hc.out, rfl, rfl⟩⟩

end Go.Proofs.YtfflnpcbpcldeaaDoor
