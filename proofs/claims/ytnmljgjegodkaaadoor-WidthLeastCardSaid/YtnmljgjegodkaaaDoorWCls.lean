/- arborref.Width's function value: the walk. -/
import Derived.Test.YtnmljgjegodkaaaDoorPK
import Derived.Test.YtnmljgjegodkaaaDoorPI
import Derived.Test.YtnmljgjegodkaaaDoorWLst
import Derived.Test.YtnmljgjegodkaaaDoorOf
import Derived.Test.YtnmljgjegodkaaaDoorGridOf
import Derived.BigQuiet
import Derived.BigRegion
import Derived.StillTailTactics
namespace Go.Proofs.YtnmljgjegodkaaaDoor
open Go Go.RowKit

theorem ints_getDW {L : List Nat} {k : Nat} (h : k < L.length) : (ints L).getD k 0 = ((L.getD k 0 : Nat) : Int) := by simp [ints, List.getD, h]
/-- The table under way. -/
structure ClsT (w1 wr : World) (N : Nat) (gb go : Nat) (R : Nat → Nat) (H : Nat → Nat → Bool) : Prop where
  hb : Below w1.heap.size w1 wr
  g : Grid wr w1.heap.size gb go N R H
theorem ClsT.below {w1 wr w' : World} {N gb go : Nat} {R : Nat → Nat} {H : Nat → Nat → Bool} (h : ClsT w1 wr N gb go R H) (hb : Below wr.heap.size wr w') : ClsT w1 w' N gb go R H :=
  ⟨h.hb.trans (hb.mono h.hb.size), h.g.below hb⟩
theorem ClsT.set {w1 wr : World} {N gb go : Nat} {R : Nat → Nat} {H : Nat → Nat → Bool} (h : ClsT w1 wr N gb go R H) {x : Nat} (hx : x < N) (y : Nat) : ClsT w1 (wr.setCell ⟨R x, y, none⟩ (.bool true)) N gb go R (fun i j => if i = x ∧ j = y then true else H i j) :=
  ⟨h.hb.setCell (p := ⟨R x, y, none⟩) (h.g.new x hx) _, h.g.set hx y true⟩

set_option maxHeartbeats 2000000 in
set_option maxRecDepth 100000 in
theorem cls_any {N : Nat} {G : Nat → Nat → Bool} {L : List Nat} {w0 : World} {gv : Value} {A b : Nat} (hN : N ≤ 100) (hG : Gr N G) (hg : HasGrid w0 gv N G) (hO : Ord N L) (s : Value) (w : World) (x : Int) (hk : KW w0 gv A b x w) (hs : IsInts w s (ints L)) (hsb : ∀ g, s.ownBlock = some g → g < w.heap.size ∧ g ≠ b) :
    Calls Tryd.prog 38 #[s, .pointer (some ⟨A, 0, none⟩), .pointer (some ⟨b, 0, none⟩)] w fun e w' => e = .returned (.tuple #[]) ∧ ∃ m, WdI N G L N m ∧ KW w0 gv A b (min x m) w' ∧ w.grownBy w' (some b) := by
  obtain ⟨aS, cS, rfl⟩ : ∃ aS cS, s = .slice aS N cS := by
    obtain ⟨a, c, _, _, h, _⟩ := hs
    exact ⟨a, c, by rw [h, ints_length, hO.len]⟩
  obtain ⟨ga, gc, rfl⟩ : ∃ ga gc, gv = .slice ga N gc := by
    obtain ⟨B, a, c, b, o, R, h, -⟩ := hg
    exact ⟨a, c, h⟩
  have Hk := Lib.hid hk; have Hs := Lib.hid hs; have HO := Lib.hid hO; have HG := Lib.hid hG
  have HOf := Lib.hid (of_any N G _ w hN (hg.below hk.hb))
  have ca := hk.ca
  clear hk hs hsb hG hg hO
  go_enter Tryd.func38, Tryd.ntmps38
  go_upto_region 1 with (first
    | (go_at_call 39; refine HOf.out.mono ?_; rintro e w1 ⟨v1, ho1, hb1, rfl⟩; have Hb1 := Lib.hid hb1; have Ho1 := Lib.hid ho1; clear ho1 hb1)
    | (go_at_call 15; refine (gridOf_any (prsTo N G N) N v1 w1 Ho1.out.edges hN prs_endsW).mono ?_; rintro e w2 ⟨v2, rfl, hg2, hb2⟩; have Hg2 := Lib.hid hg2; have Hb2 := Lib.hid hb2; clear hg2 hb2))
  obtain ⟨ta, tc, tb, tf, R, rfl, -, hta, hgr⟩ := Hg2.out
  have Hta := Lib.hid hta
  have T2 := Lib.hid (show ClsT w1 w2 N tb tf R (adj (prsTo N G N)) from ⟨Hb2.out, hgr⟩)
  have HF0 := Lib.hid (show FillT N G L 0 (adj (prsTo N G N)) from fun a c ha hc hne _ _ => by rw [adj_prsG HG.out ha hc hne, fill_zero hc])
  clear hta hgr ca
  have hdg : ∀ j, j < N → degB N G (goneL L j) (L.getD j 0) ≤ 100 := fun j hj => by have := degB_lt (G := G) (S := goneL L j) (HO.out.at hj).1; omega
  have Hdg := Lib.hid hdg
  have Hb12 := Lib.hid Hb1.out
  have HB2 := Lib.hid (Hb1.out.trans (Hb2.out.mono Hb1.out.size))
  have hz12 := Hb2.out.size
  generalize adj (prsTo N G N) = H0 at *
  clear hdg HOf Hg2 Ho1 Hb1 Hb2
  go_upto_region 3 with fail
  go_loopg [5, 6] N (fun g s5 s6 wr => ∃ (i : Nat) (m : Int) (H : Nat → Nat → Bool), i ≤ N ∧ g = N - i ∧ s6 = .int .i64 (i : Int) ∧ s5 = .int .i64 m ∧ WdI N G L i m ∧ ClsT w1 wr N tb tf R H ∧ FillT N G L i H)
  case atStart => exact ⟨0, -1, H0, Nat.zero_le _, rfl, rfl, rfl, .inl ⟨rfl, rfl⟩, T2.out, HF0.out⟩
  case round =>
    clear T2 HF0
    obtain ⟨i, m, H, hi, rfl, rfl, rfl, hwd, ht, hf⟩ := hrel
    have Hwd := Lib.hid hwd; have Ht := Lib.hid ht; have Hf := Lib.hid hf
    obtain ⟨hm0, hm1⟩ : -1 ≤ m ∧ m ≤ 100 := by
      rcases hwd with ⟨-, rfl⟩ | ⟨d, rfl, h1, j, h2, h3⟩
      · omega
      · have := Hdg.out j (by omega); omega
    by_cases hlt : i < N
    · obtain ⟨w3, rfl⟩ : ∃ w3 : World, w3 = wr := ⟨_, rfl⟩
      clear hwd ht hf
      obtain ⟨hta, -⟩ := Hta.out (by omega)
      subst hta
      have hw1 : IntKind.i64.wrap ((i : Int) + 1) = (i : Int) + 1 := by simp [IntKind.wrap, IntKind.bits, IntKind.signed]; omega
      go_upto_region 7 with fail
      go_loopg [7, 8] (N - (i + 1)) (fun g s7 s8 wr => ∃ j : Nat, i + 1 ≤ j ∧ j ≤ N ∧ g = N - j ∧ s8 = .int .i64 (j : Int) ∧ wr.ownsRow w3.heap.size 3 1 s7 (nearL L H i j).length (nvals (nearL L H i j)) ∧ Below w3.heap.size w3 wr)
      case atStart => exact ⟨i + 1, Nat.le_refl _, by omega, rfl, by go_num, by rw [near_start (Nat.le_refl _)]; exact World.ownsRow_nil _ _ _ _, Below.refl _ _⟩
      case round =>
        obtain ⟨j, hj1, hj, rfl, rfl, ho, hb⟩ := hrel
        have Ho := Lib.hid ho; have Hb := Lib.hid hb
        obtain ⟨aN, cN, rfl⟩ := ownsRow_form ho
        have hnl : (nearL L H i j).length ≤ N := nodup_lt N _ (near_nodup HO.out hlt hj) fun u hu => by
          obtain ⟨k, -, h2, rfl, -⟩ := near_mem.1 hu
          exact (HO.out.at (by omega)).1
        have T4 := Lib.hid (Ht.out.below hb)
        have hsz := hb.size
        have HsW := Lib.hid (show IsInts wr (.slice aS N cS) (ints L) from Hs.out.below ((Hb12.out.trans (T4.out.hb.mono Hb12.out.size))))
        by_cases hlj : j < N
        · obtain ⟨bs, os, rfl, ci⟩ := HsW.out.atF (k := i) (by rw [ints_length, HO.out.len]; exact hlt)
          obtain ⟨bs', os', e', cj⟩ := HsW.out.atF (k := j) (by rw [ints_length, HO.out.len]; exact hlj)
          simp only [Option.some.injEq, Addr.mk.injEq] at e'
          obtain ⟨rfl, rfl, -⟩ := e'
          rw [ints_getDW (by rw [HO.out.len]; exact hlt)] at ci
          rw [ints_getDW (by rw [HO.out.len]; exact hlj)] at cj
          have Hnx := Lib.hid (show nearL L H i (j + 1) = nearL L H i j ++ if i < j ∧ H (L.getD i 0) (L.getD j 0) = true then [L.getD j 0] else [] from rfl)
          have hX := (HO.out.at hlt).1
          have hY := (HO.out.at hlj).1
          have ch := T4.out.g.head _ hX
          have cg := T4.out.g.cell hX hY
          have hij : i < j := by omega
          have hw2 : IntKind.i64.wrap ((j : Int) + 1) = ((j + 1 : Nat) : Int) := wrap_nat (n := j + 1) (by omega)
          generalize hnA : nearL L H i j = nA at *
          have HbD := Lib.hid (fun n => Below.drewN' Hb.out n)
          have HoD := Lib.hid (fun n => ownsRow_below Ho.out (Below.drewN' (Below.refl wr.heap.size wr) n) (Nat.le_refl _))
          have Cj := Lib.hid cj
          generalize L.getD i 0 = X at *
          generalize L.getD j 0 = Y at *
          clear hnA ho hb
          cases hh : H X Y with
          | false =>
            rw [hh] at Hnx cg
            clear hh
            go_upto_region 9 with fail
            go_quiet (fail)
            go_wp2
            go_roundg (N - (j + 1))
            case measure => go_light; omega
            case rel => exact ⟨j + 1, by omega, by omega, rfl, by go_num, by rw [Hnx.out, if_neg (fun h => by cases h.2), List.append_nil]; exact HoD.out _, HbD.out _⟩
          | true =>
            rw [hh] at Hnx cg
            clear hh
            go_upto_region 9 with fail
            go_quiet (fail)
            have hq := Below.drewN' (Below.refl wr.heap.size wr) nq
            have Ho6 := Lib.hid (HoD.out nq)
            have Hb6 := Lib.hid (HbD.out nq)
            have cj := below_cell hq Cj.out
            have hz6 := Hb6.out.size
            clear hq ci ch cg
            generalize wr.drewN nq = w6 at *
            generalize hnl2 : nA.length = nl at *
            have Hnl := Lib.hid hnl2
            clear hnl2
            go_wp2_with (at_builtin; refine wpList_append_has rfl (.tmp 41) (.tmp 46) 30 rfl w3.heap.size 3 (.int .i64 0) 8 Tryd.underlying30 info3 rfl (.slice aN nl cN) nl (nvals nA) rfl (Ho6.out.alloc _) _ 1 (nvals [Y]) rfl (HasCells.one _ _ _ rfl) (by omega) (by omega) (by simp; omega) ?_; intro a9 c9 w9 ho9 hg9; have Ho9 := Lib.hid ho9; have hb9 := (Hb6.out.alloc Hb6.out.size (Obj.cells #[.int .i64 (Y : Int)] 3)).grown hg9 (by simp; omega) (fun g e => (Ho6.out.lt g e).1); have Hb9 := Lib.hid hb9; clear ho9 hg9 hb9)
            go_roundg (N - (j + 1))
            case measure => go_light; omega
            case rel => exact ⟨j + 1, by omega, by omega, rfl, by go_num, by rw [Hnx.out, if_pos ⟨hij, by first | rfl | trivial⟩, List.length_append, Hnl.out, show nvals (nA ++ [Y]) = nvals nA ++ nvals [Y] by simp [nvals, ints]]; exact Ho9.out, Hb9.out⟩
        · obtain rfl : j = N := by omega
          have hAN : nearL L H i j = nearL L H i j := rfl
          obtain ⟨nA, hnA⟩ : ∃ nA, nearL L H i j = nA := ⟨_, rfl⟩
          have HnA := Lib.hid hnA
          have Hlen := Lib.hid (near_len HO.out hlt Hf.out)
          have HAlt := Lib.hid (show ∀ u ∈ nA, u < j from fun u hu => by
            rw [← hnA] at hu
            exact ((near_rest HO.out hlt Hf.out).1 hu).1)
          have Hnd := Lib.hid (show nA.Nodup from by rw [← hnA]; exact near_nodup HO.out hlt (Nat.le_refl _))
          rw [hnA] at Ho Hlen hnl
          rw [hnA]
          obtain ⟨m1, hm1'⟩ : ∃ m1 : Int, max m ((nA.length : Nat) : Int) = m1 := ⟨_, rfl⟩
          have Hwd1 := Lib.hid (show WdI j G L (i + 1) m1 from hm1' ▸ Hwd.out.step Hlen.out.symm)
          have Hm1 := Lib.hid hm1'
          have hRlo : ∀ q, q < j → R q < w3.heap.size := fun q hq => (Ht.out.g.row q hq).lt
          have HRlo := Lib.hid hRlo
          generalize hnl2 : nA.length = nl at *
          have Hnl := Lib.hid hnl2
          clear ho hb hnA hAN hm1' hnl2 hRlo
          go_upto_if 51 with fail
          go_cut [5] from 52 to 53 (fun s5 wx => s5 = .int .i64 m1 ∧ wr = wx)
          case first =>
            by_cases hml : m < (nl : Int)
            · have e := Lib.hid (show m1 = (nl : Int) by have := Hm1.out; omega)
              go_wp2
              go_meet
              exact ⟨by rw [e.out], rfl⟩
            · have e := Lib.hid (show m1 = m by have := Hm1.out; omega)
              go_wp2
              go_meet
              exact ⟨by rw [e.out], rfl⟩
          case rest =>
          obtain ⟨rfl, rfl⟩ := hcut
          obtain ⟨w5, rfl⟩ : ∃ w5 : World, w5 = wr := ⟨_, rfl⟩
          go_upto_region 14 with fail
          go_loopg [9] nl (fun g s9 wr => ∃ (a : Nat) (H' : Nat → Nat → Bool), a ≤ nl ∧ g = nl - a ∧ s9 = .int .i64 (a : Int) ∧ ClqI nA H H' a 0 ∧ ClsT w1 wr j tb tf R H' ∧ wr.ownsRow w3.heap.size 3 1 (.slice aN nl cN) nl (nvals nA))
          case atStart => exact ⟨0, H, Nat.zero_le _, rfl, rfl, ClqI.start, T4.out, Ho.out⟩
          case round =>
            obtain ⟨a, H1, ha, rfl, rfl, hc1, ht1, ho1⟩ := hrel
            have Hc1 := Lib.hid hc1; have Ht1 := Lib.hid ht1; have Ho1 := Lib.hid ho1
            clear hc1 ht1 ho1
            by_cases hal : a < nl
            · go_upto_region 17 with fail
              go_loopg [10] a (fun g s10 wr => ∃ (c : Nat) (H2 : Nat → Nat → Bool), c ≤ a ∧ g = a - c ∧ s10 = .int .i64 (c : Int) ∧ ClqI nA H H2 a c ∧ ClsT w1 wr j tb tf R H2 ∧ wr.ownsRow w3.heap.size 3 1 (.slice aN nl cN) nl (nvals nA))
              case atStart => exact ⟨0, H1, Nat.zero_le _, rfl, rfl, Hc1.out, Ht1.out, Ho1.out⟩
              case round =>
                clear Hc1 Ht1 Ho1
                obtain ⟨c, H2, hcl, rfl, rfl, hc2, ht2, ho2⟩ := hrel
                have Hc2 := Lib.hid hc2; have Ht2 := Lib.hid ht2; have Ho2 := Lib.hid ho2
                by_cases hca : c < a
                · obtain ⟨bn, on, rfl, cA⟩ := (IsInts.owned (l := ints nA) ho2).atF (k := a) (by rw [ints_length, Hnl.out]; exact hal)
                  obtain ⟨bn', on', e', cC⟩ := (IsInts.owned (l := ints nA) ho2).atF (k := c) (by rw [ints_length, Hnl.out]; omega)
                  simp only [Option.some.injEq, Addr.mk.injEq] at e'
                  obtain ⟨rfl, rfl, -⟩ := e'
                  rw [ints_getDW (by rw [Hnl.out]; exact hal)] at cA
                  rw [ints_getDW (by rw [Hnl.out]; omega)] at cC
                  have hXm : nA.getD a 0 ∈ nA := by rw [List.getD, List.getElem?_eq_getElem (show a < nA.length by rw [Hnl.out]; exact hal)]; exact List.getElem_mem _
                  have hYm : nA.getD c 0 ∈ nA := by rw [List.getD, List.getElem?_eq_getElem (show c < nA.length by rw [Hnl.out]; omega)]; exact List.getElem_mem _
                  have hX := HAlt.out _ hXm
                  have hY := HAlt.out _ hYm
                  have Hst := Lib.hid (fun (H3 : Nat → Nat → Bool) h3 => hc2.step (H2 := H3) (show a < nA.length by rw [Hnl.out]; exact hal) hca h3)
                  have hXY : nA.getD a 0 ≠ nA.getD c 0 := fun e => by
                    have h1 : c < nA.length := by rw [Hnl.out]; omega
                    have h2 : a < nA.length := by rw [Hnl.out]; exact hal
                    rw [List.getD, List.getD, List.getElem?_eq_getElem h1, List.getElem?_eq_getElem h2] at e
                    exact (List.pairwise_iff_getElem.1 Hnd.out) c a h1 h2 hca e.symm
                  have hcnl : c < nl := by omega
                  generalize nA.getD a 0 = X at *
                  generalize nA.getD c 0 = Y at *
                  have hRR : R X ≠ R Y := fun e => hXY (ht2.g.inj _ _ hX hY e)
                  have hh1 := ht2.g.head _ hX
                  have hh2 := ht2.g.head _ hY
                  have q1 := ht2.g.cell hX hY
                  have q2 := ht2.g.cell hY hX
                  have z1 := (ht2.g.row X hX).frozen Y
                  have z2 := (ht2.g.row Y hY).frozen X
                  have l1 := (ht2.g.row X hX).lt
                  have l2 := (ht2.g.row Y hY).lt
                  have T3 := Lib.hid ((ht2.set hX Y).set hY X)
                  have T3' := Lib.hid ((ht2.set hY X).set hX Y)
                  have p1 : (wr.setCell ⟨R X, Y, none⟩ (.bool true)).drew.cell? ⟨R Y, X, none⟩ = some (.bool (H2 Y X)) := by
                    show (wr.setCell ⟨R X, Y, none⟩ (.bool true)).cell? _ = _
                    rw [World.cell?_setCell_far _ _ _ _ hRR]; exact q2
                  have p2 : (wr.setCell ⟨R Y, X, none⟩ (.bool true)).drew.cell? ⟨R X, Y, none⟩ = some (.bool (H2 X Y)) := by
                    show (wr.setCell ⟨R Y, X, none⟩ (.bool true)).cell? _ = _
                    rw [World.cell?_setCell_far _ _ _ _ hRR.symm]; exact q1
                  have p3 : (wr.setCell ⟨R X, Y, none⟩ (.bool true)).drew.frozen? ⟨R Y, X, none⟩ = false := ((ht2.set hX Y).g.row Y hY).frozen X
                  have p4 : (wr.setCell ⟨R Y, X, none⟩ (.bool true)).drew.frozen? ⟨R X, Y, none⟩ = false := ((ht2.set hY X).g.row X hX).frozen Y
                  have g1 := HRlo.out X hX
                  have g2 := HRlo.out Y hY
                  have O3 := Lib.hid ((ho2.kept (grown_set wr (R X) Y (.bool true)) (own_side ho2 g1)).kept (grown_set _ (R Y) X (.bool true)) (own_side (ho2.kept (grown_set wr (R X) Y (.bool true)) (own_side ho2 g1)) g2))
                  have O3' := Lib.hid ((ho2.kept (grown_set wr (R Y) X (.bool true)) (own_side ho2 g2)).kept (grown_set _ (R X) Y (.bool true)) (own_side (ho2.kept (grown_set wr (R Y) X (.bool true)) (own_side ho2 g2)) g1))
                  have hwc : IntKind.i64.wrap ((c : Int) + 1) = ((c + 1 : Nat) : Int) := wrap_nat (n := c + 1) (by omega)
                  clear hc2 ht2 ho2 hXm hYm
                  go_upto_region 19 with fail
                  go_region
                  all_goals
                    go_wp2
                    go_roundg (a - (c + 1))
                    case measure => go_light; omega
                    case rel => first
                      | exact ⟨c + 1, _, by omega, rfl, rfl, Hst.out _ (fun x y => by
                          by_cases e1 : x = Y ∧ y = X
                          · simp [e1]
                          · by_cases e2 : x = X ∧ y = Y
                            · simp [e2]
                            · simp [e1, e2]), T3.out.below (Below.refl _ _).drew, O3.out⟩
                      | exact ⟨c + 1, _, by omega, rfl, rfl, Hst.out _ (fun x y => by
                          by_cases e1 : x = Y ∧ y = X
                          · simp [e1]
                          · by_cases e2 : x = X ∧ y = Y
                            · simp [e2]
                            · simp [e1, e2]), T3'.out.below (Below.refl _ _).drew, O3'.out⟩
                · obtain rfl : c = a := by omega
                  have Hcr := Lib.hid hc2.row
                  clear hc2 ht2 ho2
                  go_wp2
                  go_roundg (nl - (c + 1))
                  case measure => go_light; omega
                  case rel => exact ⟨c + 1, H2, by omega, rfl, by go_num, Hcr.out, Ht2.out, Ho2.out⟩
            · obtain rfl : a = nl := by omega
              have Hfn := Lib.hid (Hf.out.next HG.out HO.out hlt (by rw [HnA.out, Hnl.out]; exact Hc1.out))
              go_wp2
              go_roundg (j - (i + 1))
              case measure => go_light; omega
              case rel => exact ⟨i + 1, m1, H1, by omega, rfl, by go_num, rfl, Hwd1.out, Ht1.out, Hfn.out⟩
    · obtain rfl : i = N := by omega
      have hbw := Hb12.out.trans (Ht.out.hb.mono Hb12.out.size)
      have Hbw := Lib.hid hbw
      have K1 := Lib.hid (Hk.out.below hbw)
      have cb := K1.out.r.cell (show 0 < 1 by omega)
      have fb := K1.out.r.frozen 0
      have lb := K1.out.r.lt
      simp only [ri] at cb
      clear hbw hwd ht hf
      by_cases hmx : m < x
      · have hmin : min x m = m := by omega
        have K2 := Lib.hid (K1.out.put m)
        have Gw := Lib.hid (((grown_of_below Hbw.out).but (some b)).trans (grown_set wr b 0 (.int .i64 m)))
        go_wp2
        go_end0
        exact ⟨rfl, m, Hwd.out, by rw [hmin]; exact K2.out, Gw.out⟩
      · have hmin : min x m = x := by omega
        go_wp2
        go_end0
        exact ⟨rfl, m, Hwd.out, by rw [hmin]; exact K1.out, (grown_of_below Hbw.out).but (some b)⟩
end Go.Proofs.YtnmljgjegodkaaaDoor
