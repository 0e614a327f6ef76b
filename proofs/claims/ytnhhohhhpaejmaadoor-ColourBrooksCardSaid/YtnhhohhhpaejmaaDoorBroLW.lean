/- arborlaw.ColourBrooks answers true: the walk. -/
import Derived.Test.YtnhhohhhpaejmaaDoorBroW
import Derived.Test.YtnhhohhhpaejmaaDoorPG
import Derived.Test.YtnhhohhhpaejmaaDoorPT
import Derived.Test.YtnhhohhhpaejmaaDoorPP
import Derived.Test.YtnhhohhhpaejmaaDoorPO
import Derived.Test.YtnhhohhhpaejmaaDoorPV
import Derived.Test.YtnhhohhhpaejmaaDoorGOwn
import Derived.Test.YtnhhohhhpaejmaaDoorPC
import Derived.Test.YtnhhohhhpaejmaaDoorPE
import Derived.Test.YtnhhohhhpaejmaaDoorGridOf
import Derived.Test.YtnhhohhhpaejmaaDoorBase0
namespace Go.Proofs.YtnhhohhhpaejmaaDoor
open Go Go.RowKit

theorem uppB {a b c : World} (h : Below a.heap.size a b) (k : Below b.heap.size b c) : Below a.heap.size a c := h.trans (k.mono h.size)
set_option maxHeartbeats 1600000 in
set_option maxRecDepth 100000 in
theorem brooksLaw_any (n : Int) (l : List (Int × Int)) (hl : l.length * 16 ≤ 140737488351232) (sv : Value) (w : World) (h : IsEdges w sv l) (hT : TabAt 1 Lib.deBruijn64tab w) :
    Calls Tryd.prog 4 #[.agg #[.int .i64 n, sv]] w fun e w' => e = .returned (.bool true) ∧ Below w.heap.size w w' := by
  obtain ⟨ad, cap, rfl⟩ := h.form
  have HT := Lib.hid hT
  clear hT
  have hb1 := below1 w (Obj.cells #[.int .i64 n, .slice ad l.length cap] 24)
  have c0 := two_cells w (.int .i64 n) (.slice ad l.length cap) 24
  have cn := c0.1
  have cs := c0.2
  have he := h.below hb1
  have H0 := Lib.hid h
  clear c0 h
  go_enter Tryd.func4, Tryd.ntmps4
  go_upto_region 1 with fail
  generalize w.alloc (Obj.cells #[.int .i64 n, .slice ad l.length cap] 24) = w1 at *
  have Cn := Lib.hid (And.intro cn cs); have He := Lib.hid he; have Hb1 := Lib.hid hb1
  clear he hb1
  go_wp2_with fail
  refine (own_any l n (.slice ad l.length cap) _ He.out hl).mono ?_
  rintro e w2 ⟨v2, rfl, ho2, hb2⟩
  obtain ⟨a2, c2, rfl⟩ := ho2.form
  have hb3 := uppB hb2 (below1 w2 (Obj.cells #[.int .i64 n, .slice a2 l.length c2] 24))
  have o0 := two_cells w2 (.int .i64 n) (.slice a2 l.length c2) 24
  have E3 := Lib.hid (show LB w (w2.alloc (Obj.cells #[.int .i64 n, .slice a2 l.length c2] 24)) n (.slice ad l.length cap) (.slice a2 l.length c2) l w2.heap.size from ⟨Hb1.out.trans (hb3.mono Hb1.out.size), below_cell hb3 Cn.out.1, below_cell hb3 Cn.out.2, o0.1, o0.2, He.out.below hb3, ho2.edges.below (below1 w2 _)⟩)
  have Ho3 := Lib.hid (ho2.below (below1 w2 (Obj.cells #[.int .i64 n, .slice a2 l.length c2] 24)))
  have Hlt := Lib.hid (show ∀ g, (Value.slice a2 l.length c2).ownBlock = some g → g < w2.heap.size from fun g e => (World.ownsRow.lt ho2 g e).2)
  have lB := Nat.lt_of_lt_of_le (show w.heap.size < w1.heap.size from World.block_lt_of_cell? _ _ cn) hb2.size
  clear cn cs ho2 hb2 hb3 o0 He Hb1 Cn
  go_upto_region 2 with fail
  generalize w2.alloc (Obj.cells #[.int .i64 n, .slice a2 l.length c2] 24) = w3 at *
  generalize w2.heap.size = B at *
  have cn := E3.out.cn
  have cs := E3.out.cs
  go_wp2_with fail
  refine (rcheck_any l n _ _ E3.out.he).mono ?_
  rintro e w5 ⟨c, a, hsp, rfl, hb5⟩
  have Hsp := Lib.hid hsp
  have F6 := Lib.hid (FV.new w5 c a)
  have E6 := Lib.hid (E3.out.below (uppB hb5 (below1 w5 (Obj.cells #[.int .i64 c, .int .i64 a] 27))))
  have lC : B < w5.heap.size := Nat.lt_of_lt_of_le (World.block_lt_of_cell? _ _ E3.out.on) hb5.size
  have Ho6 := Lib.hid (Ho3.out.below (uppB hb5 (below1 w5 (Obj.cells #[.int .i64 c, .int .i64 a] 27))))
  clear hsp hb5 cn cs
  go_upto_region 3 with fail
  generalize w5.alloc (Obj.cells #[.int .i64 c, .int .i64 a] 27) = w6 at *
  generalize w5.heap.size = C at *
  have on := E6.out.on
  have os := E6.out.os
  have cn := E6.out.cn
  have cs := E6.out.cs
  obtain ⟨f0, f1, f2, f3, f4⟩ := F6.out.facts
  go_wp2_with fail
  refine (brooks_any n l _ _ E6.out.ho).mono ?_
  rintro e w10 ⟨c', a', v, rfl, hb10, hres⟩
  have b11 := uppB hb10 (below1 w10 (Obj.cells #[.int .i64 c', .int .i64 a'] 27))
  have E11 := Lib.hid (E6.out.below b11)
  have F11 := Lib.hid (F6.out.below b11)
  have G11 := Lib.hid (FV.new w10 c' a')
  have lDD : C < w10.heap.size := Nat.lt_of_lt_of_le F6.out.r.lt hb10.size
  clear f0 f1 f2 f3 f4 on os cn cs b11
  rcases hres with ⟨hc, hgs, rfl⟩ | ⟨N, rfl, hgood, rfl, hcase⟩
  · obtain ⟨e1, e2⟩ := GraphSpec.uniq hgs Hsp.out
    subst e1 e2
    have q : (c' == 0) = false := by simp [hc]
    have q2 : (c' != 0) = true := by simp [hc]
    clear hc hgs hb10
    go_upto_region 4 with fail
    generalize w10.alloc (Obj.cells #[.int .i64 c', .int .i64 a'] 27) = w11 at *
    generalize w10.heap.size = DD at *
    go_wp2_with fail
    refine (colourBegun_any w11 (TabAt.below (g := 1) HT.out E11.out.hb)).mono ?_
    rintro e w12 ⟨rfl, hb12⟩
    have E12 := Lib.hid (E11.out.below hb12); have F12 := Lib.hid (F11.out.below hb12); have G12 := Lib.hid (G11.out.below hb12)
    clear hb12 E11 F11 G11
    have on := E12.out.on
    have os := E12.out.os
    have cn := E12.out.cn
    have cs := E12.out.cs
    obtain ⟨h0, h1, -, -, -⟩ := F12.out.facts
    obtain ⟨g0, g1, -, -, -⟩ := G12.out.facts
    go_wp2_with fail
    refine (kept_is (r := true) (by simp) _ _ w12 E12.out.ho E12.out.he).mono ?_
    rintro e w13 ⟨rfl, hb13⟩
    have E13 := Lib.hid (E12.out.below hb13); have F13 := Lib.hid (F12.out.below hb13); have G13 := Lib.hid (G12.out.below hb13)
    clear hb13 on os cn cs h0 h1 g0 g1 E12 F12 G12
    obtain ⟨h0, h1, -, -, -⟩ := F13.out.facts
    obtain ⟨g0, g1, -, -, -⟩ := G13.out.facts
    go_wp2
    go_ret
    exact ⟨rfl, E13.out.hb⟩
  · obtain ⟨e1, e2⟩ := GraphSpec.uniq hgood.spec Hsp.out
    subst e1 e2
    have hn1 := hgood.hi
    have hN : N ≤ 100 := by omega
    have hll : l.length ≤ 1000 := hgood.len
    have Hg := Lib.hid hgood
    have Hok := Lib.hid (show ∀ j, j < l.length → EndsOk (N : Int) (l.getD j (0, 0)) ∧ (l.getD j (0, 0)).1 ≠ (l.getD j (0, 0)).2 from fun j hj => ⟨(Hg.out.fine j hj).1, (Hg.out.fine j hj).2.1⟩)
    clear hgood hn1
    rcases hcase with ⟨rfl, hk, rfl⟩ | ⟨rfl, hnk, bR, C2, rfl, hrow, hcol⟩
    · have Hk := Lib.hid hk
      clear hk hb10
      go_upto_region 4 with fail
      generalize w10.alloc (Obj.cells #[.int .i64 8, .int .i64 0] 27) = w11 at *
      generalize w10.heap.size = DD at *
      go_wp2_with fail
      refine (colourBegun_any w11 (TabAt.below (g := 1) HT.out E11.out.hb)).mono ?_
      rintro e w12 ⟨rfl, hb12⟩
      have E12 := Lib.hid (E11.out.below hb12); have F12 := Lib.hid (F11.out.below hb12); have G12 := Lib.hid (G11.out.below hb12)
      clear hb12 E11 F11 G11
      have on := E12.out.on
      have os := E12.out.os
      have cn := E12.out.cn
      have cs := E12.out.cs
      obtain ⟨h0, h1, -, -, -⟩ := F12.out.facts
      obtain ⟨g0, g1, -, -, -⟩ := G12.out.facts
      go_wp2_with fail
      refine (kept_is (r := true) (by simp) _ _ w12 E12.out.ho E12.out.he).mono ?_
      rintro e w13 ⟨rfl, hb13⟩
      have E13 := Lib.hid (E12.out.below hb13); have F13 := Lib.hid (F12.out.below hb13); have G13 := Lib.hid (G12.out.below hb13)
      clear hb13 on os cn cs h0 h1 g0 g1 E12 F12 G12
      obtain ⟨h0, h1, -, -, -⟩ := F13.out.facts
      obtain ⟨g0, g1, -, -, -⟩ := G13.out.facts
      have cn := E13.out.cn
      have cs := E13.out.cs
      go_upto_region 8 with (go_at_call 10; refine (gridOf_any l N _ _ E13.out.he hN Hok.out).mono ?_; rintro e w14 ⟨v5, rfl, hg14, hb14⟩; have Hg14 := Lib.hid (show HasGrid w14 v5 N (adj l) from ⟨_, hg14⟩); have E14 := Lib.hid (E13.out.below hb14); have F14 := Lib.hid (F13.out.below hb14); have G14 := Lib.hid (G13.out.below hb14); clear hg14 hb14)
      clear cn cs h0 h1 g0 g1 E13 F13 G13
      have cn := E14.out.cn
      have cs := E14.out.cs
      have q1 : IntKind.i64.wrap ((N : Int) - 1) = (N : Int) - 1 := IntWalk.i64_in _ (by omega)
      have hmul : 0 ≤ (N : Int) * ((N : Int) - 1) ∧ (N : Int) * ((N : Int) - 1) ≤ 10000 := by
        rcases Nat.eq_zero_or_pos N with h | h
        · subst h; simp
        · exact ⟨Int.mul_nonneg (by omega) (by omega), Int.le_trans (Int.mul_le_mul (show (N : Int) ≤ 100 by omega) (show (N : Int) - 1 ≤ 100 by omega) (by omega) (by omega)) (by decide)⟩
      have q2 : IntKind.i64.wrap ((N : Int) * ((N : Int) - 1)) = (N : Int) * ((N : Int) - 1) := IntWalk.i64_in _ (by omega)
      have q3 : ((N : Int) * ((N : Int) - 1)).tdiv 2 = ((N * (N - 1) / 2 : Nat) : Int) := by
        have e : (N : Int) * ((N : Int) - 1) = ((N * (N - 1) : Nat) : Int) := by
          rcases Nat.eq_zero_or_pos N with h | h
          · subst h; rfl
          · rw [Int.natCast_mul]; congr 1; omega
        rw [e]; rfl
      have hH : N * (N - 1) / 2 ≤ 10000 := by
        have : N * (N - 1) ≤ 100 * 100 := Nat.mul_le_mul hN (by omega)
        omega
      have hki := Lib.hid (kind_iff Hg.out)
      generalize hHH : N * (N - 1) / 2 = H at *
      have q5 : IntKind.i64.wrap (H : Int) = (H : Int) := IntWalk.i64_in _ (by omega)
      have hmo : mostN l N ≤ 100 := maxC_top _ 100 (fun k => nbrs_le hN k) N
      have HdegE := Lib.hid (most_deg (l := l) (N := N))
      generalize mostN l N = most at *
      clear hmul
      go_cut [8] from 33 to 43 (fun s8 wx => s8 = .bool (decide (l.length = H)) ∧ w14 = wx)
      case first =>
        by_cases h2 : l.length = H
        · have p2 : ((l.length : Int) == (H : Int)) = true := by simp [h2]
          have e2 := Lib.hid (decide_eq_true h2)
          clear h2
          go_wp2
          go_meet
          exact ⟨by rw [e2.out], rfl⟩
        · have p2 : ((l.length : Int) == (H : Int)) = false := by simp; omega
          have e2 := Lib.hid (decide_eq_false h2)
          clear h2
          go_wp2
          go_meet
          exact ⟨by rw [e2.out], rfl⟩
      case rest =>
      obtain ⟨rfl, rfl⟩ := hcut
      clear q1 q2 q3 q5
      go_upto_region 9 with fail
      go_cut [9] from 44 to 60 (fun s9 wx => s9 = .bool (decide (N % 2 = 1 ∧ l.length = N ∧ most = 2)) ∧ Below w14.heap.size w14 wx)
      case first =>
        by_cases h5 : N % 2 = 1
        · have q4 : (N : Int).tmod 2 = 1 := by
            have : (N : Int).tmod 2 = ((N % 2 : Nat) : Int) := rfl
            rw [this, h5]; rfl
          by_cases h4 : l.length = N
          · have p4 : ((l.length : Int) == (N : Int)) = true := by simp [h4]
            have e5 := Lib.hid (show decide (N % 2 = 1 ∧ l.length = N ∧ most = 2) = decide (most = 2) by simp [h4, h5])
            clear h4 h5
            go_wp2_with fail
            refine (rdeg_any N (adj l) v5 _ hN Hg14.out).mono ?_
            rintro e w15 ⟨rfl, hdr⟩
            rw [HdegE.out]
            by_cases h3 : most = 2
            · subst h3
              go_wp2
              go_meet
              exact ⟨by rw [e5.out]; rfl, hdr.below⟩
            · have p3 : ((most : Int) == 2) = false := by simp; omega
              have e3 := Lib.hid (decide_eq_false h3)
              clear h3
              go_wp2
              go_meet
              exact ⟨by rw [e5.out, e3.out], hdr.below⟩
          · have p4 : ((l.length : Int) == (N : Int)) = false := by simp; omega
            have e5 := Lib.hid (show decide (N % 2 = 1 ∧ l.length = N ∧ most = 2) = false by simp [h4])
            clear h4 h5
            go_wp2
            go_meet
            exact ⟨by rw [e5.out], Below.refl _ _⟩
        · have q4 : (N : Int).tmod 2 = 0 := by
            have : (N : Int).tmod 2 = ((N % 2 : Nat) : Int) := rfl
            rw [this, show N % 2 = 0 by omega]; rfl
          have e5 := Lib.hid (show decide (N % 2 = 1 ∧ l.length = N ∧ most = 2) = false by simp [h5])
          clear h5
          go_wp2
          go_meet
          exact ⟨by rw [e5.out], Below.refl _ _⟩
      case rest =>
      obtain ⟨rfl, hb15⟩ := hcut
      obtain ⟨w15, rfl⟩ : ∃ w15 : World, w15 = wc := ⟨_, rfl⟩
      have Hg15 := Lib.hid (Hg14.out.below hb15); have E15 := Lib.hid (E14.out.below hb15); have F15 := Lib.hid (F14.out.below hb15); have G15 := Lib.hid (G14.out.below hb15)
      clear hb15 cn cs E14 F14 G14 Hg14
      have hpl : partsF N (adj l) (fun _ => false) ≤ N := by unfold partsF; exact cnt_le _ _
      go_wp2_with fail
      refine (parts_any N (adj l) (fun _ => false) v5 _ w15 hN Hg15.out (HasShut.nil w15)).mono ?_
      rintro e w16 ⟨rfl, hb16⟩
      have E16 := Lib.hid (E15.out.below hb16); have F16 := Lib.hid (F15.out.below hb16); have G16 := Lib.hid (G15.out.below hb16)
      clear hb16 E15 F15 G15 Hg15
      generalize partsF N (adj l) (fun _ => false) = P at *
      obtain ⟨f0, f1, f2, f3, f4⟩ := F16.out.facts
      obtain ⟨g0, g1, -, -, -⟩ := G16.out.facts
      have hkk : P ≠ 1 ∨ decide (l.length = H) = true ∨ decide (N % 2 = 1 ∧ l.length = N ∧ most = 2) = true := by
        rcases hki.out.1 Hk.out with h | h | h
        · exact .inl h
        · exact .inr (.inl (decide_eq_true h))
        · exact .inr (.inr (decide_eq_true h))
      have Hfin := Lib.hid (show FV (((w16.setCell ⟨C, 0, none⟩ (.int .i64 8)).setCell ⟨C, 1, none⟩ (.int .i64 0)).alloc (Obj.cells #[.int .i64 8, .int .i64 0] 27)) C 8 0 ∧ FV (((w16.setCell ⟨C, 0, none⟩ (.int .i64 8)).setCell ⟨C, 1, none⟩ (.int .i64 0)).alloc (Obj.cells #[.int .i64 8, .int .i64 0] 27)) DD 8 0 ∧ Below w.heap.size w (((w16.setCell ⟨C, 0, none⟩ (.int .i64 8)).setCell ⟨C, 1, none⟩ (.int .i64 0)).alloc (Obj.cells #[.int .i64 8, .int .i64 0] 27)) from by
        have hb := (E16.out.hb.setCell (p := ⟨C, 0, none⟩) (show w.heap.size ≤ C by omega) (.int .i64 8)).setCell (p := ⟨C, 1, none⟩) (show w.heap.size ≤ C by omega) (.int .i64 0)
        have hne : DD ≠ C := by omega
        refine ⟨(F16.out.put 8 0).below (below1 _ _), ?_, uppB hb (below1 _ _)⟩
        exact FV.below ⟨(G16.out.r.setOther (a := ⟨C, 0, none⟩) hne _).setOther (a := ⟨C, 1, none⟩) hne _⟩ (below1 _ _))
      clear hki Hk g0 g1
      generalize decide (l.length = H) = b8 at *
      generalize decide (N % 2 = 1 ∧ l.length = N ∧ most = 2) = b9 at *
      by_cases hP : P = 1
      · subst hP
        cases b8 with
        | true =>
          clear hkk
          go_upto_if 69 with fail
          go_cut [] from 69 to 70 (fun wx => FV wx C 8 0 ∧ FV wx DD 8 0 ∧ Below w.heap.size w wx)
          case first =>
            go_wp2_with (go_at_call 15; refine (F_any _ _ _).mono ?_; rintro e wf ⟨rfl, rfl⟩)
            go_meet
            exact Hfin.out
          case rest =>
          obtain ⟨k1, k2, hb17⟩ := hcut
          obtain ⟨w17, rfl⟩ : ∃ w17 : World, w17 = wc := ⟨_, rfl⟩
          obtain ⟨f0, f1, -, -, -⟩ := k1.facts
          obtain ⟨g0, g1, -, -, -⟩ := k2.facts
          have Hb17 := Lib.hid hb17
          clear hb17 k1 k2
          go_wp2
          go_ret
          exact ⟨rfl, Hb17.out⟩
        | false =>
          obtain rfl : b9 = true := by
            rcases hkk with h | h | h
            · exact absurd rfl h
            · cases h
            · exact h
          clear hkk
          go_upto_if 69 with fail
          go_cut [] from 69 to 70 (fun wx => FV wx C 8 0 ∧ FV wx DD 8 0 ∧ Below w.heap.size w wx)
          case first =>
            go_wp2_with (go_at_call 15; refine (F_any _ _ _).mono ?_; rintro e wf ⟨rfl, rfl⟩)
            go_meet
            exact Hfin.out
          case rest =>
          obtain ⟨k1, k2, hb17⟩ := hcut
          obtain ⟨w17, rfl⟩ : ∃ w17 : World, w17 = wc := ⟨_, rfl⟩
          obtain ⟨f0, f1, -, -, -⟩ := k1.facts
          obtain ⟨g0, g1, -, -, -⟩ := k2.facts
          have Hb17 := Lib.hid hb17
          clear hb17 k1 k2
          go_wp2
          go_ret
          exact ⟨rfl, Hb17.out⟩
      · have p1 : ((P : Int) != 1) = true := by simp; omega
        clear hkk hP
        go_upto_if 69 with fail
        go_cut [] from 69 to 70 (fun wx => FV wx C 8 0 ∧ FV wx DD 8 0 ∧ Below w.heap.size w wx)
        case first =>
          go_wp2_with (go_at_call 15; refine (F_any _ _ _).mono ?_; rintro e wf ⟨rfl, rfl⟩)
          go_meet
          exact Hfin.out
        case rest =>
        obtain ⟨k1, k2, hb17⟩ := hcut
        obtain ⟨w17, rfl⟩ : ∃ w17 : World, w17 = wc := ⟨_, rfl⟩
        obtain ⟨f0, f1, -, -, -⟩ := k1.facts
        obtain ⟨g0, g1, -, -, -⟩ := k2.facts
        have Hb17 := Lib.hid hb17
        clear hb17 k1 k2
        go_wp2
        go_ret
        exact ⟨rfl, Hb17.out⟩
    · have Hnk := Lib.hid hnk; have Hcol := Lib.hid hcol
      have R11 := Lib.hid (hrow.of_block ((below1 w10 (Obj.cells #[.int .i64 0, .int .i64 0] 27)).block _ hrow.lt))
      clear hnk hcol hrow hb10
      go_upto_region 4 with fail
      generalize w10.alloc (Obj.cells #[.int .i64 0, .int .i64 0] 27) = w11 at *
      generalize w10.heap.size = DD at *
      go_wp2_with fail
      refine (colourBegun_any w11 (TabAt.below (g := 1) HT.out E11.out.hb)).mono ?_
      rintro e w12 ⟨rfl, hb12⟩
      have E12 := Lib.hid (E11.out.below hb12); have F12 := Lib.hid (F11.out.below hb12); have G12 := Lib.hid (G11.out.below hb12); have R12 := Lib.hid (R11.out.of_block (hb12.block _ R11.out.lt))
      clear hb12 E11 F11 G11
      have on := E12.out.on
      have os := E12.out.os
      have cn := E12.out.cn
      have cs := E12.out.cs
      obtain ⟨h0, h1, -, -, -⟩ := F12.out.facts
      obtain ⟨g0, g1, -, -, -⟩ := G12.out.facts
      go_wp2_with fail
      refine (kept_is (r := true) (by simp) _ _ w12 E12.out.ho E12.out.he).mono ?_
      rintro e w13 ⟨rfl, hb13⟩
      have E13 := Lib.hid (E12.out.below hb13); have F13 := Lib.hid (F12.out.below hb13); have G13 := Lib.hid (G12.out.below hb13); have R13 := Lib.hid (R12.out.of_block (hb13.block _ R12.out.lt))
      clear hb13 on os cn cs h0 h1 g0 g1 E12 F12 G12
      obtain ⟨h0, h1, -, -, -⟩ := F13.out.facts
      obtain ⟨g0, g1, -, -, -⟩ := G13.out.facts
      have cn := E13.out.cn
      have cs := E13.out.cs
      go_upto_region 8 with (go_at_call 10; refine (gridOf_any l N _ _ E13.out.he hN Hok.out).mono ?_; rintro e w14 ⟨v5, rfl, hg14, hb14⟩; have Hg14 := Lib.hid (show HasGrid w14 v5 N (adj l) from ⟨_, hg14⟩); have E14 := Lib.hid (E13.out.below hb14); have F14 := Lib.hid (F13.out.below hb14); have G14 := Lib.hid (G13.out.below hb14); have R14 := Lib.hid (R13.out.of_block (hb14.block _ R13.out.lt)); clear hg14 hb14)
      clear cn cs h0 h1 g0 g1 E13 F13 G13
      have cn := E14.out.cn
      have cs := E14.out.cs
      have q1 : IntKind.i64.wrap ((N : Int) - 1) = (N : Int) - 1 := IntWalk.i64_in _ (by omega)
      have hmul : 0 ≤ (N : Int) * ((N : Int) - 1) ∧ (N : Int) * ((N : Int) - 1) ≤ 10000 := by
        rcases Nat.eq_zero_or_pos N with h | h
        · subst h; simp
        · exact ⟨Int.mul_nonneg (by omega) (by omega), Int.le_trans (Int.mul_le_mul (show (N : Int) ≤ 100 by omega) (show (N : Int) - 1 ≤ 100 by omega) (by omega) (by omega)) (by decide)⟩
      have q2 : IntKind.i64.wrap ((N : Int) * ((N : Int) - 1)) = (N : Int) * ((N : Int) - 1) := IntWalk.i64_in _ (by omega)
      have q3 : ((N : Int) * ((N : Int) - 1)).tdiv 2 = ((N * (N - 1) / 2 : Nat) : Int) := by
        have e : (N : Int) * ((N : Int) - 1) = ((N * (N - 1) : Nat) : Int) := by
          rcases Nat.eq_zero_or_pos N with h | h
          · subst h; rfl
          · rw [Int.natCast_mul]; congr 1; omega
        rw [e]; rfl
      have hH : N * (N - 1) / 2 ≤ 10000 := by
        have : N * (N - 1) ≤ 100 * 100 := Nat.mul_le_mul hN (by omega)
        omega
      have hki := Lib.hid (kind_iff Hg.out)
      generalize hHH : N * (N - 1) / 2 = H at *
      have q5 : IntKind.i64.wrap (H : Int) = (H : Int) := IntWalk.i64_in _ (by omega)
      have hmo : mostN l N ≤ 100 := maxC_top _ 100 (fun k => nbrs_le hN k) N
      have HdegE := Lib.hid (most_deg (l := l) (N := N))
      generalize mostN l N = most at *
      clear hmul
      go_cut [8] from 33 to 43 (fun s8 wx => s8 = .bool (decide (l.length = H)) ∧ w14 = wx)
      case first =>
        by_cases h2 : l.length = H
        · have p2 : ((l.length : Int) == (H : Int)) = true := by simp [h2]
          have e2 := Lib.hid (decide_eq_true h2)
          clear h2
          go_wp2
          go_meet
          exact ⟨by rw [e2.out], rfl⟩
        · have p2 : ((l.length : Int) == (H : Int)) = false := by simp; omega
          have e2 := Lib.hid (decide_eq_false h2)
          clear h2
          go_wp2
          go_meet
          exact ⟨by rw [e2.out], rfl⟩
      case rest =>
      obtain ⟨rfl, rfl⟩ := hcut
      clear q1 q2 q3 q5
      go_upto_region 9 with fail
      go_cut [9] from 44 to 60 (fun s9 wx => s9 = .bool (decide (N % 2 = 1 ∧ l.length = N ∧ most = 2)) ∧ Below w14.heap.size w14 wx)
      case first =>
        by_cases h5 : N % 2 = 1
        · have q4 : (N : Int).tmod 2 = 1 := by
            have : (N : Int).tmod 2 = ((N % 2 : Nat) : Int) := rfl
            rw [this, h5]; rfl
          by_cases h4 : l.length = N
          · have p4 : ((l.length : Int) == (N : Int)) = true := by simp [h4]
            have e5 := Lib.hid (show decide (N % 2 = 1 ∧ l.length = N ∧ most = 2) = decide (most = 2) by simp [h4, h5])
            clear h4 h5
            go_wp2_with fail
            refine (rdeg_any N (adj l) v5 _ hN Hg14.out).mono ?_
            rintro e w15 ⟨rfl, hdr⟩
            rw [HdegE.out]
            by_cases h3 : most = 2
            · subst h3
              go_wp2
              go_meet
              exact ⟨by rw [e5.out]; rfl, hdr.below⟩
            · have p3 : ((most : Int) == 2) = false := by simp; omega
              have e3 := Lib.hid (decide_eq_false h3)
              clear h3
              go_wp2
              go_meet
              exact ⟨by rw [e5.out, e3.out], hdr.below⟩
          · have p4 : ((l.length : Int) == (N : Int)) = false := by simp; omega
            have e5 := Lib.hid (show decide (N % 2 = 1 ∧ l.length = N ∧ most = 2) = false by simp [h4])
            clear h4 h5
            go_wp2
            go_meet
            exact ⟨by rw [e5.out], Below.refl _ _⟩
        · have q4 : (N : Int).tmod 2 = 0 := by
            have : (N : Int).tmod 2 = ((N % 2 : Nat) : Int) := rfl
            rw [this, show N % 2 = 0 by omega]; rfl
          have e5 := Lib.hid (show decide (N % 2 = 1 ∧ l.length = N ∧ most = 2) = false by simp [h5])
          clear h5
          go_wp2
          go_meet
          exact ⟨by rw [e5.out], Below.refl _ _⟩
      case rest =>
      obtain ⟨rfl, hb15⟩ := hcut
      obtain ⟨w15, rfl⟩ : ∃ w15 : World, w15 = wc := ⟨_, rfl⟩
      have Hg15 := Lib.hid (Hg14.out.below hb15); have E15 := Lib.hid (E14.out.below hb15); have F15 := Lib.hid (F14.out.below hb15); have G15 := Lib.hid (G14.out.below hb15); have R15 := Lib.hid (R14.out.of_block (hb15.block _ R14.out.lt))
      clear hb15 cn cs E14 F14 G14 Hg14
      have hpl : partsF N (adj l) (fun _ => false) ≤ N := by unfold partsF; exact cnt_le _ _
      go_wp2_with fail
      refine (parts_any N (adj l) (fun _ => false) v5 _ w15 hN Hg15.out (HasShut.nil w15)).mono ?_
      rintro e w16 ⟨rfl, hb16⟩
      have E16 := Lib.hid (E15.out.below hb16); have F16 := Lib.hid (F15.out.below hb16); have G16 := Lib.hid (G15.out.below hb16); have R16 := Lib.hid (R15.out.of_block (hb16.block _ R15.out.lt))
      clear hb16 E15 F15 G15 Hg15
      generalize partsF N (adj l) (fun _ => false) = P at *
      obtain ⟨f0, f1, f2, f3, f4⟩ := F16.out.facts
      obtain ⟨g0, g1, -, -, -⟩ := G16.out.facts
      have hkk : P = 1 ∧ decide (l.length = H) = false ∧ decide (N % 2 = 1 ∧ l.length = N ∧ most = 2) = false := by
        refine ⟨Classical.byContradiction fun h => Hnk.out (hki.out.2 (.inl h)), decide_eq_false fun h => Hnk.out (hki.out.2 (.inr (.inl h))), decide_eq_false fun h => Hnk.out (hki.out.2 (.inr (.inr h)))⟩
      obtain ⟨rfl, d8, d9⟩ := hkk
      clear hki
      have cn := E16.out.cn
      have cs := E16.out.cs
      have HX := Lib.hid hmo
      rw [d8, d9]
      clear d8 d9 hmo
      go_upto_region 17 with (go_at_call 10; refine (gridOf_any l N _ _ E16.out.he hN Hok.out).mono ?_; rintro e w17 ⟨v7, rfl, hg17, hb17⟩; have Hg17 := Lib.hid (show HasGrid w17 v7 N (adj l) from ⟨_, hg17⟩); have E17 := Lib.hid (E16.out.below hb17); have R17 := Lib.hid (R16.out.of_block (hb17.block _ R16.out.lt)); clear hg17 hb17)
      clear cn cs f0 f1 g0 g1
      go_wp2_with fail
      refine (rdeg_any N (adj l) v7 w17 hN Hg17.out).mono ?_
      rintro e w18 ⟨rfl, hdr⟩
      rw [HdegE.out]
      have hb18 : Below w17.heap.size w17 w18 := hdr.below
      have E18 := Lib.hid (E17.out.below hb18); have R18 := Lib.hid (R17.out.of_block (hb18.block _ R17.out.lt)); have Hg18 := Lib.hid (Hg17.out.below hb18)
      clear hdr hb18
      have hints : IsInts w18 (.slice (some ⟨bR, 0, none⟩) N N) ((List.range N).map fun i => (((C2 i).toNat : Nat) : Int)) := by
        have h1 := IsInts.ofRow (f := C2) R18.out (by omega)
        have h2 : (List.range N).map C2 = (List.range N).map fun i => (((C2 i).toNat : Nat) : Int) := List.map_congr_left fun i hi => by
          have := Hcol.out.1 i (List.mem_range.1 hi)
          omega
        rw [← h2]; exact h1
      have Hcl := Lib.hid (colouring_yes N most (adj l) (fun v => (C2 v).toNat) v7 _ w18 hN Hg18.out hints (fun v hv => by have := Hcol.out.1 v hv; omega) (fun u hu v hv hg e => by
        have h1 := Hcol.out.1 u hu
        have h2 := Hcol.out.1 v hv
        exact Hcol.out.2 u v hu hv hg (by omega)))
      clear hints
      go_wp2_with fail
      refine Hcl.out.mono ?_
      rintro e w19 ⟨rfl, hb19⟩
      have E19 := Lib.hid (E18.out.below hb19)
      clear hb19
      go_wp2
      go_ret
      exact ⟨rfl, E19.out.hb⟩

end Go.Proofs.YtnhhohhhpaejmaaDoor
