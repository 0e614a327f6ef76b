/- arborlaw.PartsWhole answers true: the walk. -/
import Derived.Test.YtmhcnekbfngafaaBow
import Derived.Test.YtmhcnekbfngafaaPartB
import Derived.Test.YtmhcnekbfngafaaCompW
import Derived.Test.YtmhcnekbfngafaaBriW
import Derived.Test.YtmhcnekbfngafaaRCutW
import Derived.Test.YtmhcnekbfngafaaPairsW
import Derived.Test.YtmhcnekbfngafaaLists
import Derived.Test.YtmhcnekbfngafaaPF
import Derived.Test.YtmhcnekbfngafaaGOwn
import Derived.Test.YtmhcnekbfngafaaGridOf
namespace Go.Proofs.Ytmhcnekbfngafaa
open Go Go.RowKit

/-- Rows of nodes, to be read. -/
theorem PRow.rows {w : World} {B : Nat} {v : Value} {m : List (List Nat)} (h : PRow w B v m) : IsRows w v (m.map ints) := by
  obtain ⟨vals, h0, hv⟩ := h
  obtain ⟨a, c, rfl⟩ := ownsRow_form h0
  obtain ⟨h1, h2, h3, b, h4, h5⟩ := ownsRow_cap h0
  refine ⟨a, c, b, 0, by rw [List.length_map], by rw [List.length_map]; exact h1, h2, fun hp => (h4 (by rwa [List.length_map] at hp)).1, h3, fun j hj => ?_⟩
  rw [List.length_map] at hj
  obtain ⟨r, hr, hi⟩ := hv j hj
  have e : (m.map ints).getD j [] = ints (m.getD j []) := by simp [List.getD, List.getElem?_eq_getElem hj]
  exact ⟨r, by rw [Nat.zero_add]; exact h5 j r hr, by rw [e]; exact IsInts.owned hi⟩
theorem PRow.form {w : World} {B : Nat} {v : Value} {m : List (List Nat)} (h : PRow w B v m) : ∃ a c, v = .slice a m.length c := by
  obtain ⟨vals, h0, -⟩ := h
  exact ownsRow_form h0

theorem upp9 {a b c : World} (h : Below a.heap.size a b) (k : Below b.heap.size b c) : Below a.heap.size a c := h.trans (k.mono h.size)
set_option maxHeartbeats 1600000 in
set_option maxRecDepth 100000 in
theorem wholeLaw_any (n : Int) (l : List (Int × Int)) (hl : l.length * 16 ≤ 140737488351232) (sv : Value) (w : World) (h : IsEdges w sv l) :
    Calls Try.prog 6 #[.agg #[.int .i64 n, sv]] w fun e w' => e = .returned (.bool true) ∧ Below w.heap.size w w' := by
  obtain ⟨ad, cap, rfl⟩ := h.form
  have hb1 := below1 w (Obj.cells #[.int .i64 n, .slice ad l.length cap] 24)
  have c0 := two_cells w (.int .i64 n) (.slice ad l.length cap) 24
  have cn := c0.1
  have cs := c0.2
  have he := h.below hb1
  have H0 := Lib.hid h
  clear c0 h
  go_enter Try.func6, Try.ntmps6
  go_upto_region 1 with fail
  generalize w.alloc (Obj.cells #[.int .i64 n, .slice ad l.length cap] 24) = w1 at *
  have Cn := Lib.hid (And.intro cn cs); have He := Lib.hid he; have Hb1 := Lib.hid hb1
  clear he hb1
  go_wp2_with fail
  refine (own_any l n (.slice ad l.length cap) _ He.out hl).mono ?_
  rintro e w2 ⟨v2, rfl, ho2, hb2⟩
  obtain ⟨a2, c2, rfl⟩ := ho2.form
  have hb3 := upp9 hb2 (below1 w2 (Obj.cells #[.int .i64 n, .slice a2 l.length c2] 24))
  have o0 := two_cells w2 (.int .i64 n) (.slice a2 l.length c2) 24
  have E3 := Lib.hid (show LB w (w2.alloc (Obj.cells #[.int .i64 n, .slice a2 l.length c2] 24)) n (.slice ad l.length cap) (.slice a2 l.length c2) l w2.heap.size from ⟨Hb1.out.trans (hb3.mono Hb1.out.size), below_cell hb3 Cn.out.1, below_cell hb3 Cn.out.2, o0.1, o0.2, He.out.below hb3, ho2.edges.below (below1 w2 _)⟩)
  have Ho3 := Lib.hid (ho2.below (below1 w2 (Obj.cells #[.int .i64 n, .slice a2 l.length c2] 24)))
  have Hlt := Lib.hid (show ∀ g, (Value.slice a2 l.length c2).ownBlock = some g → g < w2.heap.size from fun g e => (World.ownsRow.lt ho2 g e).2)
  have lB := Nat.lt_of_lt_of_le (show w.heap.size < w1.heap.size from World.block_lt_of_cell? _ _ cn) hb2.size
  clear cn cs ho2 hb2 hb3 o0 He Hb1 Cn
  go_upto_region 2 with fail
  generalize w2.alloc (Obj.cells #[.int .i64 n, .slice a2 l.length c2] 24) = w3 at *
  generalize w2.heap.size = B at *
  have cn := E3.out.cn
  have cs := E3.out.cs
  go_wp2_with fail
  refine (rcheck_any l n _ _ E3.out.he).mono ?_
  rintro e w5 ⟨c, a, hsp, rfl, hb5⟩
  have Hsp := Lib.hid hsp
  have F6 := Lib.hid (FV.new w5 c a)
  have E6 := Lib.hid (E3.out.below (upp9 hb5 (below1 w5 (Obj.cells #[.int .i64 c, .int .i64 a] 27))))
  have lC : B < w5.heap.size := Nat.lt_of_lt_of_le (World.block_lt_of_cell? _ _ E3.out.on) hb5.size
  have Ho6 := Lib.hid (Ho3.out.below (upp9 hb5 (below1 w5 (Obj.cells #[.int .i64 c, .int .i64 a] 27))))
  clear hsp hb5 cn cs
  go_upto_region 3 with fail
  generalize w5.alloc (Obj.cells #[.int .i64 c, .int .i64 a] 27) = w6 at *
  generalize w5.heap.size = C at *
  have on := E6.out.on
  have os := E6.out.os
  have cn := E6.out.cn
  have cs := E6.out.cs
  obtain ⟨f0, f1, f2, f3, f4⟩ := F6.out.facts
  by_cases hc : c = 0
  · subst hc
    obtain ⟨hgood, rfl⟩ := Hsp.out.good
    have hn0 := hgood.lo
    have hn1 := hgood.hi
    obtain ⟨N, rfl⟩ := Int.eq_ofNat_of_zero_le hn0
    have Hg := Lib.hid hgood
    clear hgood
    have hN : N ≤ 100 := by omega
    have Hok := Lib.hid (show ∀ j, j < l.length → EndsOk (N : Int) (l.getD j (0, 0)) ∧ (l.getD j (0, 0)).1 ≠ (l.getD j (0, 0)).2 from fun j hj => ⟨(Hg.out.fine j hj).1, (Hg.out.fine j hj).2.1⟩)
    go_wp2_with fail
    refine (pcomps_ok Hg.out _ _ E6.out.ho).mono ?_
    rintro e w7 ⟨vC, rfl, hpC, hb7⟩
    obtain ⟨CL, hCL⟩ : ∃ CL, compsL N (adj l) = CL := ⟨_, rfl⟩
    rw [hCL] at hpC
    have HCL := Lib.hid hCL
    clear hCL
    obtain ⟨aC, cC, rfl⟩ := hpC.form
    have b8 := upp9 hb7 (below1 w7 (Obj.cells #[.int .i64 0, .int .i64 0] 27))
    have E8 := Lib.hid (E6.out.below b8); have F8 := Lib.hid (F6.out.below b8)
    have G8 := Lib.hid (FV.new w7 0 0)
    have C8 := Lib.hid (hpC.below (below1 w7 (Obj.cells #[.int .i64 0, .int .i64 0] 27)))
    clear on os cn cs hb7 b8 hpC f0 f1 f2 f3 f4
    go_upto_region 4 with fail
    generalize w7.alloc (Obj.cells #[.int .i64 0, .int .i64 0] 27) = w8 at *
    generalize w7.heap.size = Q1 at *
    have on := E8.out.on
    have os := E8.out.os
    go_wp2_with fail
    refine (pbridges_ok Hg.out _ _ E8.out.ho).mono ?_
    rintro e w9 ⟨vB, L, rfl, hoB, hb9, hrL⟩
    obtain ⟨aB, cB, rfl⟩ := hoB.form
    have HL := Lib.hid (oneL_ok (good_gr Hg.out) (blks_cls Hg.out hrL))
    have b10 := upp9 hb9 (below1 w9 (Obj.cells #[.int .i64 0, .int .i64 0] 27))
    have E10 := Lib.hid (E8.out.below b10); have F10 := Lib.hid (F8.out.below b10); have G10 := Lib.hid (G8.out.below b10); have C10 := Lib.hid (C8.out.below b10)
    have H10 := Lib.hid (FV.new w9 0 0)
    have B10 := Lib.hid (hoB.below (below1 w9 (Obj.cells #[.int .i64 0, .int .i64 0] 27)))
    clear on os hb9 b10 hoB hrL E8 F8 G8 C8
    go_upto_region 5 with fail
    generalize w9.alloc (Obj.cells #[.int .i64 0, .int .i64 0] 27) = w10 at *
    generalize w9.heap.size = Q2 at *
    have on := E10.out.on
    have os := E10.out.os
    go_wp2_with fail
    refine (pcuts_ok Hg.out _ _ E10.out.ho).mono ?_
    rintro e w11 ⟨vV, rfl, hoV, hb11⟩
    rw [cutsL_ok (good_gr Hg.out) (blkD_ok Hg.out).1] at hoV
    obtain ⟨VL, hVL⟩ : ∃ VL, (List.range N).filter (cutB N (adj l)) = VL := ⟨_, rfl⟩
    rw [hVL] at hoV
    have HVL := Lib.hid hVL
    clear hVL
    obtain ⟨aV, cV, rfl⟩ := ownsRow_form hoV
    have hiV := IsInts.owned hoV
    have b12 := upp9 hb11 (below1 w11 (Obj.cells #[.int .i64 0, .int .i64 0] 27))
    have E12 := Lib.hid (E10.out.below b12); have F12 := Lib.hid (F10.out.below b12); have G12 := Lib.hid (G10.out.below b12); have H12 := Lib.hid (H10.out.below b12); have C12 := Lib.hid (C10.out.below b12); have B12 := Lib.hid (B10.out.below b12)
    have K12 := Lib.hid (FV.new w11 0 0)
    have V12 := Lib.hid (hiV.below (below1 w11 (Obj.cells #[.int .i64 0, .int .i64 0] 27)))
    clear on os hb11 b12 hoV hiV E10 F10 G10 H10 C10 B10
    go_upto_region 6 with fail
    generalize w11.alloc (Obj.cells #[.int .i64 0, .int .i64 0] 27) = w12 at *
    generalize w11.heap.size = Q3 at *
    go_wp2_with fail
    refine (partsBegun_any w12).mono ?_
    rintro e w13 ⟨rfl, hb13⟩
    have E13 := Lib.hid (E12.out.below hb13); have F13 := Lib.hid (F12.out.below hb13); have G13 := Lib.hid (G12.out.below hb13); have H13 := Lib.hid (H12.out.below hb13); have K13 := Lib.hid (K12.out.below hb13); have C13 := Lib.hid (C12.out.below hb13); have B13 := Lib.hid (B12.out.below hb13); have V13 := Lib.hid (V12.out.below hb13)
    clear hb13 E12 F12 G12 H12 K12 C12 B12 V12
    have on := E13.out.on
    have os := E13.out.os
    have cn := E13.out.cn
    have cs := E13.out.cs
    obtain ⟨h0, h1, -, -, -⟩ := F13.out.facts
    obtain ⟨g0, g1, -, -, -⟩ := G13.out.facts
    obtain ⟨j0, j1, -, -, -⟩ := H13.out.facts
    obtain ⟨k0, k1, -, -, -⟩ := K13.out.facts
    go_wp2_with fail
    refine (kept_is (r := true) (by simp) _ _ w13 E13.out.ho E13.out.he).mono ?_
    rintro e w14 ⟨rfl, hb14⟩
    have E14 := Lib.hid (E13.out.below hb14); have F14 := Lib.hid (F13.out.below hb14); have C14 := Lib.hid (C13.out.below hb14); have B14 := Lib.hid (B13.out.below hb14); have V14 := Lib.hid (V13.out.below hb14)
    clear hb14 on os cn cs h0 h1 g0 g1 j0 j1 k0 k1 E13 F13 G13 H13 K13 C13 B13 V13
    obtain ⟨h0, h1, -, -, -⟩ := F14.out.facts
    have cn := E14.out.cn
    have cs := E14.out.cs
    go_wp2_with fail
    refine (gridOf_any l N _ _ E14.out.he hN Hok.out).mono ?_
    rintro e w15 ⟨v5, rfl, hg15, hb15⟩
    have Hg15 := Lib.hid (show HasGrid w15 v5 N (adj l) from ⟨_, hg15⟩)
    have E15 := Lib.hid (E14.out.below hb15); have C15 := Lib.hid (C14.out.below hb15); have B15 := Lib.hid (B14.out.below hb15); have V15 := Lib.hid (V14.out.below hb15)
    clear hg15 hb15 cn cs h0 h1
    go_upto_region 11 with fail
    go_wp2_with fail
    refine (rcomps_any N (adj l) v5 w15 hN Hg15.out (good_gr Hg.out).sym).mono ?_
    rintro e w16 ⟨x, rfl, hx, hb16⟩
    rw [HCL.out] at hx
    have X16 := Lib.hid hx.rows
    have E16 := Lib.hid (E15.out.below hb16); have C16 := Lib.hid (C15.out.below hb16); have B16 := Lib.hid (B15.out.below hb16); have V16 := Lib.hid (V15.out.below hb16); have Hg16 := Lib.hid (Hg15.out.below hb16)
    clear hb16 hx
    go_wp2_with fail
    refine (lists_any _ _ _ _ w16 C16.out.rows X16.out).mono ?_
    rintro e w17 ⟨rfl, hd17⟩
    rw [show decide (CL.map ints = CL.map ints) = true by simp]
    have hb17 : Below w16.heap.size w16 w17 := hd17.below
    have E17 := Lib.hid (E16.out.below hb17); have B17 := Lib.hid (B16.out.below hb17); have V17 := Lib.hid (V16.out.below hb17); have Hg17 := Lib.hid (Hg16.out.below hb17)
    clear hb17 hd17 E15 C15 B15 V15 Hg15 E16 C16 B16 V16 Hg16 X16
    have cn := E17.out.cn
    by_cases h40 : (40 : Int) < (N : Int)
    · go_wp2
      go_ret
      exact ⟨rfl, E17.out.hb⟩
    · go_wp2_with fail
      refine (rbridges_any N (adj l) v5 w17 hN Hg17.out (good_gr Hg.out)).mono ?_
      rintro e w18 ⟨xb, rfl, hxb, hb18⟩
      have E18 := Lib.hid (E17.out.below hb18); have B18 := Lib.hid (B17.out.below hb18); have V18 := Lib.hid (V17.out.below hb18); have Hg18 := Lib.hid (Hg17.out.below hb18); have X18 := Lib.hid hxb.edges
      clear hb18 hxb cn
      go_wp2_with fail
      refine (rpairs_any _ _ _ _ w18 B18.out.edges X18.out).mono ?_
      rintro e w19 ⟨rfl, hb19⟩
      rw [decide_eq_true HL.out]
      have E19 := Lib.hid (E18.out.below hb19); have V19 := Lib.hid (V18.out.below hb19); have Hg19 := Lib.hid (Hg18.out.below hb19)
      clear hb19
      go_wp2_with fail
      refine (rcuts_any N (adj l) v5 w19 hN Hg19.out).mono ?_
      rintro e w20 ⟨xc, rfl, hxc, hb20⟩
      rw [show cutTo N (adj l) N = VL from HVL.out] at hxc
      have E20 := Lib.hid (E19.out.below hb20); have V20 := Lib.hid (V19.out.below hb20); have X20 := Lib.hid (IsInts.owned hxc)
      clear hb20 hxc
      go_wp2_with fail
      refine (ints_any _ _ _ _ w20 V20.out X20.out).mono ?_
      rintro e w21 ⟨rfl, hd21⟩
      rw [decide_eq_true rfl]
      have E21 := Lib.hid (E20.out.below hd21.below)
      clear hd21
      go_wp2
      go_ret
      exact ⟨rfl, E21.out.hb⟩
  · have q : (c == 0) = false := by simp [hc]
    have q2 : (c != 0) = true := by simp [hc]
    have Hc := Lib.hid hc
    clear hc
    go_wp2_with fail
    refine (pcomponents_bad Hsp.out Hc.out _ _ E6.out.ho).mono ?_
    rintro e w7 ⟨rfl, hb7⟩
    have b8 := upp9 hb7 (below1 w7 (Obj.cells #[.int .i64 c, .int .i64 a] 27))
    have E8 := Lib.hid (E6.out.below b8); have F8 := Lib.hid (F6.out.below b8)
    have G8 := Lib.hid (FV.new w7 c a)
    clear on os cn cs hb7 b8 f0 f1 f2 f3 f4
    go_upto_region 4 with fail
    generalize w7.alloc (Obj.cells #[.int .i64 c, .int .i64 a] 27) = w8 at *
    generalize w7.heap.size = Q1 at *
    have on := E8.out.on
    have os := E8.out.os
    go_wp2_with fail
    refine (pbridges_bad Hsp.out Hc.out _ _ E8.out.ho).mono ?_
    rintro e w9 ⟨rfl, hb9⟩
    have b10 := upp9 hb9 (below1 w9 (Obj.cells #[.int .i64 c, .int .i64 a] 27))
    have E10 := Lib.hid (E8.out.below b10); have F10 := Lib.hid (F8.out.below b10); have G10 := Lib.hid (G8.out.below b10)
    have H10 := Lib.hid (FV.new w9 c a)
    clear on os hb9 b10 E8 F8 G8
    go_upto_region 5 with fail
    generalize w9.alloc (Obj.cells #[.int .i64 c, .int .i64 a] 27) = w10 at *
    generalize w9.heap.size = Q2 at *
    have on := E10.out.on
    have os := E10.out.os
    go_wp2_with fail
    refine (pcuts_bad Hsp.out Hc.out _ _ E10.out.ho).mono ?_
    rintro e w11 ⟨rfl, hb11⟩
    have b12 := upp9 hb11 (below1 w11 (Obj.cells #[.int .i64 c, .int .i64 a] 27))
    have E12 := Lib.hid (E10.out.below b12); have F12 := Lib.hid (F10.out.below b12); have G12 := Lib.hid (G10.out.below b12); have H12 := Lib.hid (H10.out.below b12)
    have K12 := Lib.hid (FV.new w11 c a)
    clear on os hb11 b12 E10 F10 G10 H10
    go_upto_region 6 with fail
    generalize w11.alloc (Obj.cells #[.int .i64 c, .int .i64 a] 27) = w12 at *
    generalize w11.heap.size = Q3 at *
    go_wp2_with fail
    refine (partsBegun_any w12).mono ?_
    rintro e w13 ⟨rfl, hb13⟩
    have E13 := Lib.hid (E12.out.below hb13); have F13 := Lib.hid (F12.out.below hb13); have G13 := Lib.hid (G12.out.below hb13); have H13 := Lib.hid (H12.out.below hb13); have K13 := Lib.hid (K12.out.below hb13)
    clear hb13 E12 F12 G12 H12 K12
    have on := E13.out.on
    have os := E13.out.os
    have cn := E13.out.cn
    have cs := E13.out.cs
    obtain ⟨h0, h1, -, -, -⟩ := F13.out.facts
    obtain ⟨g0, g1, -, -, -⟩ := G13.out.facts
    obtain ⟨j0, j1, -, -, -⟩ := H13.out.facts
    obtain ⟨k0, k1, -, -, -⟩ := K13.out.facts
    go_wp2_with fail
    refine (kept_is (r := true) (by simp) _ _ w13 E13.out.ho E13.out.he).mono ?_
    rintro e w14 ⟨rfl, hb14⟩
    have E14 := Lib.hid (E13.out.below hb14); have F14 := Lib.hid (F13.out.below hb14)
    clear hb14 on os cn cs h0 h1 g0 g1 j0 j1 k0 k1 E13 F13 G13 H13 K13
    obtain ⟨h0, h1, -, -, -⟩ := F14.out.facts
    go_wp2
    go_ret
    exact ⟨rfl, E14.out.hb⟩

end Go.Proofs.Ytmhcnekbfngafaa
