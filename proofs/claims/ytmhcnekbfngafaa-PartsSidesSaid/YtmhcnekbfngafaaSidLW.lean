/- arborlaw.PartsSides answers true: the walk. -/
import Derived.Test.YtmhcnekbfngafaaBow
import Derived.Test.YtmhcnekbfngafaaPE
import Derived.Test.YtmhcnekbfngafaaPF
import Derived.Test.YtmhcnekbfngafaaGOwn
import Derived.Test.YtmhcnekbfngafaaGridOf
namespace Go.Proofs.Ytmhcnekbfngafaa
open Go Go.RowKit

theorem upp9 {a b c : World} (h : Below a.heap.size a b) (k : Below b.heap.size b c) : Below a.heap.size a c := h.trans (k.mono h.size)
set_option maxHeartbeats 1600000 in
set_option maxRecDepth 100000 in
theorem sidesLaw_any (n : Int) (l : List (Int × Int)) (hl : l.length * 16 ≤ 140737488351232) (sv : Value) (w : World) (h : IsEdges w sv l) :
    Calls Try.prog 8 #[.agg #[.int .i64 n, sv]] w fun e w' => e = .returned (.bool true) ∧ Below w.heap.size w w' := by
  obtain ⟨ad, cap, rfl⟩ := h.form
  have hb1 := below1 w (Obj.cells #[.int .i64 n, .slice ad l.length cap] 24)
  have c0 := two_cells w (.int .i64 n) (.slice ad l.length cap) 24
  have cn := c0.1
  have cs := c0.2
  have he := h.below hb1
  have H0 := Lib.hid h
  clear c0 h
  go_enter Try.func8, Try.ntmps8
  go_upto_region 1 with fail
  generalize w.alloc (Obj.cells #[.int .i64 n, .slice ad l.length cap] 24) = w1 at *
  have Cn := Lib.hid (And.intro cn cs); have He := Lib.hid he; have Hb1 := Lib.hid hb1
  clear he hb1
  go_wp2_with fail
  refine (own_any l n (.slice ad l.length cap) _ He.out hl).mono ?_
  rintro e w2 ⟨v2, rfl, ho2, hb2⟩
  obtain ⟨a2, c2, rfl⟩ := ho2.form
  have hb3 := upp9 hb2 (below1 w2 (Obj.cells #[.int .i64 n, .slice a2 l.length c2] 24))
  have o0 := two_cells w2 (.int .i64 n) (.slice a2 l.length c2) 24
  have E3 := Lib.hid (show LB w (w2.alloc (Obj.cells #[.int .i64 n, .slice a2 l.length c2] 24)) n (.slice ad l.length cap) (.slice a2 l.length c2) l w2.heap.size from ⟨Hb1.out.trans (hb3.mono Hb1.out.size), below_cell hb3 Cn.out.1, below_cell hb3 Cn.out.2, o0.1, o0.2, He.out.below hb3, ho2.edges.below (below1 w2 _)⟩)
  have Ho3 := Lib.hid (ho2.below (below1 w2 (Obj.cells #[.int .i64 n, .slice a2 l.length c2] 24)))
  have Hlt := Lib.hid (show ∀ g, (Value.slice a2 l.length c2).ownBlock = some g → g < w2.heap.size from fun g e => (World.ownsRow.lt ho2 g e).2)
  have lB := Nat.lt_of_lt_of_le (show w.heap.size < w1.heap.size from World.block_lt_of_cell? _ _ cn) hb2.size
  clear cn cs ho2 hb2 hb3 o0 He Hb1 Cn
  go_upto_region 2 with fail
  generalize w2.alloc (Obj.cells #[.int .i64 n, .slice a2 l.length c2] 24) = w3 at *
  generalize w2.heap.size = B at *
  have cn := E3.out.cn
  have cs := E3.out.cs
  go_wp2_with fail
  refine (rcheck_any l n _ _ E3.out.he).mono ?_
  rintro e w5 ⟨c, a, hsp, rfl, hb5⟩
  have Hsp := Lib.hid hsp
  have F6 := Lib.hid (FV.new w5 c a)
  have E6 := Lib.hid (E3.out.below (upp9 hb5 (below1 w5 (Obj.cells #[.int .i64 c, .int .i64 a] 27))))
  have lC : B < w5.heap.size := Nat.lt_of_lt_of_le (World.block_lt_of_cell? _ _ E3.out.on) hb5.size
  have Ho6 := Lib.hid (Ho3.out.below (upp9 hb5 (below1 w5 (Obj.cells #[.int .i64 c, .int .i64 a] 27))))
  clear hsp hb5 cn cs
  go_upto_region 3 with fail
  generalize w5.alloc (Obj.cells #[.int .i64 c, .int .i64 a] 27) = w6 at *
  generalize w5.heap.size = C at *
  have on := E6.out.on
  have os := E6.out.os
  have cn := E6.out.cn
  have cs := E6.out.cs
  obtain ⟨f0, f1, f2, f3, f4⟩ := F6.out.facts
  by_cases hc : c = 0
  · subst hc
    obtain ⟨hgood, rfl⟩ := Hsp.out.good
    have hn0 := hgood.lo
    have hn1 := hgood.hi
    obtain ⟨N, rfl⟩ := Int.eq_ofNat_of_zero_le hn0
    have Hg := Lib.hid hgood
    clear hgood
    have hN : N ≤ 100 := by omega
    have Hok := Lib.hid (show ∀ j, j < l.length → EndsOk (N : Int) (l.getD j (0, 0)) ∧ (l.getD j (0, 0)).1 ≠ (l.getD j (0, 0)).2 from fun j hj => ⟨(Hg.out.fine j hj).1, (Hg.out.fine j hj).2.1⟩)
    go_wp2_with fail
    refine (psides_ok Hg.out _ _ E6.out.ho).mono ?_
    rintro e w10 ⟨hb10, hpost⟩
    rcases hpost with ⟨b, S, Fr, P, D, R, rfl, hlob, hrb, hi⟩ | ⟨v, m, rfl, hov, hro, hodd⟩
    · have hprop := hi.proper (Nat.le_refl _)
      have hlead : ∀ r, r < N → ldB (conB N (adj l)) r = true → S r = 0 := fun r hr hl => hi.t.least (fun i j _ _ => adj_sy l i j) hr (hi.all r hr) hl
      have HS := Lib.hid hprop; have HL := Lib.hid hlead
      have hi10 := IsInts.ofRow (f := S) hrb (by omega)
      clear hprop hlead hi hrb hlob
      clear f0 f1 f2 f3 f4
      have b11 := upp9 hb10 (below1 w10 (Obj.cells #[.int .i64 0, .int .i64 0] 27))
      have E11 := Lib.hid (E6.out.below b11)
      have F11 := Lib.hid (F6.out.below b11)
      have G11 := Lib.hid (FV.new w10 0 0)
      have I11 := Lib.hid (hi10.below (below1 w10 (Obj.cells #[.int .i64 0, .int .i64 0] 27)))
      clear on os cn cs hb10 b11 hi10
      go_upto_region 4 with fail
      generalize w10.alloc (Obj.cells #[.int .i64 0, .int .i64 0] 27) = w11 at *
      generalize w10.heap.size = Dd at *
      go_wp2_with fail
      refine (partsBegun_any w11).mono ?_
      rintro e w12 ⟨rfl, hb12⟩
      have E12 := Lib.hid (E11.out.below hb12); have F12 := Lib.hid (F11.out.below hb12); have G12 := Lib.hid (G11.out.below hb12); have I12 := Lib.hid (I11.out.below hb12)
      clear hb12 E11 F11 G11 I11
      have on := E12.out.on
      have os := E12.out.os
      have cn := E12.out.cn
      have cs := E12.out.cs
      obtain ⟨h0, h1, -, -, -⟩ := F12.out.facts
      obtain ⟨g0, g1, -, -, -⟩ := G12.out.facts
      go_wp2_with fail
      refine (kept_is (r := true) (by simp) _ _ w12 E12.out.ho E12.out.he).mono ?_
      rintro e w13 ⟨rfl, hb13⟩
      have E13 := Lib.hid (E12.out.below hb13); have F13 := Lib.hid (F12.out.below hb13); have I13 := Lib.hid (I12.out.below hb13)
      clear hb13 on os cn cs h0 h1 g0 g1 E12 F12 G12 I12
      obtain ⟨h0, h1, -, -, -⟩ := F13.out.facts
      have cn := E13.out.cn
      have cs := E13.out.cs
      go_wp2_with fail
      refine (gridOf_any l N _ _ E13.out.he hN Hok.out).mono ?_
      rintro e w14 ⟨v5, rfl, hg14, hb14⟩
      have Hg14 := Lib.hid (show HasGrid w14 v5 N (adj l) from ⟨_, hg14⟩)
      have E14 := Lib.hid (E13.out.below hb14); have I14 := Lib.hid (I13.out.below hb14)
      clear hg14 hb14 cn cs h0 h1
      go_upto_region 9 with fail
      go_wp2_with fail
      refine (rsides_any N (adj l) v5 w14 hN Hg14.out (fun i j _ _ => adj_sy l i j)).mono ?_
      rintro e w15 ⟨O, hO, hb15, hcase⟩
      have E15 := Lib.hid (E14.out.below hb15); have I15 := Lib.hid (I14.out.below hb15); have Hg15 := Lib.hid (Hg14.out.below hb15)
      clear hb15 I14 Hg14
      have hOS : ∀ q, q < N → O q = S q := fun q hq => (hO q hq).eq hq HS.out.1 HS.out.2 HL.out
      rcases hcase with ⟨b6, rfl, hr6, -⟩ | ⟨rfl, i, j, hi, hj, hg, he⟩
      · have hx15 := IsInts.ofRow (f := O) hr6 (by omega)
        have hmm : (List.range N).map S = (List.range N).map O := List.map_congr_left fun q hq => (hOS q (List.mem_range.1 hq)).symm
        have X15 := Lib.hid hx15; have Hmm := Lib.hid hmm
        clear hx15 hmm hOS hr6 hO
        go_upto_region 10 with fail
        go_wp2_with fail
        refine (ints_any _ _ _ _ w15 I15.out X15.out).mono ?_
        rintro e w16 ⟨rfl, hd16⟩
        rw [decide_eq_true Hmm.out]
        have E16 := Lib.hid (E15.out.below hd16.below)
        clear hd16
        go_wp2
        go_ret
        exact ⟨rfl, E16.out.hb⟩
      · rw [hOS i hi, hOS j hj] at he
        exact absurd he (HS.out.2 i j hi hj hg)
    · have hi10 := IsInts.owned (l := ints m) hov
      have HR := Lib.hid hro; have Hodd := Lib.hid hodd
      obtain ⟨av, cv, rfl⟩ : ∃ a c, v = .slice a m.length c := by
        obtain ⟨a, c, _, _, e, _⟩ := hi10
        rw [ints_length] at e; exact ⟨a, c, e⟩
      clear hov hro hodd
      clear f0 f1 f2 f3 f4
      have b11 := upp9 hb10 (below1 w10 (Obj.cells #[.int .i64 0, .int .i64 0] 27))
      have E11 := Lib.hid (E6.out.below b11)
      have F11 := Lib.hid (F6.out.below b11)
      have G11 := Lib.hid (FV.new w10 0 0)
      have I11 := Lib.hid (hi10.below (below1 w10 (Obj.cells #[.int .i64 0, .int .i64 0] 27)))
      clear on os cn cs hb10 b11 hi10
      go_upto_region 4 with fail
      generalize w10.alloc (Obj.cells #[.int .i64 0, .int .i64 0] 27) = w11 at *
      generalize w10.heap.size = Dd at *
      go_wp2_with fail
      refine (partsBegun_any w11).mono ?_
      rintro e w12 ⟨rfl, hb12⟩
      have E12 := Lib.hid (E11.out.below hb12); have F12 := Lib.hid (F11.out.below hb12); have G12 := Lib.hid (G11.out.below hb12); have I12 := Lib.hid (I11.out.below hb12)
      clear hb12 E11 F11 G11 I11
      have on := E12.out.on
      have os := E12.out.os
      have cn := E12.out.cn
      have cs := E12.out.cs
      obtain ⟨h0, h1, -, -, -⟩ := F12.out.facts
      obtain ⟨g0, g1, -, -, -⟩ := G12.out.facts
      go_wp2_with fail
      refine (kept_is (r := true) (by simp) _ _ w12 E12.out.ho E12.out.he).mono ?_
      rintro e w13 ⟨rfl, hb13⟩
      have E13 := Lib.hid (E12.out.below hb13); have F13 := Lib.hid (F12.out.below hb13); have I13 := Lib.hid (I12.out.below hb13)
      clear hb13 on os cn cs h0 h1 g0 g1 E12 F12 G12 I12
      obtain ⟨h0, h1, -, -, -⟩ := F13.out.facts
      have cn := E13.out.cn
      have cs := E13.out.cs
      go_wp2_with fail
      refine (gridOf_any l N _ _ E13.out.he hN Hok.out).mono ?_
      rintro e w14 ⟨v5, rfl, hg14, hb14⟩
      have Hg14 := Lib.hid (show HasGrid w14 v5 N (adj l) from ⟨_, hg14⟩)
      have E14 := Lib.hid (E13.out.below hb14); have I14 := Lib.hid (I13.out.below hb14)
      clear hg14 hb14 cn cs h0 h1
      go_upto_region 9 with fail
      go_wp2_with fail
      refine (rsides_any N (adj l) v5 w14 hN Hg14.out (fun i j _ _ => adj_sy l i j)).mono ?_
      rintro e w15 ⟨O, hO, hb15, hcase⟩
      have E15 := Lib.hid (E14.out.below hb15); have I15 := Lib.hid (I14.out.below hb15); have Hg15 := Lib.hid (Hg14.out.below hb15)
      clear hb15 I14 Hg14
      rcases hcase with ⟨b6, rfl, hr6, hpr⟩ | ⟨rfl, -⟩
      · exact (HR.out.bars Hodd.out (fun v hv => (hO v hv).rng) hpr).elim
      · have hml := HR.out.le
        have hrem : ((m.length : Nat) : Int).tmod 2 = 1 := by
          have := Hodd.out
          rw [Int.tmod_eq_emod_of_nonneg (by omega)]; omega
        clear hO
        go_upto_region 10 with fail
        go_wp2_with fail
        refine (rring_any N (adj l) v5 _ m w15 hN Hg15.out I15.out HR.out).mono ?_
        rintro e w16 ⟨rfl, hb16⟩
        have E16 := Lib.hid (E15.out.below hb16)
        clear hb16
        go_wp2
        go_ret
        exact ⟨rfl, E16.out.hb⟩
  · have q : (c == 0) = false := by simp [hc]
    have q2 : (c != 0) = true := by simp [hc]
    have Hc := Lib.hid hc
    clear hc
    go_wp2_with fail
    refine (psides_bad Hsp.out Hc.out _ _ E6.out.ho).mono ?_
    rintro e w10 ⟨rfl, hb10⟩
    clear f0 f1 f2 f3 f4
    have b11 := upp9 hb10 (below1 w10 (Obj.cells #[.int .i64 c, .int .i64 a] 27))
    have E11 := Lib.hid (E6.out.below b11)
    have F11 := Lib.hid (F6.out.below b11)
    have G11 := Lib.hid (FV.new w10 c a)
    clear on os cn cs hb10 b11
    go_upto_region 4 with fail
    generalize w10.alloc (Obj.cells #[.int .i64 c, .int .i64 a] 27) = w11 at *
    generalize w10.heap.size = D at *
    go_wp2_with fail
    refine (partsBegun_any w11).mono ?_
    rintro e w12 ⟨rfl, hb12⟩
    have E12 := Lib.hid (E11.out.below hb12); have F12 := Lib.hid (F11.out.below hb12); have G12 := Lib.hid (G11.out.below hb12)
    clear hb12 E11 F11 G11
    have on := E12.out.on
    have os := E12.out.os
    have cn := E12.out.cn
    have cs := E12.out.cs
    obtain ⟨h0, h1, -, -, -⟩ := F12.out.facts
    obtain ⟨g0, g1, -, -, -⟩ := G12.out.facts
    go_wp2_with fail
    refine (kept_is (r := true) (by simp) _ _ w12 E12.out.ho E12.out.he).mono ?_
    rintro e w13 ⟨rfl, hb13⟩
    have E13 := Lib.hid (E12.out.below hb13); have F13 := Lib.hid (F12.out.below hb13)
    clear hb13 on os cn cs h0 h1 g0 g1 E12 F12 G12
    obtain ⟨h0, h1, -, -, -⟩ := F13.out.facts
    go_wp2
    go_ret
    exact ⟨rfl, E13.out.hb⟩

end Go.Proofs.Ytmhcnekbfngafaa
