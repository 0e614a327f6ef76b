/- arborlaw.WidthLeast answers true: the walk. -/
import Derived.Test.YtnmljgjegodkaaaDoorWMost
import Derived.Test.YtnmljgjegodkaaaDoorWBegun
import Derived.Test.YtnmljgjegodkaaaDoorRWid
import Derived.Test.YtnmljgjegodkaaaDoorKeptS
import Derived.Test.YtnmljgjegodkaaaDoorGOwn
import Derived.Test.YtnmljgjegodkaaaDoorLBox
namespace Go.Proofs.YtnmljgjegodkaaaDoor
open Go Go.RowKit

set_option maxRecDepth 100000 in
theorem run_code (x y : Int) (w : World) : (Instr.field 27 (.agg #[.int .i64 x, .int .i64 y]) 0).run Tryd.prog w = .ok (.int .i64 x) w := by
  first | kernel_rfl | rfl | simp [Instr.run, go_sem]
theorem LeastGood.below {n : Int} {l : List (Int × Int)} {w w' : World} {wid : Int} {vb vu : Value} (h : LeastGood n l w wid vb vu) (hb : Below w.heap.size w w') : LeastGood n l w' wid vb vu := by
  obtain ⟨N, W, L, ps, h1, h2, h3, h4, h5, h6, h7, h8, h9, h10⟩ := h
  exact ⟨N, W, L, ps, h1, h2, h3, h4, h5, h6, h7, h8, h9.below hb, h10.below hb⟩

set_option maxHeartbeats 1600000 in
set_option maxRecDepth 100000 in
theorem wleastLaw_any (n : Int) (l : List (Int × Int)) (hl : l.length * 16 ≤ 140737488351232) (sv : Value) (w : World) (h : IsEdges w sv l) (hT : TabAt 1 Lib.deBruijn64tab w) :
    Calls Tryd.prog 3 #[.agg #[.int .i64 n, sv]] w fun e w' => e = .returned (.bool true) ∧ Below w.heap.size w w' := by
  have HT := Lib.hid hT
  clear hT
  obtain ⟨ad, cap, rfl⟩ := h.form
  have hb1 := below1 w (Obj.cells #[.int .i64 n, .slice ad l.length cap] 24)
  have c0 := two_cells w (.int .i64 n) (.slice ad l.length cap) 24
  have cn := c0.1
  have cs := c0.2
  have he := h.below hb1
  clear c0 h
  go_enter Tryd.func3, Tryd.ntmps3
  go_upto_region 1 with fail
  generalize w.alloc (Obj.cells #[.int .i64 n, .slice ad l.length cap] 24) = w1 at *
  have Cn := Lib.hid (And.intro cn cs); have He := Lib.hid he; have Hb1 := Lib.hid hb1
  clear he hb1
  go_wp2_with fail
  refine (own_any l n (.slice ad l.length cap) _ He.out hl).mono ?_
  rintro e w2 ⟨v2, rfl, ho2, hb2⟩
  obtain ⟨a2, c2, rfl⟩ := ho2.form
  have hb3 := upc hb2 (below1 w2 (Obj.cells #[.int .i64 n, .slice a2 l.length c2] 24))
  have o0 := two_cells w2 (.int .i64 n) (.slice a2 l.length c2) 24
  have E3 := Lib.hid (show LB w (w2.alloc (Obj.cells #[.int .i64 n, .slice a2 l.length c2] 24)) n (.slice ad l.length cap) (.slice a2 l.length c2) l w2.heap.size from ⟨Hb1.out.trans (hb3.mono Hb1.out.size), below_cell hb3 Cn.out.1, below_cell hb3 Cn.out.2, o0.1, o0.2, He.out.below hb3, ho2.edges.below (below1 w2 _)⟩)
  clear cn cs ho2 hb2 hb3 o0 He Hb1 Cn
  go_upto_region 2 with fail
  generalize w2.alloc (Obj.cells #[.int .i64 n, .slice a2 l.length c2] 24) = w3 at *
  generalize w2.heap.size = B at *
  have cn := E3.out.cn
  have cs := E3.out.cs
  go_wp2_with fail
  refine (smallFault_any n 12 l _ _ E3.out.he).mono ?_
  rintro e w5 ⟨c, a, hsp, rfl, hb5⟩
  have Hsp := Lib.hid hsp
  have F6 := Lib.hid (FV.new w5 c a)
  have E6 := Lib.hid (E3.out.below (upc hb5 (below1 w5 (Obj.cells #[.int .i64 c, .int .i64 a] 27))))
  clear hsp hb5 cn cs
  go_upto_region 3 with fail
  generalize w5.alloc (Obj.cells #[.int .i64 c, .int .i64 a] 27) = w6 at *
  generalize w5.heap.size = C at *
  have on := E6.out.on
  have os := E6.out.os
  go_wp2_with fail
  refine (wleast_any n l _ _ E6.out.ho (TabAt.below (g := 1) HT.out E6.out.hb)).mono ?_
  rintro e w10 ⟨c', a', wid, vb, vu, rfl, hsp', hb10, hres⟩
  obtain ⟨e1, e2⟩ := SmallSpec.uniq Hsp.out hsp'
  subst e1
  subst e2
  have b11 := upc hb10 (below1 w10 (Obj.cells #[.int .i64 c, .int .i64 a] 27))
  have E11 := Lib.hid (E6.out.below b11)
  have F11 := Lib.hid (F6.out.below b11)
  have G11 := Lib.hid (FV.new w10 c a)
  have R11 := Lib.hid (show (c ≠ 0 ∧ wid = 0 ∧ vb = .slice none 0 0 ∧ vu = .slice none 0 0) ∨ (c = 0 ∧ a = 0 ∧ LeastGood n l (w10.alloc (Obj.cells #[.int .i64 c, .int .i64 a] 27)) wid vb vu) from by
    rcases hres with h | ⟨h1, h2, h3⟩
    · exact Or.inl h
    · exact Or.inr ⟨h1, h2, h3.below (below1 _ _)⟩)
  clear on os hb10 hsp' hres b11 E6 F6
  go_upto_region 4 with fail
  generalize w10.alloc (Obj.cells #[.int .i64 c, .int .i64 a] 27) = w11 at *
  generalize w10.heap.size = D at *
  go_wp2_with fail
  refine (widthBegun_any _ (TabAt.below (g := 1) HT.out E11.out.hb)).mono ?_
  rintro e w12 ⟨rfl, hb12⟩
  have Hb12 := Lib.hid hb12
  have E12 := Lib.hid (E11.out.below hb12); have F12 := Lib.hid (F11.out.below hb12); have G12 := Lib.hid (G11.out.below hb12)
  clear hb12 F11 G11
  have on := E12.out.on
  have os := E12.out.os
  have cn := E12.out.cn
  have cs := E12.out.cs
  obtain ⟨f0, f1, -, -, -⟩ := F12.out.facts
  obtain ⟨g0, g1, -, -, -⟩ := G12.out.facts
  go_wp2_with fail
  refine (kept_is (decide_eq_true ⟨rfl, rfl⟩) _ _ _ E12.out.ho E12.out.he).mono ?_
  rintro e w13 ⟨rfl, hb13⟩
  have E13 := Lib.hid (E12.out.below hb13); have F13 := Lib.hid (F12.out.below hb13)
  have Hb13 := Lib.hid (upc Hb12.out hb13)
  clear hb13 E12 F12 G12 Hb12 on os cn cs f0 f1 g0 g1
  obtain ⟨f0, f1, -, -, -⟩ := F13.out.facts
  have cn := E13.out.cn
  have cs := E13.out.cs
  by_cases hz : c = 0
  · subst hz
    obtain ⟨rfl, hn0, hn1, hl2, hok⟩ := small_good Hsp.out
    obtain ⟨N, W, L, ps, rfl, hN12, hO, hW, hm, hwid, hpl, hps, hrb, hru⟩ : LeastGood n l w13 wid vb vu := by
      rcases R11.out with ⟨h, -⟩ | ⟨-, -, h⟩
      · exact absurd rfl h
      · exact h.below Hb13.out
    have Hok := Lib.hid hok; have HO := Lib.hid hO; have HW := Lib.hid hW; have Hm := Lib.hid hm; have Hrb := Lib.hid hrb; have Hru := Lib.hid hru
    have HG := Lib.hid (show Gr N (adj l) from ⟨fun i j _ _ => adj_sy l i j, fun i _ => adj_self (fun j hj => (hok j hj).2) i⟩)
    have Hov := Lib.hid (least_over (L := L) HG.out hok hO hpl hps)
    have Hgs := Lib.hid (show GraphSpec (N : Int) l 0 0 from by
      rcases Hsp.out with ⟨_, h⟩ | ⟨h, _⟩
      · exact absurd rfl h
      · exact h)
    have Hfs := Lib.hid (least_fits (L := L) Hgs.out hN12 hpl)
    have Hmo := Lib.hid (most_least hO hW)
    have hul : (ps.map (upI N)).length = (bagsL N (adj l) L).length := by simp [hpl]
    have Hul := Lib.hid hul
    have HFc := Lib.hid (fitsFault_any (N : Int) l _ _ _ _ _ w13 E13.out.he hrb hru)
    have Hwid := Lib.hid hwid
    clear hok hO hW hm hps hrb hru R11 hul hwid hpl hn0 hn1 hl2
    go_wp2_with fail
    apply Calls.mono HFc.out
    rintro e w14 ⟨c2, a2, hfs, rfl, hb14⟩
    obtain ⟨e1, e2⟩ := FitsSpec.uniq hfs Hfs.out
    subst e1
    subst e2
    have E14 := Lib.hid (E13.out.below hb14)
    have Hrb14 := Lib.hid (Hrb.out.below hb14)
    have Hru14 := Lib.hid (Hru.out.below hb14)
    have hfc := run_code 0 0 w14
    clear hfs hb14 f0 f1 cn cs Hrb Hru
    have cn := E14.out.cn
    have cs := E14.out.cs
    go_wp2_with fail
    refine (over_any N l (bagsL N (adj l) L) (ps.map (upI N)) _ _ _ _ E14.out.he Hrb14.out Hru14.out (by omega) Hok.out (by simp; omega) Hul.out).mono ?_
    rintro e w15 ⟨bo, hbo, rfl, hb15⟩
    obtain rfl : bo = true := hbo.2 Hov.out
    have E15 := Lib.hid (E14.out.below hb15)
    have Hrb15 := Lib.hid (Hrb14.out.below hb15)
    clear hbo hb15 cn cs Hrb14 Hru14
    have cn := E15.out.cn
    have cs := E15.out.cs
    go_wp2_with fail
    refine (mostOf_any _ _ _ Hrb15.out).mono ?_
    rintro e w16 ⟨rfl, rfl⟩
    rw [Hmo.out, ← Hwid.out]
    clear Hrb15
    obtain ⟨wv, hwv⟩ : ∃ wv : Int, wv = wid := ⟨_, rfl⟩
    by_cases h6 : 6 < (N : Int)
    · go_wp2
      go_ret
      exact ⟨rfl, E15.out.hb⟩
    · have Hgo := Lib.hid (gridOf_any l N _ w15 E15.out.he (by omega) Hok.out)
      go_wp2_with fail
      apply Calls.mono Hgo.out
      rintro e w17 ⟨gv, rfl, hg17, hb17⟩
      have HG17 := Lib.hid (show HasGrid w17 gv N (adj l) from ⟨_, hg17⟩)
      have E17 := Lib.hid (E15.out.below hb17)
      clear hg17 hb17
      have Hrw := Lib.hid (rwidth_any (by omega) HG.out HO.out HW.out Hm.out gv w17 HG17.out)
      go_wp2_with fail
      apply Calls.mono Hrw.out
      rintro e w18 ⟨rfl, hb18⟩
      rw [← Hwid.out]
      have E18 := Lib.hid (E17.out.below hb18)
      go_wp2
      go_ret
      exact ⟨rfl, E18.out.hb⟩
  · have hcb : (c != 0) = true := by simp [hz]
    obtain ⟨hw0, hvb, hvu⟩ : wid = 0 ∧ vb = .slice none 0 0 ∧ vu = .slice none 0 0 := by
      rcases R11.out with ⟨-, h⟩ | ⟨h, -⟩
      · exact h
      · exact absurd h hz
    subst hw0 hvb hvu
    clear R11
    go_wp2
    go_ret
    exact ⟨rfl, E13.out.hb⟩
end Go.Proofs.YtnmljgjegodkaaaDoor
