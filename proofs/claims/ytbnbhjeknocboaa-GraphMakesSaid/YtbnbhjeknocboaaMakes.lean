/- arborlaw.GraphMakes answers true. (Printed by tools/genmakes.py.) -/
import Derived.Test.YtbnbhjeknocboaaMakesP
import Derived.Test.YtbnbhjeknocboaaOf
namespace Go.Proofs.Ytbnbhjeknocboaa
open Go.RowKit

theorem eg_makes1 : ∀ args w, (callFunc 17 args).run Try.prog w = .ok (.enter 17 args) w := enters_of Try.func17 (by kernel_rfl) rfl
theorem eg_makes2 : ∀ args w, (callFunc 21 args).run Try.prog w = .ok (.enter 21 args) w := enters_of Try.func21 (by kernel_rfl) rfl
theorem eg_makes3 : ∀ args w, (callFunc 23 args).run Try.prog w = .ok (.enter 23 args) w := enters_of Try.func23 (by kernel_rfl) rfl

set_option maxHeartbeats 6400000 in
set_option maxRecDepth 100000 in
theorem makes_any (n : Int) (l : List (Int × Int)) (m : List Int) (hl : l.length * 16 ≤ 140737488351232) (hml : m.length * 8 ≤ 140737488351232) (s u : Value) (w : World) (h : IsEdges w s l) (hm : IsInts w u m) :
    Calls Try.prog 3 #[.agg #[.int .i64 n, s], u] w fun e w' => e = .returned (.bool true) ∧ Below w.heap.size w w' := by
  obtain ⟨ad, cap, rfl⟩ := h.form
  obtain ⟨wa, wk, wb, wo, rfl, hwcap, hwmax, hwadr, -, -⟩ := id hm
  obtain ⟨c, a, hs⟩ := GraphSpec.ex n l
  obtain ⟨N1, L1, c1, d1, h1⟩ := GSpec.ex n l (ComplR.ex l)
  obtain ⟨N2, L2, c2, d2, h2⟩ := GSpec.ex n l (LineR.ex l)
  obtain ⟨N3, L3, c3, d3, h3⟩ := GSpec.ex n l (IndR.ex l m)
  have Hs := Lib.hid hs; have H1 := Lib.hid h1; have H2 := Lib.hid h2; have H3 := Lib.hid h3
  have hb1 := below2 w (Obj.cells #[.int .i64 n, .slice ad l.length cap] 24) (Obj.cells #[.slice wa m.length wk] 25)
  have c0 := two_cells w (.int .i64 n) (.slice ad l.length cap) 24
  have cn := below_cell (below1 _ (Obj.cells #[.slice wa m.length wk] 25)) c0.1
  have cs := below_cell (below1 _ (Obj.cells #[.slice wa m.length wk] 25)) c0.2
  have ru := one_row (w.alloc (Obj.cells #[.int .i64 n, .slice ad l.length cap] 24)) (.slice wa m.length wk) 25
  rw [World.size_alloc] at ru
  have cu := ru.cell (show 0 < 1 by omega)
  have lu := ru.lt
  have lg : w.heap.size < ((w.alloc (Obj.cells #[.int .i64 n, .slice ad l.length cap] 24)).alloc (Obj.cells #[.slice wa m.length wk] 25)).heap.size := by simp; omega
  have he := h.below hb1
  have hu := hm.below hb1
  clear c0 h hm hs h1 h2 h3 ru
  go_enter Try.func3, Try.ntmps3
  go_upto_region 1 with fail
  generalize (w.alloc (Obj.cells #[.int .i64 n, .slice ad l.length cap] 24)).alloc (Obj.cells #[.slice wa m.length wk] 25) = w1 at *
  have Cn := Lib.hid (And.intro cn (And.intro cs cu)); have He := Lib.hid he; have Hu := Lib.hid hu; have Hb1 := Lib.hid hb1
  clear he hu hb1
  go_wp2_with fail
  refine (own_any l n (.slice ad l.length cap) _ He.out hl).mono ?_
  rintro e w2 ⟨v2, rfl, ho2, hb2⟩
  obtain ⟨a2, c2', rfl⟩ := ho2.form
  have b3 := upb hb2 (below1 w2 (Obj.cells #[.int .i64 n, .slice a2 l.length c2'] 24))
  have V3 := Lib.hid (VarG.new (n := n) 24 ho2.edges)
  have Hb3 := Lib.hid b3
  have hu3 := Hu.out.below b3
  have cu := below_cell b3 Cn.out.2.2
  have lu := Nat.lt_of_lt_of_le lu b3.size
  clear cn cs ho2 hb2 b3
  go_upto_region 2 with fail
  generalize w2.alloc (Obj.cells #[.int .i64 n, .slice a2 l.length c2'] 24) = w3 at *
  generalize w2.heap.size = B at *
  go_upto_region 3 with (at_builtin; refine wpList_append_has rfl (.const (.slice none 0 0)) (.tmp 20) 25 rfl w3.heap.size 3 (.int .i64 0) 8 Try.underlying25 info3 rfl _ 0 [] rfl (World.ownsRow_nil _ _ _ _) _ m.length (m.map (Value.int .i64)) rfl hu3.cells (by omega) (by omega) (by omega) ?_; intro a4 c4 w4 hown4 hg4; simp only [Nat.zero_add, List.nil_append] at hown4; have hb4 := below_grown0 hg4; have hu4 := IsInts.owned hown4; have E4 := Lib.hid (show ME w w4 n (.slice ad l.length cap) l (.slice wa m.length wk) m B (.slice a2 l.length c2') (.slice a4 m.length c4) from ⟨Hb1.out.trans ((upb Hb3.out hb4).mono Hb1.out.size), below_cell (upb Hb3.out hb4) Cn.out.1, below_cell (upb Hb3.out hb4) Cn.out.2.1, below_cell (upb Hb3.out hb4) Cn.out.2.2, V3.out.below hb4, He.out.below (upb Hb3.out hb4), hu3.below hb4, hu4⟩); clear hown4 hg4 hb4 hu4)
  clear hu3 Hu He V3 Cn Hb1 Hb3 cu lu lg
  obtain ⟨u0, u1, u2, u3, u4, u5, u6, u7⟩ := E4.out.facts
  go_wp2_with fail
  refine (rcheck_is Hs.out _ _ E4.out.he).mono ?_
  rintro e w5 ⟨rfl, hb5⟩
  have b6 := upb hb5 (below1 w5 (Obj.cells #[.int .i64 c, .int .i64 a] 28))
  have W6 := Lib.hid (VarF.new w5 c a 28)
  have E6 := Lib.hid (E4.out.below b6)
  clear hb5 b6 u0 u1 u2 u3 u4 u5 u6 u7
  go_upto_region 4 with fail
  generalize w5.alloc (Obj.cells #[.int .i64 c, .int .i64 a] 28) = w6 at *
  generalize w5.heap.size = PF at *
  obtain ⟨u0, u1, u2, u3, u4, u5, u6, u7⟩ := E6.out.facts
  go_wp2_with fail
  refine (complement_is H1.out _ _ E6.out.own.he).mono ?_
  rintro e w7 ⟨v7, ho7, hb7, rfl⟩
  obtain ⟨a7, c7, rfl⟩ := ho7.form
  have b8 := below2 w7 (Obj.cells #[.int .i64 N1, .slice a7 L1.length c7] 24) (Obj.cells #[.int .i64 c1, .int .i64 d1] 28)
  have X18 := Lib.hid ((VarG.new (n := N1) 24 ho7.edges).below (below1 _ (Obj.cells #[.int .i64 c1, .int .i64 d1] 28)))
  have f8 := VarF.new (w7.alloc (Obj.cells #[.int .i64 N1, .slice a7 L1.length c7] 24)) c1 d1 28
  rw [World.size_alloc] at f8
  have F18 := Lib.hid f8
  have E8 := Lib.hid (E6.out.below (upb hb7 b8))
  have W8 := Lib.hid (W6.out.below (upb hb7 b8))
  clear u0 u1 u2 u3 u4 u5 u6 u7 f8 b8 hb7 ho7
  go_upto_region 5 with fail
  generalize (w7.alloc (Obj.cells #[.int .i64 N1, .slice a7 L1.length c7] 24)).alloc (Obj.cells #[.int .i64 c1, .int .i64 d1] 28) = w8 at *
  generalize w7.heap.size = P1 at *
  obtain ⟨u0, u1, u2, u3, u4, u5, u6, u7⟩ := E8.out.facts
  go_wp2_with fail
  refine (line_is H2.out _ _ E8.out.own.he).mono ?_
  rintro e w9 ⟨v9, ho9, hb9, rfl⟩
  obtain ⟨a9, c9, rfl⟩ := ho9.form
  have b10 := below2 w9 (Obj.cells #[.int .i64 N2, .slice a9 L2.length c9] 24) (Obj.cells #[.int .i64 c2, .int .i64 d2] 28)
  have X210 := Lib.hid ((VarG.new (n := N2) 24 ho9.edges).below (below1 _ (Obj.cells #[.int .i64 c2, .int .i64 d2] 28)))
  have f10 := VarF.new (w9.alloc (Obj.cells #[.int .i64 N2, .slice a9 L2.length c9] 24)) c2 d2 28
  rw [World.size_alloc] at f10
  have F210 := Lib.hid f10
  have E10 := Lib.hid (E8.out.below (upb hb9 b10))
  have W10 := Lib.hid (W8.out.below (upb hb9 b10))
  have X110 := Lib.hid (X18.out.below (upb hb9 b10))
  have F110 := Lib.hid (F18.out.below (upb hb9 b10))
  clear u0 u1 u2 u3 u4 u5 u6 u7 f10 b10 hb9 ho9
  go_upto_region 6 with fail
  generalize (w9.alloc (Obj.cells #[.int .i64 N2, .slice a9 L2.length c9] 24)).alloc (Obj.cells #[.int .i64 c2, .int .i64 d2] 28) = w10 at *
  generalize w9.heap.size = P2 at *
  obtain ⟨u0, u1, u2, u3, u4, u5, u6, u7⟩ := E10.out.facts
  go_wp2_with fail
  refine (induced_is H3.out _ _ _ E10.out.own.he E10.out.hu2).mono ?_
  rintro e w11 ⟨v11, ho11, hb11, rfl⟩
  obtain ⟨a11, c11, rfl⟩ := ho11.form
  have b12 := below2 w11 (Obj.cells #[.int .i64 N3, .slice a11 L3.length c11] 24) (Obj.cells #[.int .i64 c3, .int .i64 d3] 28)
  have X312 := Lib.hid ((VarG.new (n := N3) 24 ho11.edges).below (below1 _ (Obj.cells #[.int .i64 c3, .int .i64 d3] 28)))
  have f12 := VarF.new (w11.alloc (Obj.cells #[.int .i64 N3, .slice a11 L3.length c11] 24)) c3 d3 28
  rw [World.size_alloc] at f12
  have F312 := Lib.hid f12
  have E12 := Lib.hid (E10.out.below (upb hb11 b12))
  have W12 := Lib.hid (W10.out.below (upb hb11 b12))
  have X112 := Lib.hid (X110.out.below (upb hb11 b12))
  have F112 := Lib.hid (F110.out.below (upb hb11 b12))
  have X212 := Lib.hid (X210.out.below (upb hb11 b12))
  have F212 := Lib.hid (F210.out.below (upb hb11 b12))
  clear u0 u1 u2 u3 u4 u5 u6 u7 f12 b12 hb11 ho11
  go_upto_region 7 with fail
  generalize (w11.alloc (Obj.cells #[.int .i64 N3, .slice a11 L3.length c11] 24)).alloc (Obj.cells #[.int .i64 c3, .int .i64 d3] 28) = w12 at *
  generalize w11.heap.size = P3 at *
  obtain ⟨u0, u1, u2, u3, u4, u5, u6, u7⟩ := E12.out.facts
  go_wp2_with fail
  refine (begun_any _).mono ?_
  rintro e w13 ⟨rfl, hb13⟩
  have B13 := Lib.hid hb13
  have E13 := Lib.hid (E12.out.below hb13)
  clear hb13 u0 u1 u2 u3 u4 u5 u6 u7
  obtain ⟨u0, u1, u2, u3, u4, u5, u6, u7⟩ := E13.out.facts
  go_wp2_with fail
  refine (kept_is (decide_eq_true ⟨rfl, rfl⟩) _ _ _ E13.out.own.he E13.out.he).mono ?_
  rintro e w14 ⟨rfl, hb14⟩
  have B14 := Lib.hid (upb B13.out hb14)
  have E14 := Lib.hid (E13.out.below hb14)
  clear hb14 u0 u1 u2 u3 u4 u5 u6 u7
  obtain ⟨u0, u1, u2, u3, u4, u5, u6, u7⟩ := E14.out.facts
  go_wp2_with fail
  refine (ints_is m m _ _ _ E14.out.hu2 E14.out.hu (decide_eq_true rfl)).mono ?_
  rintro e w15 ⟨rfl, hb15⟩
  have b15 := upb B14.out hb15.below
  have E15 := Lib.hid (E12.out.below b15)
  have W15 := Lib.hid (W12.out.below b15)
  have X115 := Lib.hid (X112.out.below b15)
  have F115 := Lib.hid (F112.out.below b15)
  have X215 := Lib.hid (X212.out.below b15)
  have F215 := Lib.hid (F212.out.below b15)
  have X315 := Lib.hid (X312.out.below b15)
  have F315 := Lib.hid (F312.out.below b15)
  clear hb15 b15 u0 u1 u2 u3 u4 u5 u6 u7 B13 B14
  have k0 := W15.out.c0
  have k1 := W15.out.c1
  go_upto_region 9 with fail
  by_cases hc : c = 0
  · subst hc
    obtain ⟨hg, rfl⟩ := Hs.out.good
    obtain ⟨N, rfl⟩ := Int.eq_ofNat_of_zero_le hg.lo
    obtain ⟨hr1, rfl⟩ := H1.out.good hg
    have hr2 := H2.out.good hg
    have hr3 := H3.out.good hg
    have hN : N ≤ 100 := by have := hg.hi; omega
    have hok : ∀ j, j < l.length → EndsOk (N : Int) (l.getD j (0, 0)) ∧ (l.getD j (0, 0)).1 ≠ (l.getD j (0, 0)).2 := fun j hj => ⟨(hg.fine j hj).1, (hg.fine j hj).2.1⟩
    have hflen : (formL N l).length ≤ 1000 := by have := form_length hg; have := hg.len; unfold formL; omega
    have Hok := Lib.hid hok; have R1 := Lib.hid hr1; have R2 := Lib.hid hr2; have R3 := Lib.hid hr3
    clear hok hr1 hr2 hr3 hg H1 H2 H3 Hs
    have cn := E15.out.cn
    have cs := E15.out.cs
    go_upto_region 11 with fail
    clear k0 k1
    go_wp2_with fail
    refine (gridOf_any l N _ _ E15.out.he hN Hok.out).mono ?_
    rintro e w16 ⟨v16, rfl, hg16, hb16⟩
    obtain ⟨a16, c16, rfl⟩ := HasGrid.form ⟨_, hg16⟩
    have b17 := upb hb16 (below1 w16 (Obj.cells #[.slice a16 N c16] 37))
    have T17 := Lib.hid (show (w16.alloc (Obj.cells #[.slice a16 N c16] 37)).cell? ⟨w16.heap.size, 0, none⟩ = some (.slice a16 N c16) by simp)
    have G17 := Lib.hid (HasGrid.below ⟨_, hg16⟩ (below1 w16 (Obj.cells #[.slice a16 N c16] 37)))
    have E17 := Lib.hid (E15.out.below b17)
    have X117 := Lib.hid (X115.out.below b17)
    have F117 := Lib.hid (F115.out.below b17)
    have X217 := Lib.hid (X215.out.below b17)
    have F217 := Lib.hid (F215.out.below b17)
    have X317 := Lib.hid (X315.out.below b17)
    have F317 := Lib.hid (F315.out.below b17)
    clear hg16 hb16 b17 cn cs
    go_upto_region 12 with fail
    generalize w16.alloc (Obj.cells #[.slice a16 N c16] 37) = w17 at *
    generalize w16.heap.size = T at *
    have cn := E17.out.cn
    go_wp2_with fail
    refine (small_is R1.out 17 #[.pointer (some ⟨T, 0, none⟩)] _ eg_makes1 hN (fun W i j hij hj hbW => makes1_any W (below_cell hbW T17.out) (G17.out.below hbW) (by omega) hj)).mono ?_
    rintro e w18 ⟨v18, ho18, hb18, rfl⟩
    obtain ⟨a18, c18, rfl⟩ := ho18.form
    have b19 := below2 w18 (Obj.cells #[.int .i64 N1, .slice a18 L1.length c18] 24) (Obj.cells #[.int .i64 c1, .int .i64 0] 28)
    have E18 := Lib.hid (E17.out.below hb18)
    have T18 := Lib.hid (below_cell hb18 T17.out)
    have G18 := Lib.hid (G17.out.below hb18)
    have X118 := Lib.hid (X117.out.below hb18)
    have F118 := Lib.hid (F117.out.below hb18)
    have X218 := Lib.hid (X217.out.below hb18)
    have F218 := Lib.hid (F217.out.below hb18)
    have X318 := Lib.hid (X317.out.below hb18)
    have F318 := Lib.hid (F317.out.below hb18)
    have rz := (two_row w18 (.int .i64 N1) (.slice a18 L1.length c18) 24).alloc (Obj.cells #[.int .i64 c1, .int .i64 0] 28)
    have ru := two_row (w18.alloc (Obj.cells #[.int .i64 N1, .slice a18 L1.length c18] 24)) (.int .i64 c1) (.int .i64 0) 28
    rw [World.size_alloc] at ru
    have he19 := ho18.edges.below b19
    have B19 := Lib.hid b19
    have RZ := Lib.hid rz
    have RU := Lib.hid ru
    have He19 := Lib.hid he19
    clear rz ru he19 b19 hb18 ho18 cn T17 G17 E17 X117 F117 X217 F217 X317 F317
    go_upto_region 13 with fail
    generalize (w18.alloc (Obj.cells #[.int .i64 N1, .slice a18 L1.length c18] 24)).alloc (Obj.cells #[.int .i64 c1, .int .i64 0] 28) = w19 at *
    obtain ⟨z0, z1, -, -, l0⟩ := row_facts RZ.out
    obtain ⟨y0, y1, -, -, l1⟩ := row_facts RU.out
    have X119 := Lib.hid (X118.out.below B19.out)
    have F119 := Lib.hid (F118.out.below B19.out)
    have x0 := X119.out.c0
    have x1 := X119.out.c1
    have g0 := F119.out.c0
    have g1 := F119.out.c1
    go_wp2_with fail
    refine (same_any L1 L1 N1 N1 _ _ _ X119.out.he He19.out).mono ?_
    rintro e w20 ⟨rfl, hb20⟩
    rw [decide_eq_true (show N1 = N1 ∧ L1 = L1 from ⟨rfl, rfl⟩)]
    have b20 := upb B19.out hb20
    have t20 := below_cell b20 T18.out
    have rz := RZ.out.of_block (hb20.block _ RZ.out.lt)
    have ru := RU.out.of_block (hb20.block _ RU.out.lt)
    have RZ2 := Lib.hid rz
    have RU2 := Lib.hid ru
    have B20 := Lib.hid b20
    clear rz ru b20 hb20 x0 x1 g0 g1 z0 z1 y0 y1 l0 l1 X119 F119 He19 B19 RZ RU X118 F118
    go_upto_region 15 with fail
    go_wp2_with fail
    refine (of_any N (adj l) _ _ hN (G18.out.below B20.out)).mono ?_
    rintro e w21 ⟨v21, ho21, hb21, rfl⟩
    have hLd : prsTo N (adj l) N = formL N l := rfl
    rw [hLd] at ho21
    generalize hLg : formL N l = L at *
    obtain ⟨a21, c21, rfl⟩ := ho21.form
    have b22 := upb hb21 (below1 w21 (Obj.cells #[.slice a21 L.length c21] 22))
    have t22 : (w21.alloc (Obj.cells #[.slice a21 L.length c21] 22)).cell? ⟨w21.heap.size, 0, none⟩ = some (.slice a21 L.length c21) := by simp
    have He22 := Lib.hid (ho21.edges.below (below1 w21 (Obj.cells #[.slice a21 L.length c21] 22)))
    have rz := RZ2.out.of_block (b22.block _ RZ2.out.lt)
    have ru := RU2.out.of_block (b22.block _ RU2.out.lt)
    have RZ3 := Lib.hid rz
    have RU3 := Lib.hid ru
    have B22 := Lib.hid (upb B20.out b22)
    have T22 := Lib.hid t22
    have hlv : w21.heap.size < (w21.alloc (Obj.cells #[.slice a21 L.length c21] 22)).heap.size := by simp
    clear rz ru b22 hb21 ho21 t20 t22 RZ2 RU2 B20 hLd
    have hfd := field_edges (N : Int) (.slice a21 L.length c21) w21
    go_upto_region 16 with fail
    clear hfd
    generalize w21.alloc (Obj.cells #[.slice a21 L.length c21] 22) = w22 at *
    generalize w21.heap.size = LV at *
    have t22 := T22.out
    obtain ⟨z0, z1, f0, f1, l0⟩ := row_facts RZ3.out
    obtain ⟨y0, y1, g0, g1, l1⟩ := row_facts RU3.out
    have hl18 := B22.out.size
    go_upto_if 118 with fail
    go_cut [] from 118 to 127 (fun wx => ZCut w18 w18.heap.size (w18.heap.size + 1) N2 L2 c2 d2 wx)
    case first =>
      rcases R2.out with ⟨hm1, e1, e2, e3, e4⟩ | ⟨hm1, hr2, e4⟩
      · rw [hLg] at hm1
        subst e1 e2 e3 e4
        have hm2 : (100 : Int) < (L.length : Int) := by omega
        go_wp2_with (go_at_call 20; refine (F_any _ _ _).mono ?_; rintro e wf ⟨rfl, rfl⟩)
        go_meet
        exact (ZCut.put RZ3.out RU3.out (by omega) (OwnE.nil w22 w22.heap.size) l0 l1 B22.out (Nat.le_refl _) (by omega)).below (below1 _ _)
      · rw [hLg] at hm1 hr2
        subst e4
        have hm2 : ¬ (100 : Int) < (L.length : Int) := by omega
        have Hr2 := Lib.hid hr2
        clear hr2
        go_wp2_with (go_at_call 16; refine (small_is Hr2.out 21 #[.pointer (some ⟨LV, 0, none⟩)] _ eg_makes2 hm1 (fun W i j hij hj hbW => makes2_any W (below_cell hbW T22.out) (He22.out.below hbW) (by omega) hj)).mono ?_; rintro e w23 ⟨v23, ho23, hb23, rfl⟩; obtain ⟨a23, c23, rfl⟩ := ho23.form; have rz := Lib.hid (RZ3.out.of_block (hb23.block _ RZ3.out.lt)); have ru := Lib.hid (RU3.out.of_block (hb23.block _ RU3.out.lt)); obtain ⟨p0, p1, pf0, pf1, pl0⟩ := row_facts rz.out; obtain ⟨r0, r1, rf0, rf1, rl1⟩ := row_facts ru.out; have Ho23 := Lib.hid ho23; have Hb23 := Lib.hid (upb B22.out hb23); clear hb23 ho23)
        go_meet
        exact ZCut.put rz.out ru.out (by omega) Ho23.out l0 l1 Hb23.out (Nat.le_refl _) (by omega)
    case rest =>
    obtain ⟨w24, rfl⟩ : ∃ w24 : World, w24 = wc := ⟨_, rfl⟩
    obtain ⟨az, qz, hz, hze, hu, hbz⟩ := hcut
    obtain ⟨ci, ai, hind⟩ := IndSpec.ex N m
    have Hind := Lib.hid hind
    have E24 := Lib.hid (E18.out.below hbz)
    have X224 := Lib.hid (X218.out.below hbz)
    have F224 := Lib.hid (F218.out.below hbz)
    have RZ4 := Lib.hid hz
    have RU4 := Lib.hid hu
    have He24 := Lib.hid hze
    have B24 := Lib.hid hbz
    clear z0 z1 f0 f1 l0 y0 y1 g0 g1 l1 t22 hz hze hu hbz RZ3 RU3 He22 T22 B22 hind X218 F218 hlv hl18
    obtain ⟨z0, z1, -, -, l0⟩ := row_facts RZ4.out
    obtain ⟨y0, y1, -, -, l1⟩ := row_facts RU4.out
    have x0 := X224.out.c0
    have x1 := X224.out.c1
    have g0 := F224.out.c0
    have g1 := F224.out.c1
    go_wp2_with fail
    refine (same_any L2 L2 N2 N2 _ _ _ X224.out.he He24.out).mono ?_
    rintro e w25 ⟨rfl, hb25⟩
    rw [decide_eq_true (show N2 = N2 ∧ L2 = L2 from ⟨rfl, rfl⟩)]
    have b25 := upb B24.out hb25
    have rz := RZ4.out.of_block (hb25.block _ RZ4.out.lt)
    have ru := RU4.out.of_block (hb25.block _ RU4.out.lt)
    have RZ5 := Lib.hid rz
    have RU5 := Lib.hid ru
    have B25 := Lib.hid b25
    clear x0 x1 g0 g1 z0 z1 y0 y1 l0 l1 rz ru b25 hb25 RZ4 RU4 B24 X224 F224 He24 E24
    obtain ⟨z0, z1, f0, f1, l0⟩ := row_facts RZ5.out
    go_upto_region 22 with fail
    have rz := row_two RZ5.out (.int .i64 0) (.slice none 0 0)
    have ru := row_off RU5.out (show w18.heap.size + 1 ≠ w18.heap.size by omega) (.int .i64 0) (.slice none 0 0)
    have b26 := below_set2 B25.out (Nat.le_refl _) (.int .i64 0) (.slice none 0 0)
    clear z0 z1 f0 f1 l0
    generalize (w25.setCell ⟨w18.heap.size, 0, none⟩ (.int .i64 0)).setCell ⟨w18.heap.size, 1, none⟩ (.slice none 0 0) = w26 at *
    have E26 := Lib.hid (E18.out.below b26)
    have RZ6 := Lib.hid rz
    have RU6 := Lib.hid ru
    have B26 := Lib.hid b26
    clear rz ru b26
    obtain ⟨u0, u1, u2, u3, u4, u5, u6, u7⟩ := E26.out.facts
    go_wp2_with fail
    refine (indFault_any Hind.out _ _ _ E26.out.he E26.out.hu).mono ?_
    rintro e w27 ⟨rfl, hb27⟩
    have rz := RZ6.out.of_block (hb27.block _ RZ6.out.lt)
    have ru := RU6.out.of_block (hb27.block _ RU6.out.lt)
    have b27 := upb B26.out hb27
    clear u0 u1 u2 u3 u4 u5 u6 u7 hb27
    obtain ⟨y0, y1, g0, g1, l1⟩ := row_facts ru
    have RZ7 := Lib.hid (row_off rz (show w18.heap.size ≠ w18.heap.size + 1 by omega) (.int .i64 ci) (.int .i64 ai))
    have RU7 := Lib.hid (row_two ru (.int .i64 ci) (.int .i64 ai))
    have B28 := Lib.hid (below_set2 b27 (show w18.heap.size ≤ w18.heap.size + 1 by omega) (.int .i64 ci) (.int .i64 ai))
    clear rz ru b27
    go_upto_region 23 with fail
    clear y0 y1 g0 g1 l1
    generalize (w27.setCell ⟨w18.heap.size + 1, 0, none⟩ (.int .i64 ci)).setCell ⟨w18.heap.size + 1, 1, none⟩ (.int .i64 ai) = w28 at *
    obtain ⟨z0, z1, f0, f1, l0⟩ := row_facts RZ7.out
    obtain ⟨y0, y1, g0, g1, l1⟩ := row_facts RU7.out
    have E28 := Lib.hid (E18.out.below B28.out)
    have cu := E28.out.cu
    have hl18 := B28.out.size
    go_upto_if 143 with fail
    go_cut [] from 143 to 150 (fun wx => ZCut w18 w18.heap.size (w18.heap.size + 1) N3 L3 c3 d3 wx)
    case first =>
      by_cases hci : ci = 0
      · subst hci
        obtain ⟨hfine, rfl⟩ := Hind.out.good
        obtain ⟨hr3, rfl⟩ := R3.out.ok hfine
        have hinn : ∀ k, k < m.length → 0 ≤ m.getD k 0 ∧ m.getD k 0 < (N : Int) := fun k hk => (hfine k hk).1
        have hfew := ifine_few hfine
        have Hinn := Lib.hid hinn
        have Hr3 := Lib.hid hr3
        clear hinn hr3 hfine
        go_wp2_with (go_at_call 16; refine (small_is Hr3.out 23 #[.pointer (some ⟨T, 0, none⟩), .pointer (some ⟨w.heap.size + 1, 0, none⟩)] _ eg_makes3 (by omega) (fun W i j hij hj hbW => makes3_any W (below_cell (upb B28.out hbW) T18.out) (below_cell hbW cu) (G18.out.below (upb B28.out hbW)) (E28.out.hu.below hbW) Hinn.out (by omega) hj)).mono ?_; rintro e w29 ⟨v29, ho29, hb29, rfl⟩; obtain ⟨a29, c29, rfl⟩ := ho29.form; have rz := Lib.hid (RZ7.out.of_block (hb29.block _ RZ7.out.lt)); have ru := Lib.hid (RU7.out.of_block (hb29.block _ RU7.out.lt)); obtain ⟨p0, p1, pf0, pf1, pl0⟩ := row_facts rz.out; obtain ⟨r0, r1, rf0, rf1, rl1⟩ := row_facts ru.out; have Ho29 := Lib.hid ho29; have Hb29 := Lib.hid (upb B28.out hb29); clear hb29 ho29)
        go_meet
        exact ZCut.put rz.out ru.out (by omega) Ho29.out l0 l1 Hb29.out (Nat.le_refl _) (by omega)
      · obtain ⟨e1, e2, e3, e4⟩ := R3.out.fault Hind.out hci
        subst e1 e2 e3 e4
        have q : (c3 == 0) = false := by simp [hci]
        go_wp2
        go_meet
        exact ⟨none, 0, RZ7.out, IsEdges.nil _, RU7.out, B28.out⟩
    case rest =>
    obtain ⟨w30, rfl⟩ : ∃ w30 : World, w30 = wc := ⟨_, rfl⟩
    obtain ⟨ay, qy, hz, hze, hu, hbz⟩ := hcut
    have X330 := Lib.hid (X318.out.below hbz)
    have F330 := Lib.hid (F318.out.below hbz)
    have E30 := Lib.hid (E18.out.below hbz)
    have He30 := Lib.hid hze
    clear z0 z1 f0 f1 l0 y0 y1 g0 g1 l1 hbz hze cu hl18
    obtain ⟨z0, z1, -, -, l0⟩ := row_facts hz
    obtain ⟨y0, y1, -, -, l1⟩ := row_facts hu
    clear hz hu
    have x0 := X330.out.c0
    have x1 := X330.out.c1
    have g0 := F330.out.c0
    have g1 := F330.out.c1
    go_wp2_with fail
    refine (same_any L3 L3 N3 N3 _ _ _ X330.out.he He30.out).mono ?_
    rintro e w31 ⟨rfl, hb31⟩
    rw [decide_eq_true (show N3 = N3 ∧ L3 = L3 from ⟨rfl, rfl⟩)]
    go_wp2
    go_ret
    exact ⟨rfl, upb E30.out.hb hb31⟩
  · have q : (c != 0) = true := by simp [hc]
    obtain ⟨rfl, rfl, rfl, rfl⟩ := H1.out.bad Hs.out hc
    obtain ⟨rfl, rfl, rfl, rfl⟩ := H2.out.bad Hs.out hc
    obtain ⟨rfl, rfl, rfl, rfl⟩ := H3.out.bad Hs.out hc
    have x10 := X115.out.c0; have x11 := X115.out.c1; have x20 := X215.out.c0; have x21 := X215.out.c1; have x30 := X315.out.c0; have x31 := X315.out.c1
    have g10 := F115.out.c0; have g11 := F115.out.c1; have g20 := F215.out.c0; have g21 := F215.out.c1; have g30 := F315.out.c0; have g31 := F315.out.c1
    have Hc := Lib.hid hc
    clear hc
    go_wp2
    go_ret
    exact ⟨rfl, E15.out.hb⟩

end Go.Proofs.Ytbnbhjeknocboaa
