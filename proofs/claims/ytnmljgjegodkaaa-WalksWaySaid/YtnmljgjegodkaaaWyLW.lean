/- arborlaw.WalksWay answers true: the walk. -/
import Derived.Test.YtnmljgjegodkaaaWBeg
import Derived.Test.YtnmljgjegodkaaaGirW
import Derived.Test.YtnmljgjegodkaaaPK
import Derived.Test.YtnmljgjegodkaaaPF
import Derived.Test.YtnmljgjegodkaaaGOwn
import Derived.Test.YtnmljgjegodkaaaGridOf
import Derived.BigQuiet
namespace Go.Proofs.Ytnmljgjegodkaaa
open Go Go.RowKit

theorem WayL.congr {N A : Nat} {G : Nat → Nat → Bool} {F K : Nat → Int} {W : List Nat} (h : WayL N G F A W) (hA : A < N) (e : ∀ v, v < N → F v = K v) : WayL N G K A W where
  len := by rw [h.len, e A hA]
  rng := h.rng
  head := h.head
  next i hi := by
    obtain ⟨h1, h2, h3, h4⟩ := h.next i hi
    have hx : W.getD i 0 < N := h.rng _ (by rw [List.getD, List.getElem?_eq_getElem (by omega)]; exact List.getElem_mem _)
    exact ⟨h1, h2, by rw [← e _ h1, h3, e _ hx], fun q hq k => h4 q hq ⟨k.1, by rw [e q (by omega), k.2, e _ hx]⟩⟩
/-- walks.Way, in short. -/
theorem WayPost.any {n x y : Int} {l : List (Int × Int)} {w w' : World} {e : Ending} (h : WayPost n l x y w e w') :
    ∃ c0 a0 c a v W, LookR n l [x, y] c0 a0 ∧ e = .returned (.tuple #[v, .agg #[.int .i64 c, .int .i64 a]]) ∧ Below w.heap.size w w' ∧ IsInts w' v (ints W) ∧
      ((c0 ≠ 0 ∧ c = c0 ∧ a = a0 ∧ W = []) ∨ (c0 = 0 ∧ a0 = 0 ∧ ∃ N A B : Nat, n = N ∧ x = A ∧ y = B ∧ A < N ∧ B < N ∧ GoodGraph N l ∧
        ((farE N (adj l) B A < 0 ∧ c = 9 ∧ a = 0 ∧ W = []) ∨ (0 ≤ farE N (adj l) B A ∧ c = 0 ∧ a = 0 ∧ WayL N (adj l) (farE N (adj l) B) A W)))) := by
  obtain ⟨c0, a0, c, a, v, hL, rfl, hb, hcase⟩ := h
  rcases hcase with ⟨h1, rfl, rfl, rfl⟩ | ⟨rfl, N, A, B, rfl, rfl, rfl, hA, hB, hg, F, hF, hcase⟩
  · exact ⟨_, _, _, _, _, [], hL, rfl, hb, IsInts.nil _, .inl ⟨h1, rfl, rfl, rfl⟩⟩
  · have ha0 : a0 = 0 := (hL.two).2.1
    have hK := hF.eq (farE_ok (G := adj l) hB)
    rcases hcase with ⟨h1, rfl, rfl, rfl⟩ | ⟨h1, rfl, rfl, W, ho, hW⟩
    · exact ⟨_, _, _, _, _, [], hL, rfl, hb, IsInts.nil _, .inr ⟨rfl, ha0, N, A, B, rfl, rfl, rfl, hA, hB, hg, .inl ⟨by rw [← hK A hA]; exact h1, rfl, rfl, rfl⟩⟩⟩
    · exact ⟨_, _, _, _, _, W, hL, rfl, hb, IsInts.owned ho, .inr ⟨rfl, ha0, N, A, B, rfl, rfl, rfl, hA, hB, hg, .inr ⟨by rw [← hK A hA]; exact h1, rfl, rfl, hW.congr hA hK⟩⟩⟩
theorem look_of {n : Int} {l : List (Int × Int)} {L : List Int} {c a : Int} (h : GraphSpec n l c a) (hc : c ≠ 0) : LookR n l L c a := ⟨c, a, h, .inl ⟨hc, rfl, rfl⟩⟩
theorem upp9 {a b c : World} (h : Below a.heap.size a b) (k : Below b.heap.size b c) : Below a.heap.size a c := h.trans (k.mono h.size)

set_option maxHeartbeats 6400000 in
set_option maxRecDepth 100000 in
theorem wayLaw_any (n x y : Int) (l : List (Int × Int)) (hl : l.length * 16 ≤ 140737488351232) (sv : Value) (w : World) (h : IsEdges w sv l) :
    Calls Try.prog 5 #[.agg #[.int .i64 n, sv], .int .i64 x, .int .i64 y] w fun e w' => e = .returned (.bool true) ∧ Below w.heap.size w w' := by
  obtain ⟨ad, cap, rfl⟩ := h.form
  have hb1 := below1 w (Obj.cells #[.int .i64 n, .slice ad l.length cap] 24)
  have c0 := two_cells w (.int .i64 n) (.slice ad l.length cap) 24
  have cn := c0.1
  have cs := c0.2
  have he := h.below hb1
  have H0 := Lib.hid h
  clear c0 h
  go_enter Try.func5, Try.ntmps5
  go_upto_region 1 with fail
  generalize w.alloc (Obj.cells #[.int .i64 n, .slice ad l.length cap] 24) = w1 at *
  have Cn := Lib.hid (And.intro cn cs); have He := Lib.hid he; have Hb1 := Lib.hid hb1
  clear he hb1
  go_wp2_with fail
  refine (own_any l n (.slice ad l.length cap) _ He.out hl).mono ?_
  rintro e w2 ⟨v2, rfl, ho2, hb2⟩
  obtain ⟨a2, c2, rfl⟩ := ho2.form
  have hb3 := upp9 hb2 (below1 w2 (Obj.cells #[.int .i64 n, .slice a2 l.length c2] 24))
  have o0 := two_cells w2 (.int .i64 n) (.slice a2 l.length c2) 24
  have E3 := Lib.hid (show LB w (w2.alloc (Obj.cells #[.int .i64 n, .slice a2 l.length c2] 24)) n (.slice ad l.length cap) (.slice a2 l.length c2) l w2.heap.size from ⟨Hb1.out.trans (hb3.mono Hb1.out.size), below_cell hb3 Cn.out.1, below_cell hb3 Cn.out.2, o0.1, o0.2, He.out.below hb3, ho2.edges.below (below1 w2 _)⟩)
  clear cn cs ho2 hb2 hb3 o0 He Hb1 Cn
  go_upto_region 2 with fail
  generalize w2.alloc (Obj.cells #[.int .i64 n, .slice a2 l.length c2] 24) = w3 at *
  generalize w2.heap.size = B at *
  have on := E3.out.on
  have os := E3.out.os
  go_wp2_with fail
  refine (way_any n l x y _ _ E3.out.ho).mono ?_
  rintro e w4 hpost
  obtain ⟨cl, al, cf, af, v, W, hL, rfl, hb4, hov, hcase⟩ := hpost.any
  obtain ⟨aV, cV, rfl⟩ : ∃ a c, v = .slice a W.length c := by
    obtain ⟨a, c, _, _, e, _⟩ := hov
    rw [ints_length] at e; exact ⟨a, c, e⟩
  have b5 := upp9 hb4 (below1 w4 (Obj.cells #[.int .i64 cf, .int .i64 af] 27))
  have E5 := Lib.hid (E3.out.below b5)
  have F5 := Lib.hid (FV.new w4 cf af)
  have I5 := Lib.hid (hov.below (below1 w4 (Obj.cells #[.int .i64 cf, .int .i64 af] 27)))
  have HC := Lib.hid hcase
  have HL := Lib.hid hL
  clear hpost hcase hL hov b5 hb4 on os E3
  go_upto_region 3 with fail
  generalize w4.alloc (Obj.cells #[.int .i64 cf, .int .i64 af] 27) = w5 at *
  generalize w4.heap.size = D1 at *
  have on := E5.out.on
  have os := E5.out.os
  go_wp2_with fail
  refine (girth_any n l _ _ E5.out.ho).mono ?_
  rintro e w6 ⟨c1, a1, gi, hs1, rfl, hb6, hgi⟩
  have b7 := upp9 hb6 (below1 w6 (Obj.cells #[.int .i64 c1, .int .i64 a1] 27))
  have E7 := Lib.hid (E5.out.below b7); have F7 := Lib.hid (F5.out.below b7); have I7 := Lib.hid (I5.out.below b7)
  have G7 := Lib.hid (FV.new w6 c1 a1)
  have HG := Lib.hid hgi
  have Hs1 := Lib.hid hs1
  clear hb6 hgi hs1 on os E5 F5 I5 b7
  go_upto_region 4 with fail
  generalize w6.alloc (Obj.cells #[.int .i64 c1, .int .i64 a1] 27) = w7 at *
  generalize w6.heap.size = D2 at *
  have cn := E7.out.cn
  have cs := E7.out.cs
  go_wp2_with fail
  refine (rcheck_any l n _ _ E7.out.he).mono ?_
  rintro e w8 ⟨c, a, hsp, rfl, hb8⟩
  have e11 := hsp.uniq Hs1.out
  obtain ⟨rfl, rfl⟩ := e11
  have b9 := upp9 hb8 (below1 w8 (Obj.cells #[.int .i64 c, .int .i64 a] 27))
  have E9 := Lib.hid (E7.out.below b9); have F9 := Lib.hid (F7.out.below b9); have I9 := Lib.hid (I7.out.below b9); have G9 := Lib.hid (G7.out.below b9)
  have U9 := Lib.hid (FV.new w8 c a)
  clear hsp hb8 b9 cn cs E7 F7 I7 G7
  go_upto_region 5 with fail
  generalize w8.alloc (Obj.cells #[.int .i64 c, .int .i64 a] 27) = w9 at *
  generalize w8.heap.size = D3 at *
  have cn := E9.out.cn
  have cs := E9.out.cs
  have HI := Lib.hid (ints_twoW w9 x y 3)
  have hb9 := below1 w9 (Obj.cells #[.int .i64 x, .int .i64 y] 3)
  have E10 := Lib.hid (E9.out.below hb9); have F10 := Lib.hid (F9.out.below hb9); have I10 := Lib.hid (I9.out.below hb9); have G10 := Lib.hid (G9.out.below hb9); have U10 := Lib.hid (U9.out.below hb9)
  clear hb9 E9 F9 I9 G9 U9
  go_wp2_with fail
  refine (nodesFault_any n l [x, y] _ _ _ E10.out.he HI.out (by simp)).mono ?_
  rintro e w11 ⟨cN, aN, hLN, rfl, hb11⟩
  obtain ⟨rfl, rfl⟩ := hLN.uniq HL.out
  have b12 := upp9 hb11 (below1 w11 (Obj.cells #[.int .i64 cN, .int .i64 aN] 27))
  have E12 := Lib.hid (E10.out.below b12); have F12 := Lib.hid (F10.out.below b12); have I12 := Lib.hid (I10.out.below b12); have G12 := Lib.hid (G10.out.below b12); have U12 := Lib.hid (U10.out.below b12)
  have N12 := Lib.hid (FV.new w11 cN aN)
  clear hLN hb11 b12 cn cs E10 F10 I10 G10 U10 HI
  go_upto_region 6 with fail
  generalize w11.alloc (Obj.cells #[.int .i64 cN, .int .i64 aN] 27) = w12 at *
  generalize w11.heap.size = D4 at *
  go_wp2_with fail
  refine (walksBegun_any w12).mono ?_
  rintro e w13 ⟨rfl, hb13⟩
  have E13 := Lib.hid (E12.out.below hb13); have F13 := Lib.hid (F12.out.below hb13); have I13 := Lib.hid (I12.out.below hb13); have G13 := Lib.hid (G12.out.below hb13); have U13 := Lib.hid (U12.out.below hb13); have N13 := Lib.hid (N12.out.below hb13)
  clear hb13 E12 F12 I12 G12 U12 N12
  have on := E13.out.on
  have os := E13.out.os
  have cn := E13.out.cn
  have cs := E13.out.cs
  obtain ⟨g0, g1, -, -, -⟩ := G13.out.facts
  obtain ⟨u0, u1, -, -, -⟩ := U13.out.facts
  go_wp2_with fail
  refine (kept_is (r := true) (by simp) _ _ w13 E13.out.ho E13.out.he).mono ?_
  rintro e w14 ⟨rfl, hb14⟩
  have E14 := Lib.hid (E13.out.below hb14); have F14 := Lib.hid (F13.out.below hb14); have I14 := Lib.hid (I13.out.below hb14); have U14 := Lib.hid (U13.out.below hb14); have N14 := Lib.hid (N13.out.below hb14)
  clear hb14 on os cn cs g0 g1 u0 u1 E13 F13 I13 G13 U13 N13
  obtain ⟨u0, u1, -, -, -⟩ := U14.out.facts
  obtain ⟨f0, f1, -, -, -⟩ := F14.out.facts
  have cn := E14.out.cn
  have cs := E14.out.cs
  by_cases hc : c = 0
  · subst hc
    obtain ⟨hgood, rfl⟩ := Hs1.out.good
    have hn0 := hgood.lo
    have hn1 := hgood.hi
    obtain ⟨N, rfl⟩ := Int.eq_ofNat_of_zero_le hn0
    have Hg := Lib.hid hgood
    clear hgood
    have hN : N ≤ 100 := by omega
    have Hok := Lib.hid (show ∀ j, j < l.length → EndsOk (N : Int) (l.getD j (0, 0)) ∧ (l.getD j (0, 0)).1 ≠ (l.getD j (0, 0)).2 from fun j hj => ⟨(Hg.out.fine j hj).1, (Hg.out.fine j hj).2.1⟩)
    have HGi := Lib.hid (show GirthIs N (adj l) gi from by
      rcases HG.out with ⟨h1, -⟩ | ⟨-, N', e, -, h⟩
      · exact absurd rfl h1
      · have := Int.ofNat.inj e; subst this; exact h)
    clear f0 f1
    go_wp2_with fail
    refine (gridOf_any l N _ _ E14.out.he hN Hok.out).mono ?_
    rintro e w15 ⟨v5, rfl, hg15, hb15⟩
    have Hg15 := Lib.hid (show HasGrid w15 v5 N (adj l) from ⟨_, hg15⟩)
    have E15 := Lib.hid (E14.out.below hb15); have I15 := Lib.hid (I14.out.below hb15); have F15 := Lib.hid (F14.out.below hb15); have N15 := Lib.hid (N14.out.below hb15)
    clear hg15 hb15 cn cs u0 u1 E14 F14 I14 N14 U14
    have cn := E15.out.cn
    go_upto_region 11 with fail
    go_cut [78] from 70 to 78 (fun s78 wx => s78 = .bool false ∧ Below w15.heap.size w15 wx)
    case first =>
      by_cases h30 : N ≤ 30
      · have h31 : (N : Int) ≤ 30 := by omega
        go_wp2_with fail
        refine (rgirth_any N (adj l) v5 w15 hN Hg15.out (good_gr Hg.out)).mono ?_
        rintro e w16 ⟨g, rfl, hg, hb16⟩
        obtain rfl := hg.uniq HGi.out
        clear hg
        go_wp2
        go_meet
        exact ⟨rfl, hb16⟩
      · have h31 : ¬ (N : Int) ≤ 30 := by omega
        go_wp2
        go_meet
        exact ⟨rfl, Below.refl _ _⟩
    case rest =>
    obtain ⟨rfl, hbc⟩ := hcut
    obtain ⟨w16, rfl⟩ : ∃ w16 : World, w16 = wc := ⟨_, rfl⟩
    have E16 := Lib.hid (E15.out.below hbc); have I16 := Lib.hid (I15.out.below hbc); have F16 := Lib.hid (F15.out.below hbc); have N16 := Lib.hid (N15.out.below hbc); have Hg16 := Lib.hid (Hg15.out.below hbc)
    clear cn hbc E15 I15 F15 N15 Hg15
    obtain ⟨m0, m1, -, -, -⟩ := N16.out.facts
    obtain ⟨f0, f1, -, -, -⟩ := F16.out.facts
    rcases HC.out with ⟨hcN, rfl, rfl, hW⟩ | ⟨rfl, rfl, N', A, B', hNN, rfl, rfl, hA, hB, -, hcase⟩
    · have q : (cf == 0) = false := by simp [hcN]
      have q2 : (cf != 0) = true := by simp [hcN]
      have hW0 : W.length = 0 := by rw [hW]; rfl
      have q3 : ((W.length : Int) == 0) = true := by rw [beq_iff_eq]; omega
      clear hcN hW
      go_wp2
      go_ret
      exact ⟨rfl, E16.out.hb⟩
    · have hNN := Int.ofNat.inj hNN
      subst hNN
      have Hcase := Lib.hid hcase
      clear hcase HC
      clear f0 f1
      go_upto_region 15 with fail
      clear m0 m1
      go_wp2_with fail
      refine (rfar_any N B' (adj l) v5 w16 hN hB Hg16.out).mono ?_
      rintro e w17 ⟨bF, F, rfl, hlF, hrF, hF, hb17⟩
      have Hr17 := Lib.hid (row_ri hrF (hF.eq (farE_ok (G := adj l) hB)))
      have E17 := Lib.hid (E16.out.below hb17); have I17 := Lib.hid (I16.out.below hb17); have F17 := Lib.hid (F16.out.below hb17); have Hg17 := Lib.hid (Hg16.out.below hb17)
      have hrng := (farE_ok (G := adj l) hB).rng A hA
      have cA := Hr17.out.cell hA
      simp only [ri] at cA
      clear hlF hrF hF hb17 E16 I16 F16 N16 Hg16
      rcases Hcase.out with ⟨hneg, rfl, rfl, hW⟩ | ⟨hpos, rfl, rfl, hW⟩
      · have hW0 : W.length = 0 := by rw [hW]; rfl
        have q3 : ((W.length : Int) == 0) = true := by rw [beq_iff_eq]; omega
        clear hW Hcase
        generalize farE N (adj l) B' A = fA at *
        go_upto_region 17 with fail
        clear cA
        obtain ⟨g0, g1, -, -, -⟩ := F17.out.facts
        have q0 : w17.drew.cell? ⟨D1, 0, none⟩ = some (.int .i64 9) ∧ w17.drew.cell? ⟨D1, 1, none⟩ = some (.int .i64 0) := ⟨g0, g1⟩
        have hd : Below w17.heap.size w17 w17.drew := (Below.refl _ _).drew
        clear g0 g1
        go_upto_region 17 with fail
        go_region_held3 (fun w' => w'.cell? ⟨D1, 0, none⟩ = some (.int .i64 9) ∧ w'.cell? ⟨D1, 1, none⟩ = some (.int .i64 0))
          (first | exact q1 | exact q0)
          (first | (go_at_call 15; refine (F_any _ _ _).mono ?_; rintro e wp ⟨rfl, rfl⟩; have h1 := upp9 hd (below1 w17.drew (Obj.cells #[.int .i64 9, .int .i64 0] 27)); have q1 := And.intro (below_cell (below1 w17.drew (Obj.cells #[.int .i64 9, .int .i64 0] 27)) q0.1) (below_cell (below1 w17.drew (Obj.cells #[.int .i64 9, .int .i64 0] 27)) q0.2)))
        all_goals
          go_wp2
          go_ret
          exact ⟨rfl, upp9 E17.out.hb h1⟩
      · have hnl : ¬ farE N (adj l) B' A < 0 := by omega
        have HW := Lib.hid hW
        have hlen := hW.len
        have hhead : W.getD 0 0 = A := by
          have := hW.head
          cases W with
          | nil => cases this
          | cons a t => simp at this; subst this; rfl
        have hWl : 0 < W.length := by omega
        obtain ⟨bW, oW, rfl, c0⟩ := ints_at' I17.out (Below.refl _ _) hWl
        rw [hhead] at c0
        rw [Nat.add_zero] at c0
        clear hW Hcase hhead
        obtain ⟨fA, hfA⟩ : ∃ fA, farE N (adj l) B' A = fA := ⟨_, rfl⟩
        rw [hfA] at cA hlen hnl hpos hrng
        have HfA := Lib.hid hfA
        clear hfA
        generalize hwl : W.length = wl at *
        have Hwl := Lib.hid hwl
        clear hwl
        have hw1 : IntKind.i64.wrap (fA + 1) = fA + 1 := wrap_midF (by omega) (by omega)
        have q4 : ((wl : Int) != fA + 1) = false := by rw [bne_eq_false_iff_eq]; exact hlen
        have hwl0 : (0 : Int) < (wl : Int) := by omega
        obtain ⟨f0, f1, -, -, -⟩ := F17.out.facts
        go_upto_region 21 with fail
        have hwlb : wl ≤ 100 := by omega
        clear f0 f1 c0 cA q4 hw1 hwl0 hlen hnl hrng
        go_loopg [16] wl (fun g s16 wr => ∃ t : Nat, t + 1 ≤ wl ∧ g = wl - t ∧ s16 = .int .i64 ((t : Int) + 1) ∧ Below w17.heap.size w17 wr)
        case atStart => exact ⟨0, by omega, rfl, rfl, Below.refl _ _⟩
        case round =>
          obtain ⟨t, ht, rfl, rfl, hb⟩ := hrel
          have Hb := Lib.hid hb
          by_cases hlt : t + 1 < wl
          · obtain ⟨hu, hG, hFu, hmin⟩ := HW.out.next t (by rw [Hwl.out]; exact hlt)
            have ha : W.getD t 0 < N := HW.out.rng _ (by rw [List.getD, List.getElem?_eq_getElem (show t < W.length by rw [Hwl.out]; omega)]; exact List.getElem_mem _)
            obtain ⟨bW', oW', eW, cy⟩ := ints_at' I17.out hb (show t + 1 < W.length by rw [Hwl.out]; exact hlt)
            simp only [Option.some.injEq, Addr.mk.injEq] at eW
            obtain ⟨rfl, rfl, -⟩ := eW
            have HX := Lib.hid (fun (wq : World) (hq : Below w17.heap.size w17 wq) => ints_at' I17.out hq (show t < W.length by rw [Hwl.out]; omega))
            have HY := Lib.hid (fun (wq : World) (hq : Below w17.heap.size w17 wq) => ints_at' I17.out hq (show t + 1 < W.length by rw [Hwl.out]; exact hlt))
            have HG1 := Lib.hid hG; have HFu := Lib.hid hFu; have Hmin := Lib.hid hmin
            generalize W.getD t 0 = p at *
            generalize W.getD (t + 1) 0 = u at *
            have cn := (E17.out.below hb).cn
            have hti3 : (t : Int) + 1 < (wl : Int) := by omega
            clear hb hG hFu hmin cy
            go_upto_region 25 with fail
            clear cn
            go_loopg [17, 18] N (fun g s17 s18 wi => ∃ q : Nat, q ≤ N ∧ g = N - q ∧ s18 = .int .i64 (q : Int) ∧ ((q ≤ u ∧ s17 = .int .i64 (-1)) ∨ (q = u + 1 ∧ s17 = .int .i64 (u : Int))) ∧ Below w17.heap.size w17 wi)
            case atStart => exact ⟨0, Nat.zero_le _, rfl, rfl, .inl ⟨Nat.zero_le _, rfl⟩, Hb.out⟩
            case round =>
              clear Hb
              obtain ⟨q, hq, rfl, rfl, hcase, hbq⟩ := hrel
              have Hbq := Lib.hid hbq
              have cn := (E17.out.below hbq).cn
              rcases hcase with ⟨hqu, rfl⟩ | ⟨hqu, rfl⟩
              · have hqN : q < N := by omega
                obtain ⟨bW', oW', eW, cx⟩ := HX.out wr hbq
                simp only [Option.some.injEq, Addr.mk.injEq] at eW
                obtain ⟨rfl, rfl, -⟩ := eW
                obtain ⟨bg, og, cg, rg, rfl, t1, t2⟩ := (Hg17.out.below hbq).entry ha hqN
                have hrr := Hr17.out.of_block (hbq.block _ Hr17.out.lt)
                have cFq := hrr.cell hqN
                have cFa := hrr.cell ha
                simp only [ri] at cFq cFa
                have hFp := (farE_ok (G := adj l) hB).rng p ha
                have hw1 : IntKind.i64.wrap (farE N (adj l) B' p - 1) = farE N (adj l) B' p - 1 := wrap_midF (by omega) (by omega)
                have hwt2 : IntKind.i64.wrap (t : Int) = (t : Int) := wrap_midF (by omega) (by omega)
                have hwt3 : IntKind.i64.wrap ((t : Int) + 1 - 1) = (t : Int) := by rw [show (t : Int) + 1 - 1 = (t : Int) by omega, wrap_midF (by omega) (by omega)]
                have hti : (t : Int) < (wl : Int) := by omega
                have hti2 : t < wl := by omega
                have Hmq := Lib.hid (Hmin.out q)
                clear hbq hrr hFp
                have HFe := Lib.hid (show adj l p q = adj l p q ∧ farE N (adj l) B' q = farE N (adj l) B' q from ⟨rfl, rfl⟩)
                obtain ⟨gb, hgb⟩ : ∃ gb, adj l p q = gb := ⟨_, rfl⟩
                obtain ⟨fq, hfq⟩ : ∃ fq, farE N (adj l) B' q = fq := ⟨_, rfl⟩
                obtain ⟨fp, hfp⟩ : ∃ fp, farE N (adj l) B' p = fp := ⟨_, rfl⟩
                rw [hgb] at t2
                rw [hfq] at cFq
                rw [hfp] at cFa hw1
                have Hgb := Lib.hid hgb; have Hfq := Lib.hid hfq; have Hfp := Lib.hid hfp
                clear hgb hfq hfp HFe
                cases gb with
                | false =>
                  have Hne := Lib.hid (show q ≠ u from fun e => by
                    subst e
                    have h1 := HG1.out; have h2 := Hgb.out
                    rw [h1] at h2; cases h2)
                  go_upto_region 27 with fail
                  go_big_quiet (fail)
                  clear cx cn t1 t2 cFq cFa
                  go_wp2
                  go_roundg (N - (q + 1))
                  case measure => go_light; omega
                  case rel => exact ⟨q + 1, by omega, rfl, by go_num, .inl ⟨by have := Hne.out; omega, rfl⟩, Below.drewN' Hbq.out _⟩
                | true =>
                  by_cases hit : fq = fp - 1
                  · have qh : (fq == fp - 1) = true := by rw [beq_iff_eq]; exact hit
                    have Heq := Lib.hid (show q = u from by
                      refine Classical.byContradiction fun hne => ?_
                      exact Hmq.out (by omega) ⟨Hgb.out, by rw [Hfq.out, Hfp.out]; exact hit⟩)
                    clear hit
                    go_upto_region 27 with fail
                    go_big_quiet (fail)
                    clear cx cn t1 t2 cFq cFa
                    go_wp2
                    go_roundg (N - (q + 1))
                    case measure => go_light; omega
                    case rel => exact ⟨q + 1, by omega, rfl, by go_num, .inr ⟨by rw [Heq.out], by rw [Heq.out]⟩, Below.drewN' Hbq.out _⟩
                  · have qh : (fq == fp - 1) = false := by rw [beq_eq_false_iff_ne]; exact hit
                    have Hne := Lib.hid (show q ≠ u from fun e => by
                      subst e
                      have h1 := HFu.out
                      rw [Hfq.out, Hfp.out] at h1
                      exact hit h1)
                    clear hit
                    go_upto_region 27 with fail
                    go_big_quiet (fail)
                    clear cx cn t1 t2 cFq cFa
                    go_wp2
                    go_roundg (N - (q + 1))
                    case measure => go_light; omega
                    case rel => exact ⟨q + 1, by omega, rfl, by go_num, .inl ⟨by have := Hne.out; omega, rfl⟩, Below.drewN' Hbq.out _⟩
              · obtain ⟨bW', oW', eW, cy⟩ := HY.out wr hbq
                simp only [Option.some.injEq, Addr.mk.injEq] at eW
                obtain ⟨rfl, rfl, -⟩ := eW
                have qn : ¬ (u : Int) < 0 := by omega
                have hti4 : (0 : Int) ≤ (t : Int) + 1 := by omega
                clear hbq hqu
                by_cases hqN : q < N
                · go_wp2
                  go_roundg (wl - (t + 1))
                  case measure => go_light; omega
                  case rel => exact ⟨t + 1, by omega, rfl, by go_num, Hbq.out⟩
                · go_wp2
                  go_roundg (wl - (t + 1))
                  case measure => go_light; omega
                  case rel => exact ⟨t + 1, by omega, rfl, by go_num, Hbq.out⟩
          · have Eq := Lib.hid (E17.out.below hb)
            clear hb
            go_wp2
            go_ret
            exact ⟨rfl, Eq.out.hb⟩
  · have q : (c == 0) = false := by simp [hc]
    have q2 : (c != 0) = true := by simp [hc]
    obtain ⟨rfl, rfl⟩ : cN = c ∧ aN = a := HL.out.uniq (look_of Hs1.out hc)
    obtain ⟨rfl, rfl, hW⟩ : cf = cN ∧ af = aN ∧ W = [] := by
      rcases HC.out with ⟨-, h2, h3, h4⟩ | ⟨h1, -⟩
      · exact ⟨h2, h3, h4⟩
      · exact absurd h1 hc
    obtain rfl : gi = 0 := by
      rcases HG.out with ⟨-, h⟩ | ⟨h, -⟩
      · exact h
      · exact absurd h hc
    have hW0 : W.length = 0 := by rw [hW]; rfl
    have q3 : ((W.length : Int) == 0) = true := by rw [beq_iff_eq]; omega
    clear hc hW
    go_wp2
    go_ret
    exact ⟨rfl, E14.out.hb⟩

end Go.Proofs.Ytnmljgjegodkaaa
