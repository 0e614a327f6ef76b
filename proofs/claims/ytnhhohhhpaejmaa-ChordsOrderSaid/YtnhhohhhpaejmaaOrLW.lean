/- arborlaw.ChordsOrder answers true: the walk. -/
import Derived.Test.YtnhhohhhpaejmaaCBeg
import Derived.Test.YtnhhohhhpaejmaaClrW
import Derived.Test.YtnhhohhhpaejmaaBaseA
import Derived.Test.YtnhhohhhpaejmaaKeptS
import Derived.Test.YtnhhohhhpaejmaaGOwn
import Derived.Test.YtnhhohhhpaejmaaLBox
import Derived.Test.YtnhhohhhpaejmaaPF
import Derived.Test.YtnhhohhhpaejmaaGridOf
namespace Go.Proofs.Ytnhhohhhpaejmaa
open Go Go.RowKit

theorem upp9 {a b c : World} (h : Below a.heap.size a b) (k : Below b.heap.size b c) : Below a.heap.size a c := h.trans (k.mono h.size)
set_option maxHeartbeats 1600000 in
set_option maxRecDepth 100000 in
theorem orderLaw_any (n : Int) (l : List (Int × Int)) (hl : l.length * 16 ≤ 140737488351232) (sv : Value) (w : World) (h : IsEdges w sv l) :
    Calls Try.prog 3 #[.agg #[.int .i64 n, sv]] w fun e w' => e = .returned (.bool true) ∧ Below w.heap.size w w' := by
  obtain ⟨ad, cap, rfl⟩ := h.form
  have hb1 := below1 w (Obj.cells #[.int .i64 n, .slice ad l.length cap] 24)
  have c0 := two_cells w (.int .i64 n) (.slice ad l.length cap) 24
  have cn := c0.1
  have cs := c0.2
  have he := h.below hb1
  have H0 := Lib.hid h
  clear c0 h
  go_enter Try.func3, Try.ntmps3
  go_upto_region 1 with fail
  generalize w.alloc (Obj.cells #[.int .i64 n, .slice ad l.length cap] 24) = w1 at *
  have Cn := Lib.hid (And.intro cn cs); have He := Lib.hid he; have Hb1 := Lib.hid hb1
  clear he hb1
  go_wp2_with fail
  refine (own_any l n (.slice ad l.length cap) _ He.out hl).mono ?_
  rintro e w2 ⟨v2, rfl, ho2, hb2⟩
  obtain ⟨a2, c2, rfl⟩ := ho2.form
  have hb3 := upp9 hb2 (below1 w2 (Obj.cells #[.int .i64 n, .slice a2 l.length c2] 24))
  have o0 := two_cells w2 (.int .i64 n) (.slice a2 l.length c2) 24
  have E3 := Lib.hid (show LB w (w2.alloc (Obj.cells #[.int .i64 n, .slice a2 l.length c2] 24)) n (.slice ad l.length cap) (.slice a2 l.length c2) l w2.heap.size from ⟨Hb1.out.trans (hb3.mono Hb1.out.size), below_cell hb3 Cn.out.1, below_cell hb3 Cn.out.2, o0.1, o0.2, He.out.below hb3, ho2.edges.below (below1 w2 _)⟩)
  have Ho3 := Lib.hid (ho2.below (below1 w2 (Obj.cells #[.int .i64 n, .slice a2 l.length c2] 24)))
  have Hlt := Lib.hid (show ∀ g, (Value.slice a2 l.length c2).ownBlock = some g → g < w2.heap.size from fun g e => (World.ownsRow.lt ho2 g e).2)
  have lB := Nat.lt_of_lt_of_le (show w.heap.size < w1.heap.size from World.block_lt_of_cell? _ _ cn) hb2.size
  clear cn cs ho2 hb2 hb3 o0 He Hb1 Cn
  go_upto_region 2 with fail
  generalize w2.alloc (Obj.cells #[.int .i64 n, .slice a2 l.length c2] 24) = w3 at *
  generalize w2.heap.size = B at *
  have cn := E3.out.cn
  have cs := E3.out.cs
  go_wp2_with fail
  refine (rcheck_any l n _ _ E3.out.he).mono ?_
  rintro e w5 ⟨c, a, hsp, rfl, hb5⟩
  have Hsp := Lib.hid hsp
  have F6 := Lib.hid (FV.new w5 c a)
  have E6 := Lib.hid (E3.out.below (upp9 hb5 (below1 w5 (Obj.cells #[.int .i64 c, .int .i64 a] 27))))
  have lC : B < w5.heap.size := Nat.lt_of_lt_of_le (World.block_lt_of_cell? _ _ E3.out.on) hb5.size
  have Ho6 := Lib.hid (Ho3.out.below (upp9 hb5 (below1 w5 (Obj.cells #[.int .i64 c, .int .i64 a] 27))))
  clear hsp hb5 cn cs
  go_upto_region 3 with fail
  generalize w5.alloc (Obj.cells #[.int .i64 c, .int .i64 a] 27) = w6 at *
  generalize w5.heap.size = C at *
  have on := E6.out.on
  have os := E6.out.os
  have cn := E6.out.cn
  have cs := E6.out.cs
  obtain ⟨f0, f1, f2, f3, f4⟩ := F6.out.facts
  go_wp2_with fail
  refine (order_chords n l _ _ E6.out.ho).mono ?_
  rintro e w10 ⟨c', a', o, h, hsp', rfl, hb10, hres⟩
  obtain ⟨e1, e2⟩ := GraphSpec.uniq hsp' Hsp.out
  subst e1 e2
  have b11 := upp9 hb10 (below1 w10 (Obj.cells #[.int .i64 c', .int .i64 a'] 27))
  have E11 := Lib.hid (E6.out.below b11)
  have F11 := Lib.hid (F6.out.below b11)
  have G11 := Lib.hid (FV.new w10 c' a')
  have lE := E6.out.hb.size
  clear f0 f1 f2 f3 f4 on os cn cs b11 hsp'
  rcases hres with ⟨hc, rfl, rfl⟩ | ⟨rfl, N, rfl, hgood, hcase⟩
  · have q : (c' == 0) = false := by simp [hc]
    have q2 : (c' != 0) = true := by simp [hc]
    have Hc := Lib.hid hc
    clear hc hb10
    go_upto_region 4 with fail
    generalize w10.alloc (Obj.cells #[.int .i64 c', .int .i64 a'] 27) = w11 at *
    generalize w10.heap.size = D at *
    go_wp2_with fail
    refine (chordsBegun_any w11).mono ?_
    rintro e w12 ⟨rfl, hb12⟩
    have E12 := Lib.hid (E11.out.below hb12); have F12 := Lib.hid (F11.out.below hb12); have G12 := Lib.hid (G11.out.below hb12)
    clear hb12 E11 F11 G11
    have on := E12.out.on
    have os := E12.out.os
    have cn := E12.out.cn
    have cs := E12.out.cs
    obtain ⟨h0, h1, -, -, -⟩ := F12.out.facts
    obtain ⟨g0, g1, -, -, -⟩ := G12.out.facts
    go_wp2_with fail
    refine (kept_is (r := true) (by simp) _ _ w12 E12.out.ho E12.out.he).mono ?_
    rintro e w13 ⟨rfl, hb13⟩
    have E13 := Lib.hid (E12.out.below hb13); have F13 := Lib.hid (F12.out.below hb13)
    clear hb13 on os cn cs h0 h1 g0 g1 E12 F12 G12
    obtain ⟨h0, h1, -, -, -⟩ := F13.out.facts
    go_wp2
    go_ret
    exact ⟨rfl, E13.out.hb⟩
  · have hn1 := hgood.hi
    have hN : N ≤ 100 := by omega
    have Hg := Lib.hid hgood
    have Hok := Lib.hid (show ∀ j, j < l.length → EndsOk (N : Int) (l.getD j (0, 0)) ∧ (l.getD j (0, 0)).1 ≠ (l.getD j (0, 0)).2 from fun j hj => ⟨(Hg.out.fine j hj).1, (Hg.out.fine j hj).2.1⟩)
    clear hgood
    have hlist : ∃ (A B : List Nat), (∃ ao co ah ch, o = .slice ao A.length co ∧ h = .slice ah B.length ch) ∧ IsInts w10 o (ints A) ∧ IsInts w10 h (ints B) ∧ ((PerfI N (adj l) A ∧ A.length = N ∧ B = []) ∨ (HolR N (adj l) B ∧ A = [])) := by
      rcases hcase with ⟨L, hL, hLl, rfl, ho⟩ | ⟨m, hm, rfl, ho⟩
      · obtain ⟨ao, co, rfl⟩ := ownsRow_form ho
        exact ⟨L, [], ⟨ao, co, none, 0, rfl, rfl⟩, IsInts.owned ho, IsInts.nil _, .inl ⟨hL, hLl, rfl⟩⟩
      · obtain ⟨ah, ch, rfl⟩ := ownsRow_form ho
        exact ⟨[], m, ⟨none, 0, ah, ch, rfl, rfl⟩, IsInts.nil _, IsInts.owned ho, .inr ⟨hm, rfl⟩⟩
    obtain ⟨A, B2, ⟨ao, co, ah, ch, rfl, rfl⟩, hiA, hiB, hAB⟩ := hlist
    have IA := Lib.hid (hiA.below (below1 w10 (Obj.cells #[.int .i64 0, .int .i64 a'] 27)))
    have IB := Lib.hid (hiB.below (below1 w10 (Obj.cells #[.int .i64 0, .int .i64 a'] 27)))
    have HAB := Lib.hid hAB
    clear hb10 hcase hiA hiB hAB
    go_upto_region 4 with fail
    generalize w10.alloc (Obj.cells #[.int .i64 0, .int .i64 a'] 27) = w11 at *
    generalize w10.heap.size = D at *
    go_wp2_with fail
    refine (chordsBegun_any w11).mono ?_
    rintro e w12 ⟨rfl, hb12⟩
    have E12 := Lib.hid (E11.out.below hb12); have F12 := Lib.hid (F11.out.below hb12); have G12 := Lib.hid (G11.out.below hb12); have IA12 := Lib.hid (IA.out.below hb12); have IB12 := Lib.hid (IB.out.below hb12)
    clear hb12 E11 F11 G11 IA IB
    have on := E12.out.on
    have os := E12.out.os
    have cn := E12.out.cn
    have cs := E12.out.cs
    obtain ⟨h0, h1, -, -, -⟩ := F12.out.facts
    obtain ⟨g0, g1, -, -, -⟩ := G12.out.facts
    go_wp2_with fail
    refine (kept_is (r := true) (by simp) _ _ w12 E12.out.ho E12.out.he).mono ?_
    rintro e w13 ⟨rfl, hb13⟩
    have E13 := Lib.hid (E12.out.below hb13); have F13 := Lib.hid (F12.out.below hb13); have IA13 := Lib.hid (IA12.out.below hb13); have IB13 := Lib.hid (IB12.out.below hb13)
    clear hb13 on os cn cs h0 h1 g0 g1 E12 F12 G12 IA12 IB12
    obtain ⟨h0, h1, -, -, -⟩ := F13.out.facts
    have cn := E13.out.cn
    have cs := E13.out.cs
    go_wp2_with fail
    refine (gridOf_any l N _ _ E13.out.he hN Hok.out).mono ?_
    rintro e w14 ⟨v5, rfl, hg14, hb14⟩
    have Hg14 := Lib.hid (show HasGrid w14 v5 N (adj l) from ⟨_, hg14⟩)
    have E14 := Lib.hid (E13.out.below hb14); have IA14 := Lib.hid (IA13.out.below hb14); have IB14 := Lib.hid (IB13.out.below hb14)
    clear hg14 hb14 cn cs h0 h1 IA13 IB13 E13 F13
    go_upto_region 9 with fail
    rcases HAB.out with ⟨hP, hAl, rfl⟩ | ⟨hH, rfl⟩
    · have HP := Lib.hid hP
      have Hl := Lib.hid hAl
      have cn := E14.out.cn
      clear hP HAB
      have hia := IA14.out
      rw [hAl] at hia ⊢
      have hat : ∀ q, q < N → A.getD q 0 < N ∧ (ints A).getD q 0 = ((A.getD q 0 : Nat) : Int) := fun q hq => by
        refine ⟨HP.out.lt _ ?_, ints_getD A q⟩
        rw [List.getD, List.getElem?_eq_getElem (by rw [hAl]; exact hq)]
        exact List.getElem_mem _
      have hnd : ∀ p q, p < N → q < p → A.getD q 0 ≠ A.getD p 0 := fun p q hp hq e => by
        have h1 : p < A.length := by rw [hAl]; exact hp
        have h2 : q < A.length := by rw [hAl]; omega
        simp only [List.getD, List.getElem?_eq_getElem h1, List.getElem?_eq_getElem h2, Option.getD_some] at e
        have := (List.getElem_inj HP.out.nodup).1 e
        omega
      have hall := all_yes (ints A) (.slice ao N co) w14 hia (fun i hi => by
        rw [ints_length, hAl] at hi ⊢
        obtain ⟨h1, h2⟩ := hat i hi
        rw [h2]
        omega) (fun i j hi hj => by
        rw [ints_length, hAl] at hi
        rw [(hat i hi).2, (hat j (by omega)).2]
        have := hnd i j hi hj
        omega)
      rw [ints_length, hAl] at hall
      have Hall := Lib.hid hall; have Hat := Lib.hid hat
      clear hnd hall hat
      obtain ⟨av, bv, lv, ov, hv1, hv2, hv3, hv4, hv5, hv6⟩ := hia
      rw [ints_length, hAl] at hv1 hv2 hv4 hv6
      obtain ⟨e1, e2⟩ : ao = av ∧ co = bv := by simpa using hv1
      subst e1 e2
      have Hao := Lib.hid hv4
      have Hc := Lib.hid (show ∀ q, q < N → w14.cell? ⟨lv, ov + q, none⟩ = some (.int .i64 (A.getD q 0 : Nat)) from fun q hq => by rw [hv6 q hq, (Hat.out q hq).2])
      obtain ⟨Bg, ga, gc, gb, go', R, rfl, hgc, hga, hgrid⟩ := Hg14.out
      have Hga := Lib.hid hga; have Hgr := Lib.hid hgrid
      have Hlaw := Lib.hid (fun i j k (hj : j < N) (hik : i < k) (hkj : k < j) => HP.out.law (i := i) (j := j) (k := k) (by rw [hAl]; omega) (by rw [hAl]; exact hj) (by rw [hAl]; omega) (by omega) hik (by omega))
      clear hAl hv1 hv3 hv4 hv5 hv6 hga hgrid IA14 IB14 Hg14
      go_upto_region 11 with fail
      go_upto_region 12 with (go_at_call 14; refine Hall.out.mono ?_; rintro e w15 ⟨rfl, hd⟩; obtain ⟨nd, hd⟩ := hd; have E15 := Lib.hid (E14.out.below (show Below w14.heap.size w14 w15 by rw [hd]; exact Below.drewN' (Below.refl _ _) _)); have Hc15 := Lib.hid (fun q hq => below_cell (show Below w14.heap.size w14 w15 by rw [hd]; exact Below.drewN' (Below.refl _ _) _) (Hc.out q hq)); have Hgr15 := Lib.hid (Hgr.out.below (show Below w14.heap.size w14 w15 by rw [hd]; exact Below.drewN' (Below.refl _ _) _)); clear hd)
      clear cn Hall Hc Hgr
      go_wp2
      go_loopg [9, 10, 11] N (fun g s9 s10 s11 wr => ∃ i mm : Nat, i ≤ N ∧ g = N - i ∧ s9 = .int .i64 i ∧ wr = w15.drewN mm)
      case atStart => exact ⟨0, 0, Nat.zero_le _, rfl, rfl, rfl⟩
      case round =>
        obtain ⟨i, mm, hi, rfl, rfl, rfl⟩ := hrel
        by_cases hil : i < N
        · obtain rfl := Hao.out (by omega)
          obtain rfl := (Hga.out (by omega)).1
          have ci := Hc15.out i hil
          have hiN := (Hat.out i hil).1
          have t1 := Hgr15.out.head _ hiN
          have Hl2 := Lib.hid (fun j k (hj : j < N) (hik : i < k) (hkj : k < j) => Hlaw.out i j k hj hik hkj)
          have Hcx := Lib.hid (fun j (hj : j < N) => Hgr15.out.cell hiN hj)
          generalize A.getD i 0 = x at *
          go_wp2
          go_loopg [10, 11] (N - (i + 1)) (fun g s10 s11 wr => ∃ j m2 : Nat, i < j ∧ j ≤ N ∧ g = N - j ∧ s10 = .int .i64 j ∧ wr = w15.drewN m2)
          case atStart => exact ⟨i + 1, mm, by omega, by omega, rfl, by go_num, rfl⟩
          case round =>
            obtain ⟨j, m2, hij, hj, rfl, rfl, rfl⟩ := hrel
            by_cases hjl : j < N
            · have cj := Hc15.out j hjl
              have hjN := (Hat.out j hjl).1
              have t2 := Hgr15.out.head _ hjN
              have t3 := Hcx.out _ hjN
              have Hl3 := Lib.hid (fun k (hik : i < k) (hkj : k < j) => Hl2.out j k hjl hik hkj)
              have Hcy := Lib.hid (fun k (hk : k < N) => Hgr15.out.cell hjN hk)
              generalize A.getD j 0 = y at *
              go_wp2
              go_loopg [11] (j - (i + 1)) (fun g s11 wr => ∃ k m3 : Nat, i < k ∧ k ≤ j ∧ g = j - k ∧ s11 = .int .i64 k ∧ wr = w15.drewN m3)
              case atStart => exact ⟨i + 1, m2, by omega, by omega, rfl, by go_num, rfl⟩
              case round =>
                obtain ⟨k, m3, hik, hk, rfl, rfl, rfl⟩ := hrel
                by_cases hkl : k < j
                · have ck := Hc15.out k (by omega)
                  have hkN := (Hat.out k (by omega)).1
                  have t4 := Hcx.out _ hkN
                  have t5 := Hcy.out _ hkN
                  have hlw := Hl3.out k hik hkl
                  generalize A.getD k 0 = z at *
                  generalize adj l x y = g1 at *
                  generalize adj l x z = g2 at *
                  generalize adj l y z = g3 at *
                  have hg3 : g1 = true → g2 = true → g3 = true := hlw
                  clear hlw
                  cases g1 with
                  | false =>
                    clear hg3
                    go_wp2
                    go_quiet (fail)
                    go_wp2
                    go_roundg (j - (k + 1))
                    case measure => go_light; omega
                    case rel => exact ⟨k + 1, m3 + nq, by omega, by omega, rfl, by go_num, rfl⟩
                  | true =>
                    cases g2 with
                    | false =>
                      clear hg3
                      go_wp2
                      go_quiet (fail)
                      go_wp2
                      go_roundg (j - (k + 1))
                      case measure => go_light; omega
                      case rel => exact ⟨k + 1, m3 + nq, by omega, by omega, rfl, by go_num, rfl⟩
                    | true =>
                      obtain rfl := hg3 rfl rfl
                      clear hg3
                      go_wp2
                      go_quiet (fail)
                      go_wp2
                      go_roundg (j - (k + 1))
                      case measure => go_light; omega
                      case rel => exact ⟨k + 1, m3 + nq, by omega, by omega, rfl, by go_num, rfl⟩
                · obtain rfl : k = j := by omega
                  go_wp2
                  go_roundg (N - (k + 1))
                  case measure => go_light; omega
                  case rel => exact ⟨k + 1, m3, by omega, by omega, rfl, by go_num, rfl⟩
            · obtain rfl : j = N := by omega
              go_wp2
              go_roundg (j - (i + 1))
              case measure => go_light; omega
              case rel => exact ⟨i + 1, m2, by omega, rfl, by go_num, rfl⟩
        · obtain rfl : i = N := by omega
          go_wp2
          go_ret
          exact ⟨rfl, Below.drewN' E15.out.hb _⟩
    · have HH := Lib.hid hH
      clear hH HAB
      have hge := HH.out.ge
      have hle := HH.out.le
      have HclrC := Lib.hid (fun gv W (hg : HasGrid W gv N (adj l)) (hm : IsInts W (.slice ah B2.length ch) (ints B2)) => clear_yes N (adj l) gv _ B2 W hN hg hm HH.out)
      generalize hbn : B2.length = bn at *
      have hq1 : decide ((0 : Int) < (bn : Int)) = true := by simp; omega
      have hq2 : decide ((3 : Int) < (bn : Int)) = true := by simp; omega
      have hq3 : (0 : Int) < (bn : Int) := by omega
      have hq4 : (3 : Int) < (bn : Int) := by omega
      have Hbn := Lib.hid hbn
      clear hbn
      go_upto_region 10 with fail
      go_wp2_with (go_at_call 13; refine (HclrC.out _ _ Hg14.out IB14.out).mono ?_; rintro e w15 ⟨rfl, hb15⟩; have E15 := Lib.hid (E14.out.below hb15); clear hb15)
      go_ret
      exact ⟨rfl, E15.out.hb⟩

end Go.Proofs.Ytnhhohhhpaejmaa
