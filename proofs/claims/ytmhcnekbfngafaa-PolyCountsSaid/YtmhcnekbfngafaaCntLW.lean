/- arborlaw.PolyCounts answers true: the walk. -/
import Derived.Test.YtmhcnekbfngafaaPBegun
import Derived.Test.YtmhcnekbfngafaaPMatW
import Derived.Test.YtmhcnekbfngafaaPLooW
import Derived.Test.YtmhcnekbfngafaaPRinW
import Derived.Test.YtmhcnekbfngafaaRLooW
import Derived.Test.YtmhcnekbfngafaaRMatT
import Derived.Test.YtmhcnekbfngafaaRRings
import Derived.Test.YtmhcnekbfngafaaSmallF
import Derived.Test.YtmhcnekbfngafaaGridOf
import Derived.Test.YtmhcnekbfngafaaKeptS
import Derived.Test.YtmhcnekbfngafaaGOwn
import Derived.Test.YtmhcnekbfngafaaLBox
import Derived.Test.YtmhcnekbfngafaaFVar
namespace Go.Proofs.Ytmhcnekbfngafaa
open Go Go.RowKit

theorem IsInts.form {w : World} {v : Value} {m : List Int} (h : IsInts w v m) : ∃ a c, v = .slice a m.length c := by
  obtain ⟨a, c, _, _, rfl, _⟩ := h
  exact ⟨a, c, rfl⟩
set_option maxHeartbeats 1600000 in
set_option maxRecDepth 100000 in
theorem countsLaw_any (n : Int) (l : List (Int × Int)) (hl : l.length * 16 ≤ 140737488351232) (sv : Value) (w : World) (h : IsEdges w sv l) :
    Calls Try.prog 4 #[.agg #[.int .i64 n, sv]] w fun e w' => e = .returned (.bool true) ∧ Below w.heap.size w w' := by
  obtain ⟨ad, cap, rfl⟩ := h.form
  have hb1 := below1 w (Obj.cells #[.int .i64 n, .slice ad l.length cap] 24)
  have c0 := two_cells w (.int .i64 n) (.slice ad l.length cap) 24
  have cn := c0.1
  have cs := c0.2
  have he := h.below hb1
  have H0 := Lib.hid h
  clear c0 h
  go_enter Try.func4, Try.ntmps4
  go_upto_region 1 with fail
  generalize w.alloc (Obj.cells #[.int .i64 n, .slice ad l.length cap] 24) = w1 at *
  have Cn := Lib.hid (And.intro cn cs); have He := Lib.hid he; have Hb1 := Lib.hid hb1
  clear he hb1
  go_wp2_with fail
  refine (own_any l n (.slice ad l.length cap) _ He.out hl).mono ?_
  rintro e w2 ⟨v2, rfl, ho2, hb2⟩
  obtain ⟨a2, c2, rfl⟩ := ho2.form
  have hb3 := upp0 hb2 (below1 w2 (Obj.cells #[.int .i64 n, .slice a2 l.length c2] 24))
  have o0 := two_cells w2 (.int .i64 n) (.slice a2 l.length c2) 24
  have E3 := Lib.hid (show LB w (w2.alloc (Obj.cells #[.int .i64 n, .slice a2 l.length c2] 24)) n (.slice ad l.length cap) (.slice a2 l.length c2) l w2.heap.size from ⟨Hb1.out.trans (hb3.mono Hb1.out.size), below_cell hb3 Cn.out.1, below_cell hb3 Cn.out.2, o0.1, o0.2, He.out.below hb3, ho2.edges.below (below1 w2 _)⟩)
  have Ho3 := Lib.hid (ho2.below (below1 w2 (Obj.cells #[.int .i64 n, .slice a2 l.length c2] 24)))
  have Hlt := Lib.hid (show ∀ g, (Value.slice a2 l.length c2).ownBlock = some g → g < w2.heap.size from fun g e => (World.ownsRow.lt ho2 g e).2)
  have lB := Nat.lt_of_lt_of_le (show w.heap.size < w1.heap.size from World.block_lt_of_cell? _ _ cn) hb2.size
  clear cn cs ho2 hb2 hb3 o0 He Hb1 Cn
  go_upto_region 2 with fail
  generalize w2.alloc (Obj.cells #[.int .i64 n, .slice a2 l.length c2] 24) = w3 at *
  generalize w2.heap.size = B at *
  have cn := E3.out.cn
  have cs := E3.out.cs
  go_wp2_with fail
  refine (smallFault_any n 12 l _ _ E3.out.he).mono ?_
  rintro e w5 ⟨c, a, hsp, rfl, hb5⟩
  have Hsp := Lib.hid hsp
  have F6 := Lib.hid (FV.new w5 c a)
  have E6 := Lib.hid (E3.out.below (upp0 hb5 (below1 w5 (Obj.cells #[.int .i64 c, .int .i64 a] 27))))
  have lC : B < w5.heap.size := Nat.lt_of_lt_of_le (World.block_lt_of_cell? _ _ E3.out.on) hb5.size
  have Ho6 := Lib.hid (Ho3.out.below (upp0 hb5 (below1 w5 (Obj.cells #[.int .i64 c, .int .i64 a] 27))))
  clear hsp hb5 cn cs
  go_upto_region 3 with fail
  generalize w5.alloc (Obj.cells #[.int .i64 c, .int .i64 a] 27) = w6 at *
  generalize w5.heap.size = C at *
  have on := E6.out.on
  have os := E6.out.os
  have cn := E6.out.cn
  have cs := E6.out.cs
  obtain ⟨f0, f1, f2, f3, f4⟩ := F6.out.facts
  go_wp2_with fail
  refine (pmat_any n l _ _ E6.out.ho).mono ?_
  rintro e w7 ⟨c1, a1, v1, rfl, hsp1, hb7, hr1⟩
  obtain ⟨rfl, rfl⟩ := hsp1.uniq Hsp.out
  obtain ⟨L1, hi1, hk1⟩ : ∃ L, IsInts w7 v1 L ∧ ((c1 ≠ 0 ∧ L = []) ∨ (c1 = 0 ∧ ∃ N : Nat, n = N ∧ IsCnt L (matA (elN l) fun i => (2 ^ N - 1).testBit i))) := by
    rcases hr1 with ⟨h1, rfl⟩ | ⟨h1, -, N, L, h2, h3, h4⟩
    · exact ⟨[], IsInts.nil _, Or.inl ⟨h1, rfl⟩⟩
    · exact ⟨L, h4, Or.inr ⟨h1, N, h2, h3⟩⟩
  obtain ⟨x1, y1, rfl⟩ := hi1.form
  have b8 := upp0 hb7 (below1 w7 (Obj.cells #[.int .i64 c1, .int .i64 a1] 27))
  have E8 := Lib.hid (E6.out.below b8); have F8 := Lib.hid (F6.out.below b8); have G8 := Lib.hid (FV.new w7 c1 a1)
  have I8 := Lib.hid (hi1.below (below1 w7 (Obj.cells #[.int .i64 c1, .int .i64 a1] 27)))
  have K1 := Lib.hid hk1
  clear on os cn cs f0 f1 f2 f3 f4 hsp1 hb7 hr1 hi1 hk1 b8
  go_upto_region 4 with fail
  generalize w7.alloc (Obj.cells #[.int .i64 c1, .int .i64 a1] 27) = w8 at *
  generalize w7.heap.size = D1 at *
  have on := E8.out.on
  have os := E8.out.os
  go_wp2_with fail
  refine (ploose_any n l _ _ E8.out.ho).mono ?_
  rintro e w9 ⟨c2', a2', v2', rfl, hsp2, hb9, hr2⟩
  obtain ⟨rfl, rfl⟩ := hsp2.uniq Hsp.out
  obtain ⟨L2, hi2, hk2⟩ : ∃ L, IsInts w9 v2' L ∧ ((c2' ≠ 0 ∧ L = []) ∨ (c2' = 0 ∧ ∃ N : Nat, n = N ∧ IsCnt L (looA N (adj l) (2 ^ N - 1)))) := by
    rcases hr2 with ⟨h1, rfl⟩ | ⟨h1, -, N, L, h2, h3, h4⟩
    · exact ⟨[], IsInts.nil _, Or.inl ⟨h1, rfl⟩⟩
    · exact ⟨L, h4, Or.inr ⟨h1, N, h2, h3⟩⟩
  obtain ⟨x2, y2, rfl⟩ := hi2.form
  have b10 := upp0 hb9 (below1 w9 (Obj.cells #[.int .i64 c2', .int .i64 a2'] 27))
  have E10 := Lib.hid (E8.out.below b10); have F10 := Lib.hid (F8.out.below b10); have G10 := Lib.hid (G8.out.below b10); have P10 := Lib.hid (FV.new w9 c2' a2')
  have I10 := Lib.hid (I8.out.below b10)
  have J10 := Lib.hid (hi2.below (below1 w9 (Obj.cells #[.int .i64 c2', .int .i64 a2'] 27)))
  have K2 := Lib.hid hk2
  clear on os hsp2 hb9 hr2 hi2 hk2 b10
  go_upto_region 5 with fail
  generalize w9.alloc (Obj.cells #[.int .i64 c2', .int .i64 a2'] 27) = w10 at *
  generalize w9.heap.size = D2 at *
  have on := E10.out.on
  have os := E10.out.os
  go_wp2_with fail
  refine (prings_any n l _ _ E10.out.ho).mono ?_
  rintro e w11 ⟨c3, a3, x3, rfl, hsp3, hb11, hr3⟩
  obtain ⟨rfl, rfl⟩ := hsp3.uniq Hsp.out
  have K3 := Lib.hid hr3
  have b12 := upp0 hb11 (below1 w11 (Obj.cells #[.int .i64 c3, .int .i64 a3] 27))
  have E12 := Lib.hid (E10.out.below b12); have F12 := Lib.hid (F10.out.below b12); have G12 := Lib.hid (G10.out.below b12); have P12 := Lib.hid (P10.out.below b12); have Q12 := Lib.hid (FV.new w11 c3 a3)
  have I12 := Lib.hid (I10.out.below b12); have J12 := Lib.hid (J10.out.below b12)
  clear on os hsp3 hb11 hr3 b12
  go_upto_region 6 with fail
  generalize w11.alloc (Obj.cells #[.int .i64 c3, .int .i64 a3] 27) = w12 at *
  generalize w11.heap.size = D3 at *
  go_wp2_with fail
  refine (polyBegun_any w12).mono ?_
  rintro e w13 ⟨rfl, hb13⟩
  have E13 := Lib.hid (E12.out.below hb13); have F13 := Lib.hid (F12.out.below hb13); have G13 := Lib.hid (G12.out.below hb13); have P13 := Lib.hid (P12.out.below hb13); have Q13 := Lib.hid (Q12.out.below hb13); have I13 := Lib.hid (I12.out.below hb13); have J13 := Lib.hid (J12.out.below hb13)
  clear hb13 E12 F12 G12 P12 Q12 I12 J12
  have on := E13.out.on
  have os := E13.out.os
  have cn := E13.out.cn
  have cs := E13.out.cs
  obtain ⟨h0, h1, -, -, -⟩ := F13.out.facts
  obtain ⟨g0, g1, -, -, -⟩ := G13.out.facts
  obtain ⟨p0, p1, -, -, -⟩ := P13.out.facts
  obtain ⟨q0, q1, -, -, -⟩ := Q13.out.facts
  go_wp2_with fail
  refine (kept_is (r := true) (by simp) _ _ w13 E13.out.ho E13.out.he).mono ?_
  rintro e w14 ⟨rfl, hb14⟩
  have E14 := Lib.hid (E13.out.below hb14); have F14 := Lib.hid (F13.out.below hb14); have I14 := Lib.hid (I13.out.below hb14); have J14 := Lib.hid (J13.out.below hb14)
  clear hb14 on os cn cs h0 h1 g0 g1 p0 p1 q0 q1 E13 F13 G13 P13 Q13 I13 J13
  obtain ⟨h0, h1, -, -, -⟩ := F14.out.facts
  have cn := E14.out.cn
  have cs := E14.out.cs
  by_cases hc : c3 = 0
  · subst hc
    obtain ⟨rfl, hn0, hn1, hl1, hok⟩ := small_good Hsp.out
    obtain ⟨N, rfl⟩ := Int.eq_ofNat_of_zero_le hn0
    have hN : N ≤ 12 := by omega
    have Hok := Lib.hid hok
    have HFn := Lib.hid (small_fine Hsp.out)
    have hno := adj_self fun j hj => (hok j hj).2
    have C1 := Lib.hid (show IsCnt L1 (matA (elN l) fun i => decide (i < N)) by
      rcases K1.out with ⟨h, -⟩ | ⟨-, N', h, h2⟩
      · exact absurd rfl h
      · obtain rfl : N = N' := by omega
        have : (fun i => (2 ^ N - 1).testBit i) = fun i => decide (i < N) := funext fun i => Nat.testBit_two_pow_sub_one N i
        rw [this] at h2
        exact h2)
    have C2 := Lib.hid (show L2 = rlL N (adj l) (2 ^ N) by
      rcases K2.out with ⟨h, -⟩ | ⟨-, N', h, h2⟩
      · exact absurd rfl h
      · obtain rfl : N = N' := by omega
        exact h2.uniq (rl_cnt (adj_sy l) hno))
    have C3 := Lib.hid (show x3 = if N < 3 then 0 else wrap64 (Int.tdiv (wI (rngN N (adj l) (visL [0]) (N - 1) 0)) 2) by
      rcases K3.out with ⟨h, -⟩ | ⟨-, -, N', h, h2⟩
      · exact absurd rfl h
      · obtain rfl : N = N' := by omega
        have : visL [0] = fun u => decide (u = 0) := by
          funext u; unfold visL; simp [List.contains_cons]
        rw [this]; exact h2)
    clear hok hno hn0
    go_wp2_with fail
    refine (gridOf_any l N _ _ E14.out.he (by omega) Hok.out).mono ?_
    rintro e w15 ⟨v5, rfl, hg15, hb15⟩
    have Hg15 := Lib.hid (show HasGrid w15 v5 N (adj l) from ⟨_, hg15⟩)
    have E15 := Lib.hid (E14.out.below hb15); have I15 := Lib.hid (I14.out.below hb15); have J15 := Lib.hid (J14.out.below hb15)
    clear hg15 hb15 cn cs h0 h1
    go_upto_region 11 with fail
    go_wp2_with fail
    refine (rloose_any N (adj l) hN v5 w15 Hg15.out).mono ?_
    rintro e w16 ⟨v6, rfl, hi6, hb16⟩
    have E16 := Lib.hid (E15.out.below hb16); have I16 := Lib.hid (I15.out.below hb16); have J16 := Lib.hid (J15.out.below hb16); have G16 := Lib.hid (Hg15.out.below hb16); have I6 := Lib.hid hi6
    clear hi6 hb16
    go_wp2_with fail
    refine (ints_is (c := true) _ _ _ _ w16 J16.out I6.out (decide_eq_true C2.out)).mono ?_
    rintro e w17 ⟨rfl, hd17⟩
    have hb17 : Below w16.heap.size w16 w17 := hd17.below
    have E17 := Lib.hid (E16.out.below hb17); have I17 := Lib.hid (I16.out.below hb17); have G17 := Lib.hid (G16.out.below hb17)
    have cn := E17.out.cn
    have cs := E17.out.cs
    clear hd17 hb17
    by_cases h14 : l.length ≤ 14
    · have h14i : (l.length : Int) ≤ 14 := by omega
      go_wp2_with fail
      refine (rmatTop_any (N := N) (by omega) l _ w17 E17.out.he (fine_ends HFn.out) h14).mono ?_
      rintro e w18 ⟨v7, rfl, hi7, hb18⟩
      have E18 := Lib.hid (E17.out.below hb18); have I18 := Lib.hid (I17.out.below hb18); have G18 := Lib.hid (G17.out.below hb18); have I7 := Lib.hid hi7
      have C4 := Lib.hid (show L1 = mRef (elN l) (fun u => decide (u < N)) 0 [] from C1.out.uniq (mRef_cnt _ _))
      clear hi7 hb18 cn cs
      go_wp2_with fail
      refine (ints_is (c := true) _ _ _ _ w18 I18.out I7.out (decide_eq_true C4.out)).mono ?_
      rintro e w19 ⟨rfl, hd19⟩
      have hb19 : Below w18.heap.size w18 w19 := hd19.below
      have E20 := Lib.hid (E18.out.below hb19); have G20 := Lib.hid (G18.out.below hb19)
      have cn := E20.out.cn
      have cs := E20.out.cs
      clear hd19 hb19
      by_cases h8 : 8 < N
      · have h8i : (N : Int) > 8 := by omega
        go_wp2
        go_ret
        exact ⟨rfl, E20.out.hb⟩
      · have h8i : ¬ (N : Int) > 8 := by omega
        go_wp2_with fail
        refine (rringsTop_any N (adj l) (by omega) v5 w19 (G20.out)).mono ?_
        rintro e w21 ⟨rfl, hb21⟩
        have Hb := Lib.hid (E20.out.hb.trans (hb21.mono E20.out.hb.size))
        have hx := C3.out
        generalize (if N < 3 then 0 else wrap64 (Int.tdiv (wI (rngN N (adj l) (visL [0]) (N - 1) 0)) 2)) = z at *
        subst hx
        clear hb21
        go_wp2
        go_ret
        exact ⟨rfl, Hb.out⟩
    · have h14i : ¬ (l.length : Int) ≤ 14 := by omega
      by_cases h8 : 8 < N
      · have h8i : (N : Int) > 8 := by omega
        go_wp2
        go_ret
        exact ⟨rfl, E17.out.hb⟩
      · have h8i : ¬ (N : Int) > 8 := by omega
        go_wp2_with fail
        refine (rringsTop_any N (adj l) (by omega) v5 w17 (G17.out)).mono ?_
        rintro e w21 ⟨rfl, hb21⟩
        have Hb := Lib.hid (E17.out.hb.trans (hb21.mono E17.out.hb.size))
        have hx := C3.out
        generalize (if N < 3 then 0 else wrap64 (Int.tdiv (wI (rngN N (adj l) (visL [0]) (N - 1) 0)) 2)) = z at *
        subst hx
        clear hb21
        go_wp2
        go_ret
        exact ⟨rfl, Hb.out⟩
  · have q : (c3 != 0) = true := by simp [hc]
    obtain rfl : L1 = [] := by
      rcases K1.out with ⟨-, h⟩ | ⟨h, -⟩
      · exact h
      · exact absurd h hc
    obtain rfl : L2 = [] := by
      rcases K2.out with ⟨-, h⟩ | ⟨h, -⟩
      · exact h
      · exact absurd h hc
    obtain rfl : x3 = 0 := by
      rcases K3.out with ⟨-, h⟩ | ⟨h, -⟩
      · exact h
      · exact absurd h hc
    clear hc
    go_wp2
    go_ret
    exact ⟨rfl, E14.out.hb⟩

end Go.Proofs.Ytmhcnekbfngafaa
