/- arborlaw.CodecWrites answers true: the walk. -/
import Derived.Test.YtokjcapheogkoaaDoorCodB
import Derived.Test.YtokjcapheogkoaaDoorPkdW
import Derived.Test.YtokjcapheogkoaaDoorPrdW
import Derived.Test.YtokjcapheogkoaaDoorLBox
import Derived.Test.YtokjcapheogkoaaDoorGOwn
namespace Go.Proofs.YtokjcapheogkoaaDoor
open Go Go.RowKit

set_option maxHeartbeats 3200000 in
set_option maxRecDepth 100000 in
theorem codecWritesLaw_any (n : Int) (l : List (Int × Int)) (hl : l.length * 16 ≤ 140737488351232) (sv : Value) (w : World) (h : IsEdges w sv l) (hT : Pow10 w) :
    Calls Tryd.prog 3 #[.agg #[.int .i64 n, sv]] w fun e w' => e = .returned (.bool true) ∧ Below w.heap.size w w' := by
  have HT := Lib.hid hT
  clear hT
  obtain ⟨ad, cap, rfl⟩ := h.form
  have hb1 := below1 w (Obj.cells #[.int .i64 n, .slice ad l.length cap] 24)
  have c0 := two_cells w (.int .i64 n) (.slice ad l.length cap) 24
  have cn := c0.1
  have cs := c0.2
  have he := h.below hb1
  clear c0 h
  go_enter Tryd.func3, Tryd.ntmps3
  go_upto_region 1 with fail
  generalize w.alloc (Obj.cells #[.int .i64 n, .slice ad l.length cap] 24) = w1 at *
  have Cn := Lib.hid (And.intro cn cs); have He := Lib.hid he; have Hb1 := Lib.hid hb1
  clear he hb1
  go_wp2_with fail
  refine (own_any l n (.slice ad l.length cap) _ He.out hl).mono ?_
  rintro e w2 ⟨v2, rfl, ho2, hb2⟩
  obtain ⟨a2, c2, rfl⟩ := ho2.form
  have hb3 := upp hb2 (below1 w2 (Obj.cells #[.int .i64 n, .slice a2 l.length c2] 24))
  have o0 := two_cells w2 (.int .i64 n) (.slice a2 l.length c2) 24
  have E3 := Lib.hid (show LB w (w2.alloc (Obj.cells #[.int .i64 n, .slice a2 l.length c2] 24)) n (.slice ad l.length cap) (.slice a2 l.length c2) l w2.heap.size from ⟨Hb1.out.trans (hb3.mono Hb1.out.size), below_cell hb3 Cn.out.1, below_cell hb3 Cn.out.2, o0.1, o0.2, He.out.below hb3, ho2.edges.below (below1 w2 _)⟩)
  clear cn cs ho2 hb2 hb3 o0 He Hb1 Cn
  go_upto_region 2 with fail
  generalize w2.alloc (Obj.cells #[.int .i64 n, .slice a2 l.length c2] 24) = w3 at *
  generalize w2.heap.size = B at *
  have cn := E3.out.cn
  have cs := E3.out.cs
  go_wp2_with fail
  refine (rcheck_any l n _ _ E3.out.he).mono ?_
  rintro e w5 ⟨c, a, hsp, rfl, hb5⟩
  have Hsp := Lib.hid hsp
  have F6 := Lib.hid (FV.new w5 c a)
  have E6 := Lib.hid (E3.out.below (upp hb5 (below1 w5 (Obj.cells #[.int .i64 c, .int .i64 a] 27))))
  clear hsp hb5 cn cs
  go_upto_region 3 with fail
  generalize w5.alloc (Obj.cells #[.int .i64 c, .int .i64 a] 27) = w6 at *
  generalize w5.heap.size = C at *
  have on := E6.out.on
  have os := E6.out.os
  go_wp2_with fail
  refine (pack_any n l _ _ E6.out.ho).mono ?_
  rintro e w10 ⟨c', a', s1, rfl, hsp', hb10, hres1⟩
  obtain ⟨e1, e2⟩ := Hsp.out.uniq hsp'
  subst e1
  subst e2
  have b11 := upp hb10 (below1 w10 (Obj.cells #[.int .i64 c, .int .i64 a] 27))
  have E11 := Lib.hid (E6.out.below b11)
  have F11 := Lib.hid (F6.out.below b11)
  have G11 := Lib.hid (FV.new w10 c a)
  have R1 := Lib.hid hres1
  clear on os hb10 hsp' hres1 b11 E6 F6
  go_upto_region 4 with fail
  generalize w10.alloc (Obj.cells #[.int .i64 c, .int .i64 a] 27) = w11 at *
  generalize w10.heap.size = D at *
  have on := E11.out.on
  have os := E11.out.os
  go_wp2_with fail
  refine (print_any n l _ _ E11.out.ho (HT.out.below E11.out.hb)).mono ?_
  rintro e w12 ⟨c', a', s2, rfl, hsp', hb12, hres2⟩
  obtain ⟨e1, e2⟩ := Hsp.out.uniq hsp'
  subst e1
  subst e2
  have b13 := upp hb12 (below1 w12 (Obj.cells #[.int .i64 c, .int .i64 a] 27))
  have E13 := Lib.hid (E11.out.below b13)
  have F13 := Lib.hid (F11.out.below b13)
  have G13 := Lib.hid (G11.out.below b13)
  have I13 := Lib.hid (FV.new w12 c a)
  have R2 := Lib.hid hres2
  clear on os hb12 hsp' hres2 b13 E11 F11 G11
  go_upto_region 5 with fail
  generalize w12.alloc (Obj.cells #[.int .i64 c, .int .i64 a] 27) = w13 at *
  generalize w12.heap.size = D2 at *
  go_wp2_with fail
  refine (codecBegun_any _ (HT.out.below E13.out.hb)).mono ?_
  rintro e w14 ⟨rfl, hb14⟩
  have E14 := Lib.hid (E13.out.below hb14); have F14 := Lib.hid (F13.out.below hb14); have G14 := Lib.hid (G13.out.below hb14); have I14 := Lib.hid (I13.out.below hb14)
  clear hb14 F13 G13 I13 E13
  have on := E14.out.on
  have os := E14.out.os
  have cn := E14.out.cn
  have cs := E14.out.cs
  obtain ⟨f0, f1, -, -, -⟩ := F14.out.facts
  obtain ⟨g0, g1, -, -, -⟩ := G14.out.facts
  obtain ⟨i0, i1, -, -, -⟩ := I14.out.facts
  have hsame := same_any l l n n (.slice a2 l.length c2) (.slice ad l.length cap) w14 E14.out.ho E14.out.he
  rw [decide_eq_true (⟨rfl, rfl⟩ : n = n ∧ l = l)] at hsame
  have Hsame := Lib.hid hsame
  clear hsame
  go_wp2_with fail
  refine Hsame.out.mono ?_
  rintro e w15 ⟨rfl, hb15⟩
  have E15 := Lib.hid (E14.out.below hb15); have F15 := Lib.hid (F14.out.below hb15)
  clear hb15 E14 F14 G14 I14 on os cn cs f0 f1 g0 g1 i0 i1 Hsame
  obtain ⟨f0, f1, -, -, -⟩ := F15.out.facts
  have cn := E15.out.cn
  have cs := E15.out.cs
  by_cases hz : c = 0
  · subst hz
    obtain ⟨hgood, rfl⟩ := Hsp.out.good
    obtain ⟨-, hn0, hn1, -, -⟩ := graph_good' Hsp.out
    obtain ⟨N, rfl⟩ := Int.eq_ofNat_of_zero_le hn0
    have hN : N ≤ 100 := by omega
    have Hgood := Lib.hid hgood
    have hs1 : s1 = packS N (adj l) := by
      rcases R1.out with ⟨h, -⟩ | ⟨-, -, N', h1, h2⟩
      · exact absurd rfl h
      · obtain rfl : N' = N := by omega
        exact h2
    have hs2 : s2 = bA (txtN N (prsTo N (adj l) N)) := by
      rcases R2.out with ⟨h, -⟩ | ⟨-, -, N', h1, h2⟩
      · exact absurd rfl h
      · obtain rfl : N' = N := by omega
        exact h2
    have Hs1 := Lib.hid hs1; have Hs2 := Lib.hid hs2
    clear hs1 hs2 hn0 hn1 hgood R1 R2
    go_wp2_with fail
    refine (packed_any Hgood.out hN _ _ E15.out.he).mono ?_
    rintro e w16 ⟨rfl, hb16⟩
    rw [← Hs1.out]
    have E16 := Lib.hid (E15.out.below hb16)
    clear hb16 cn cs
    have cn := E16.out.cn
    have cs := E16.out.cs
    go_wp2_with fail
    refine (printed_any Hgood.out hN _ _ E16.out.he).mono ?_
    rintro e w17 ⟨rfl, hb17⟩
    rw [← Hs2.out]
    have E17 := Lib.hid (E16.out.below hb17)
    clear hb17 cn cs
    go_wp2
    go_ret
    exact ⟨rfl, E17.out.hb⟩
  · have q : (c != 0) = true := by simp [hz]
    obtain rfl : s1 = ⟨#[]⟩ := by
      rcases R1.out with ⟨-, h⟩ | ⟨h, -⟩
      · exact h
      · exact absurd h hz
    obtain rfl : s2 = ⟨#[]⟩ := by
      rcases R2.out with ⟨-, h⟩ | ⟨h, -⟩
      · exact h
      · exact absurd h hz
    have Hz := Lib.hid hz
    clear hz
    go_wp2
    go_ret
    exact ⟨rfl, E15.out.hb⟩

end Go.Proofs.YtokjcapheogkoaaDoor
