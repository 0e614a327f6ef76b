/- arborlaw.ChordsCliques answers true: the walk. -/
import Derived.Test.YtnhhohhhpaejmaaCBeg
import Derived.Test.YtnhhohhhpaejmaaRcqW
import Derived.Test.YtnhhohhhpaejmaaSmallF
import Derived.Test.YtnhhohhhpaejmaaLists
import Derived.Test.YtnhhohhhpaejmaaKeptS
import Derived.Test.YtnhhohhhpaejmaaGOwn
import Derived.Test.YtnhhohhhpaejmaaLBox
import Derived.Test.YtnhhohhhpaejmaaPF
import Derived.Test.YtnhhohhhpaejmaaGridOf
namespace Go.Proofs.Ytnhhohhhpaejmaa
open Go Go.RowKit

theorem upp9 {a b c : World} (h : Below a.heap.size a b) (k : Below b.heap.size b c) : Below a.heap.size a c := h.trans (k.mono h.size)
set_option maxHeartbeats 1600000 in
set_option maxRecDepth 100000 in
theorem cliquesLaw_any (n : Int) (l : List (Int × Int)) (hl : l.length * 16 ≤ 140737488351232) (sv : Value) (w : World) (h : IsEdges w sv l) :
    Calls Try.prog 4 #[.agg #[.int .i64 n, sv]] w fun e w' => e = .returned (.bool true) ∧ Below w.heap.size w w' := by
  obtain ⟨ad, cap, rfl⟩ := h.form
  have hb1 := below1 w (Obj.cells #[.int .i64 n, .slice ad l.length cap] 24)
  have c0 := two_cells w (.int .i64 n) (.slice ad l.length cap) 24
  have cn := c0.1
  have cs := c0.2
  have he := h.below hb1
  have H0 := Lib.hid h
  clear c0 h
  go_enter Try.func4, Try.ntmps4
  go_upto_region 1 with fail
  generalize w.alloc (Obj.cells #[.int .i64 n, .slice ad l.length cap] 24) = w1 at *
  have Cn := Lib.hid (And.intro cn cs); have He := Lib.hid he; have Hb1 := Lib.hid hb1
  clear he hb1
  go_wp2_with fail
  refine (own_any l n (.slice ad l.length cap) _ He.out hl).mono ?_
  rintro e w2 ⟨v2, rfl, ho2, hb2⟩
  obtain ⟨a2, c2, rfl⟩ := ho2.form
  have hb3 := upp9 hb2 (below1 w2 (Obj.cells #[.int .i64 n, .slice a2 l.length c2] 24))
  have o0 := two_cells w2 (.int .i64 n) (.slice a2 l.length c2) 24
  have E3 := Lib.hid (show LB w (w2.alloc (Obj.cells #[.int .i64 n, .slice a2 l.length c2] 24)) n (.slice ad l.length cap) (.slice a2 l.length c2) l w2.heap.size from ⟨Hb1.out.trans (hb3.mono Hb1.out.size), below_cell hb3 Cn.out.1, below_cell hb3 Cn.out.2, o0.1, o0.2, He.out.below hb3, ho2.edges.below (below1 w2 _)⟩)
  have Ho3 := Lib.hid (ho2.below (below1 w2 (Obj.cells #[.int .i64 n, .slice a2 l.length c2] 24)))
  have Hlt := Lib.hid (show ∀ g, (Value.slice a2 l.length c2).ownBlock = some g → g < w2.heap.size from fun g e => (World.ownsRow.lt ho2 g e).2)
  have lB := Nat.lt_of_lt_of_le (show w.heap.size < w1.heap.size from World.block_lt_of_cell? _ _ cn) hb2.size
  clear cn cs ho2 hb2 hb3 o0 He Hb1 Cn
  go_upto_region 2 with fail
  generalize w2.alloc (Obj.cells #[.int .i64 n, .slice a2 l.length c2] 24) = w3 at *
  generalize w2.heap.size = B at *
  have cn := E3.out.cn
  have cs := E3.out.cs
  go_wp2_with fail
  refine (smallFault_any n 24 l _ _ E3.out.he).mono ?_
  rintro e w5 ⟨c, a, hsp, rfl, hb5⟩
  have Hsp := Lib.hid hsp
  have F6 := Lib.hid (FV.new w5 c a)
  have E6 := Lib.hid (E3.out.below (upp9 hb5 (below1 w5 (Obj.cells #[.int .i64 c, .int .i64 a] 27))))
  have lC : B < w5.heap.size := Nat.lt_of_lt_of_le (World.block_lt_of_cell? _ _ E3.out.on) hb5.size
  have Ho6 := Lib.hid (Ho3.out.below (upp9 hb5 (below1 w5 (Obj.cells #[.int .i64 c, .int .i64 a] 27))))
  clear hsp hb5 cn cs
  go_upto_region 3 with fail
  generalize w5.alloc (Obj.cells #[.int .i64 c, .int .i64 a] 27) = w6 at *
  generalize w5.heap.size = C at *
  have on := E6.out.on
  have os := E6.out.os
  have cn := E6.out.cn
  have cs := E6.out.cs
  obtain ⟨f0, f1, f2, f3, f4⟩ := F6.out.facts
  go_wp2_with fail
  refine (cliquesT_any n l _ _ E6.out.ho).mono ?_
  rintro e w10 ⟨c', a', v, rfl, hsp', hb10, hres⟩
  obtain ⟨e1, e2⟩ := SmallSpec.uniq hsp' Hsp.out
  subst e1 e2
  have b11 := upp9 hb10 (below1 w10 (Obj.cells #[.int .i64 c', .int .i64 a'] 27))
  have E11 := Lib.hid (E6.out.below b11)
  have F11 := Lib.hid (F6.out.below b11)
  have G11 := Lib.hid (FV.new w10 c' a')
  have hlist : ∃ M : List (List Int), (∃ av cv, v = .slice av M.length cv) ∧ IsRows w10 v M ∧ ((c' ≠ 0 ∧ M = []) ∨ (c' = 0 ∧ ∃ N L, n = ((N : Nat) : Int) ∧ N ≤ 24 ∧ GoodGraph n l ∧ IsCqs N (adj l) L ∧ M = L.map ints)) := by
    rcases hres with ⟨hc, rfl⟩ | ⟨hc, N, L, h1, h2, h3, h4, -, h5⟩
    · exact ⟨[], ⟨none, 0, rfl⟩, (IRow.nil w10 0).rows, .inl ⟨hc, rfl⟩⟩
    · exact ⟨L.map ints, h5.form, h5.rows, .inr ⟨hc, N, L, h1, h2, h3, h4, rfl⟩⟩
  obtain ⟨M, ⟨av, cv, rfl⟩, hrows, hcase⟩ := hlist
  have R11 := Lib.hid (hrows.below (below1 w10 (Obj.cells #[.int .i64 c', .int .i64 a'] 27)))
  have Hcase := Lib.hid hcase
  clear f0 f1 f2 f3 f4 on os cn cs b11 hsp' hb10 hres hrows hcase
  go_upto_region 4 with fail
  generalize w10.alloc (Obj.cells #[.int .i64 c', .int .i64 a'] 27) = w11 at *
  generalize w10.heap.size = D at *
  go_wp2_with fail
  refine (chordsBegun_any w11).mono ?_
  rintro e w12 ⟨rfl, hb12⟩
  have E12 := Lib.hid (E11.out.below hb12); have F12 := Lib.hid (F11.out.below hb12); have G12 := Lib.hid (G11.out.below hb12); have R12 := Lib.hid (R11.out.below hb12)
  clear hb12 E11 F11 G11 R11
  have on := E12.out.on
  have os := E12.out.os
  have cn := E12.out.cn
  have cs := E12.out.cs
  obtain ⟨h0, h1, -, -, -⟩ := F12.out.facts
  obtain ⟨g0, g1, -, -, -⟩ := G12.out.facts
  go_wp2_with fail
  refine (kept_is (r := true) (by simp) _ _ w12 E12.out.ho E12.out.he).mono ?_
  rintro e w13 ⟨rfl, hb13⟩
  have E13 := Lib.hid (E12.out.below hb13); have F13 := Lib.hid (F12.out.below hb13); have R13 := Lib.hid (R12.out.below hb13)
  clear hb13 on os cn cs h0 h1 g0 g1 E12 F12 G12 R12
  obtain ⟨h0, h1, -, -, -⟩ := F13.out.facts
  rcases Hcase.out with ⟨hc, rfl⟩ | ⟨rfl, N, L, rfl, hN24, hgood, hL, rfl⟩
  · have q : (c' == 0) = false := by simp [hc]
    have q2 : (c' != 0) = true := by simp [hc]
    clear hc Hcase
    go_wp2
    go_ret
    exact ⟨rfl, E13.out.hb⟩
  · have Hg := Lib.hid hgood; have HL := Lib.hid hL
    have Hok := Lib.hid (show ∀ j, j < l.length → EndsOk (N : Int) (l.getD j (0, 0)) ∧ (l.getD j (0, 0)).1 ≠ (l.getD j (0, 0)).2 from fun j hj => ⟨(Hg.out.fine j hj).1, (Hg.out.fine j hj).2.1⟩)
    have hr13 := R13.out
    rw [List.length_map] at hr13 ⊢
    have R13 := Lib.hid hr13
    clear hgood hL Hcase hr13
    have cn := E13.out.cn
    have cs := E13.out.cs
    by_cases hN : N ≤ 11
    · have q3 : ¬ ((11 : Int) < (N : Int)) := by omega
      go_wp2_with fail
      refine (gridOf_any l N _ _ E13.out.he (by omega) Hok.out).mono ?_
      rintro e w14 ⟨v5, rfl, hg14, hb14⟩
      have Hg14 := Lib.hid (show HasGrid w14 v5 N (adj l) from ⟨_, hg14⟩)
      have E14 := Lib.hid (E13.out.below hb14); have R14 := Lib.hid (R13.out.below hb14)
      clear hg14 hb14 cn cs h0 h1
      go_wp2_with fail
      refine (rcq_any N (adj l) v5 w14 hN (good_symC (l := l) (N := N)) Hg14.out).mono ?_
      rintro e w15 ⟨r, L2, rfl, hI2, hir2, hb15⟩
      have E15 := Lib.hid (E14.out.below hb15); have R15 := Lib.hid (R14.out.below hb15)
      have hd := hI2.done
      have hLL : L = L2 := HL.out.uniq ⟨hd.1, hd.2⟩
      subst hLL
      have R2 := Lib.hid hir2.rows
      clear hb15 hI2 hir2 hd
      go_wp2_with fail
      refine (lists_any (L.map ints) (L.map ints) _ r w15 R15.out R2.out).mono ?_
      rintro e w16 ⟨rfl, hdr⟩
      rw [decide_eq_true rfl]
      have E16 := Lib.hid (E15.out.below hdr.below)
      clear hdr
      go_wp2
      go_ret
      exact ⟨rfl, E16.out.hb⟩
    · have q3 : (11 : Int) < (N : Int) := by omega
      go_wp2
      go_ret
      exact ⟨rfl, E13.out.hb⟩

end Go.Proofs.Ytnhhohhhpaejmaa
