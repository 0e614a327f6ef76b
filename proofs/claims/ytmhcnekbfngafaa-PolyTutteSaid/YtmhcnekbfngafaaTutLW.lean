/- arborlaw.PolyTutte answers true: the walk. -/
import Derived.Test.YtmhcnekbfngafaaPBegun
import Derived.Test.YtmhcnekbfngafaaRTutW
import Derived.Test.YtmhcnekbfngafaaKeptS
import Derived.Test.YtmhcnekbfngafaaGOwn
import Derived.Test.YtmhcnekbfngafaaLBox
import Derived.Test.YtmhcnekbfngafaaFVar
namespace Go.Proofs.Ytmhcnekbfngafaa
open Go Go.RowKit

theorem IsRows.form {w : World} {v : Value} {m : List (List Int)} (h : IsRows w v m) : ∃ a c, v = .slice a m.length c := by
  obtain ⟨a, c, _, _, rfl, _⟩ := h
  exact ⟨a, c, rfl⟩
theorem FV.turn {w : World} {b : Nat} {c a : Int} (h : FV w b c a) (c' a' : Int) : FV ((w.setCell ⟨b, 0, none⟩ (.int .i64 c')).setCell ⟨b, 1, none⟩ (.int .i64 a')) b c' a' := h.put c' a'
theorem OwnE.setFar {w : World} {base C : Nat} {v : Value} {l : List (Int × Int)} (h : OwnE w base v l) (hg : ∀ g, v.ownBlock = some g → g ≠ C) (k : Nat) (x : Value) : OwnE (w.setCell ⟨C, k, none⟩ x) base v l := by
  have h0 : w.ownsRow base 61 2 v l.length (cells2 l) := h
  refine h0.kept (grown_set w C k x) ?_
  cases hv : v.ownBlock with
  | none => exact Or.inl rfl
  | some g => exact Or.inr (fun e => hg g hv (Option.some.inj e))
theorem LB.turn {w wr : World} {n : Int} {v v2 : Value} {l : List (Int × Int)} {B C base : Nat} (h : LB w wr n v v2 l B) (hv : IsEdges w v l) (ho : OwnE wr base v2 l) (hg : ∀ g, v2.ownBlock = some g → g ≠ C) (hC : w.heap.size < C) (hBC : C ≠ B) (x y : Value) :
    LB w ((wr.setCell ⟨C, 0, none⟩ x).setCell ⟨C, 1, none⟩ y) n v v2 l B := by
  have hb := (h.hb.setCell (p := ⟨C, 0, none⟩) (show w.heap.size ≤ C by omega) x).setCell (p := ⟨C, 1, none⟩) (show w.heap.size ≤ C by omega) y
  have far : ∀ (b i : Nat) (u : Value), C ≠ b → wr.cell? ⟨b, i, none⟩ = some u → ((wr.setCell ⟨C, 0, none⟩ x).setCell ⟨C, 1, none⟩ y).cell? ⟨b, i, none⟩ = some u := fun b i u hne hc => by
    rw [World.cell?_setCell_far _ _ _ _ (show C ≠ b from hne), World.cell?_setCell_far _ _ _ _ (show C ≠ b from hne)]; exact hc
  exact ⟨hb, far _ _ _ (by omega) h.cn, far _ _ _ (by omega) h.cs, far _ _ _ hBC h.on, far _ _ _ hBC h.os, hv.below hb, ((ho.setFar hg 0 x).setFar hg 1 y).edges⟩

set_option maxHeartbeats 1600000 in
set_option maxRecDepth 100000 in
theorem tutteLaw_any (n : Int) (l : List (Int × Int)) (hl : l.length * 16 ≤ 140737488351232) (sv : Value) (w : World) (h : IsEdges w sv l) :
    Calls Try.prog 3 #[.agg #[.int .i64 n, sv]] w fun e w' => e = .returned (.bool true) ∧ Below w.heap.size w w' := by
  obtain ⟨ad, cap, rfl⟩ := h.form
  have hb1 := below1 w (Obj.cells #[.int .i64 n, .slice ad l.length cap] 24)
  have c0 := two_cells w (.int .i64 n) (.slice ad l.length cap) 24
  have cn := c0.1
  have cs := c0.2
  have he := h.below hb1
  have H0 := Lib.hid h
  clear c0 h
  go_enter Try.func3, Try.ntmps3
  go_upto_region 1 with fail
  generalize w.alloc (Obj.cells #[.int .i64 n, .slice ad l.length cap] 24) = w1 at *
  have Cn := Lib.hid (And.intro cn cs); have He := Lib.hid he; have Hb1 := Lib.hid hb1
  clear he hb1
  go_wp2_with fail
  refine (own_any l n (.slice ad l.length cap) _ He.out hl).mono ?_
  rintro e w2 ⟨v2, rfl, ho2, hb2⟩
  obtain ⟨a2, c2, rfl⟩ := ho2.form
  have hb3 := upp0 hb2 (below1 w2 (Obj.cells #[.int .i64 n, .slice a2 l.length c2] 24))
  have o0 := two_cells w2 (.int .i64 n) (.slice a2 l.length c2) 24
  have E3 := Lib.hid (show LB w (w2.alloc (Obj.cells #[.int .i64 n, .slice a2 l.length c2] 24)) n (.slice ad l.length cap) (.slice a2 l.length c2) l w2.heap.size from ⟨Hb1.out.trans (hb3.mono Hb1.out.size), below_cell hb3 Cn.out.1, below_cell hb3 Cn.out.2, o0.1, o0.2, He.out.below hb3, ho2.edges.below (below1 w2 _)⟩)
  have Ho3 := Lib.hid (ho2.below (below1 w2 (Obj.cells #[.int .i64 n, .slice a2 l.length c2] 24)))
  have Hlt := Lib.hid (show ∀ g, (Value.slice a2 l.length c2).ownBlock = some g → g < w2.heap.size from fun g e => (World.ownsRow.lt ho2 g e).2)
  have lB := Nat.lt_of_lt_of_le (show w.heap.size < w1.heap.size from World.block_lt_of_cell? _ _ cn) hb2.size
  clear cn cs ho2 hb2 hb3 o0 He Hb1 Cn
  go_upto_region 2 with fail
  generalize w2.alloc (Obj.cells #[.int .i64 n, .slice a2 l.length c2] 24) = w3 at *
  generalize w2.heap.size = B at *
  have cn := E3.out.cn
  have cs := E3.out.cs
  go_wp2_with fail
  refine (rcheck_any l n _ _ E3.out.he).mono ?_
  rintro e w5 ⟨c, a, hsp, rfl, hb5⟩
  have Hsp := Lib.hid hsp
  have F6 := Lib.hid (FV.new w5 c a)
  have E6 := Lib.hid (E3.out.below (upp0 hb5 (below1 w5 (Obj.cells #[.int .i64 c, .int .i64 a] 27))))
  have lC : B < w5.heap.size := Nat.lt_of_lt_of_le (World.block_lt_of_cell? _ _ E3.out.on) hb5.size
  have Ho6 := Lib.hid (Ho3.out.below (upp0 hb5 (below1 w5 (Obj.cells #[.int .i64 c, .int .i64 a] 27))))
  clear hsp hb5 cn cs
  go_upto_region 3 with fail
  generalize w5.alloc (Obj.cells #[.int .i64 c, .int .i64 a] 27) = w6 at *
  generalize w5.heap.size = C at *
  have on := E6.out.on
  have os := E6.out.os
  have cn := E6.out.cn
  have cs := E6.out.cs
  obtain ⟨f0, f1, f2, f3, f4⟩ := F6.out.facts
  by_cases hc : c = 0
  · subst hc
    obtain ⟨hgood, rfl⟩ := Hsp.out.good
    have hn0 := hgood.lo
    have hn1 := hgood.hi
    obtain ⟨N, rfl⟩ := Int.eq_ofNat_of_zero_le hn0
    have Hg := Lib.hid hgood
    clear hgood
    by_cases h12 : 12 < l.length
    · have q12 : (l.length : Int) > 12 := by omega
      go_wp2_with fail
      refine (F_any 2 0 w6).mono ?_
      rintro e w7 ⟨rfl, rfl⟩
      have E7 := Lib.hid (E6.out.below (below1 w6 (Obj.cells #[.int .i64 2, .int .i64 0] 27)))
      have F7 := Lib.hid (F6.out.below (below1 w6 (Obj.cells #[.int .i64 2, .int .i64 0] 27)))
      have E8 := Lib.hid (E7.out.turn H0.out (Ho6.out.below (below1 w6 (Obj.cells #[.int .i64 2, .int .i64 0] 27))) (fun g e => by have := Hlt.out g e; omega) (show w.heap.size < C by omega) (show C ≠ B by omega) (.int .i64 2) (.int .i64 0))
      have F8 := Lib.hid (F7.out.put 2 0)
      obtain ⟨k0, k1, k2, k3, k4⟩ := F7.out.facts
      clear f0 f1 f2 f3 f4 on os cn cs
      go_upto_region 5 with fail
      generalize ((w6.alloc (Obj.cells #[.int .i64 2, .int .i64 0] 27)).setCell ⟨C, 0, none⟩ (.int .i64 2)).setCell ⟨C, 1, none⟩ (.int .i64 0) = w8 at *
      have on := E8.out.on
      have os := E8.out.os
      have cn := E8.out.cn
      have cs := E8.out.cs
      clear k0 k1 k2 k3 k4
      go_wp2_with fail
      refine (tutteP_any (N : Int) l _ _ E8.out.ho).mono ?_
      rintro e w10 ⟨c', a', cv, ll, rfl, hrows, hsp', hb10⟩
      obtain ⟨rfl, rfl, rfl⟩ : c' = 2 ∧ a' = 0 ∧ ll = [] := by
        rcases hsp' with ⟨h1, h2, -⟩ | ⟨-, -, h3⟩ | ⟨-, h2, -⟩
        · exact absurd (h1.uniq Hsp.out).1 h2
        · exact h3
        · exact absurd h12 (by omega)
      clear hsp'
      obtain ⟨av, kv, rfl⟩ := hrows.form
      have b11 := upp0 hb10 (below1 w10 (Obj.cells #[.int .i64 (2), .int .i64 (0)] 27))
      have E11 := Lib.hid (E8.out.below b11)
      have F11 := Lib.hid (F8.out.below b11)
      have G11 := Lib.hid (FV.new w10 (2) (0))
      have R11 := Lib.hid (hrows.below (below1 w10 (Obj.cells #[.int .i64 (2), .int .i64 (0)] 27)))
      clear on os cn cs hrows hb10 b11
      go_upto_region 6 with fail
      generalize w10.alloc (Obj.cells #[.int .i64 (2), .int .i64 (0)] 27) = w11 at *
      generalize w10.heap.size = D at *
      go_wp2_with fail
      refine (polyBegun_any w11).mono ?_
      rintro e w12 ⟨rfl, hb12⟩
      have E12 := Lib.hid (E11.out.below hb12); have F12 := Lib.hid (F11.out.below hb12); have G12 := Lib.hid (G11.out.below hb12); have R12 := Lib.hid (R11.out.below hb12)
      clear hb12 E11 F11 G11 R11
      have on := E12.out.on
      have os := E12.out.os
      have cn := E12.out.cn
      have cs := E12.out.cs
      obtain ⟨h0, h1, -, -, -⟩ := F12.out.facts
      obtain ⟨g0, g1, -, -, -⟩ := G12.out.facts
      go_wp2_with fail
      refine (kept_is (r := true) (by simp) _ _ w12 E12.out.ho E12.out.he).mono ?_
      rintro e w13 ⟨rfl, hb13⟩
      have E13 := Lib.hid (E12.out.below hb13); have F13 := Lib.hid (F12.out.below hb13); have R13 := Lib.hid (R12.out.below hb13)
      clear hb13 on os cn cs h0 h1 g0 g1 E12 F12 G12 R12
      obtain ⟨h0, h1, -, -, -⟩ := F13.out.facts
      have cn := E13.out.cn
      have cs := E13.out.cs
      go_wp2
      go_ret
      exact ⟨rfl, E13.out.hb⟩
    · have q12 : ¬ (l.length : Int) > 12 := by omega
      go_wp2_with fail
      refine (tutteP_any (N : Int) l _ _ E6.out.ho).mono ?_
      rintro e w10 ⟨c', a', cv, ll, rfl, hrows, hsp', hb10⟩
      obtain ⟨rfl, rfl, hll⟩ : c' = 0 ∧ a' = 0 ∧ ∃ R C, IsDims (tutN id (elN l)) R C ∧ ll = tabL (tutN id (elN l)) R C := by
        rcases hsp' with ⟨h1, h2, -⟩ | ⟨-, h2, -⟩ | ⟨-, -, h3, h4, h5⟩
        · exact absurd (h1.uniq Hsp.out).1 h2
        · exact absurd h2 h12
        · exact ⟨h3, h4, h5⟩
      clear hsp' f0 f1 f2 f3 f4
      obtain ⟨av, kv, rfl⟩ := hrows.form
      have b11 := upp0 hb10 (below1 w10 (Obj.cells #[.int .i64 (0), .int .i64 (0)] 27))
      have E11 := Lib.hid (E6.out.below b11)
      have F11 := Lib.hid (F6.out.below b11)
      have G11 := Lib.hid (FV.new w10 (0) (0))
      have R11 := Lib.hid (hrows.below (below1 w10 (Obj.cells #[.int .i64 (0), .int .i64 (0)] 27)))
      clear on os cn cs hrows hb10 b11
      go_upto_region 6 with fail
      generalize w10.alloc (Obj.cells #[.int .i64 (0), .int .i64 (0)] 27) = w11 at *
      generalize w10.heap.size = D at *
      go_wp2_with fail
      refine (polyBegun_any w11).mono ?_
      rintro e w12 ⟨rfl, hb12⟩
      have E12 := Lib.hid (E11.out.below hb12); have F12 := Lib.hid (F11.out.below hb12); have G12 := Lib.hid (G11.out.below hb12); have R12 := Lib.hid (R11.out.below hb12)
      clear hb12 E11 F11 G11 R11
      have on := E12.out.on
      have os := E12.out.os
      have cn := E12.out.cn
      have cs := E12.out.cs
      obtain ⟨h0, h1, -, -, -⟩ := F12.out.facts
      obtain ⟨g0, g1, -, -, -⟩ := G12.out.facts
      go_wp2_with fail
      refine (kept_is (r := true) (by simp) _ _ w12 E12.out.ho E12.out.he).mono ?_
      rintro e w13 ⟨rfl, hb13⟩
      have E13 := Lib.hid (E12.out.below hb13); have F13 := Lib.hid (F12.out.below hb13); have R13 := Lib.hid (R12.out.below hb13)
      clear hb13 on os cn cs h0 h1 g0 g1 E12 F12 G12 R12
      obtain ⟨h0, h1, -, -, -⟩ := F13.out.facts
      have cn := E13.out.cn
      have cs := E13.out.cs
      by_cases h9 : 9 < l.length
      · have q9 : (l.length : Int) > 9 := by omega
        go_wp2
        go_ret
        exact ⟨rfl, E13.out.hb⟩
      · have q9 : ¬ (l.length : Int) > 9 := by omega
        by_cases hN12 : 12 < N
        · have qN : (N : Int) > 12 := by omega
          go_wp2
          go_ret
          exact ⟨rfl, E13.out.hb⟩
        · have qN : ¬ (N : Int) > 12 := by omega
          go_wp2_with fail
          refine (rtutte_any Hg.out (by omega) (by omega) _ w13 E13.out.he).mono ?_
          rintro e w14 ⟨v14, R, C, rfl, hd, hr14, hb14⟩
          obtain ⟨R', C', hd', hll'⟩ := hll
          obtain ⟨rfl, rfl⟩ := hd.uniq hd'
          subst hll'
          have E14 := Lib.hid (E13.out.below hb14)
          go_wp2_with fail
          refine (lists_any _ _ _ _ w14 (R13.out.below hb14) hr14).mono ?_
          rintro e w15 ⟨rfl, hd15⟩
          rw [decide_eq_true rfl]
          have E15 := Lib.hid (E14.out.below hd15.below)
          clear hd15 hr14 hb14 cn cs h0 h1
          go_wp2
          go_ret
          exact ⟨rfl, E15.out.hb⟩
  · have q : (c == 0) = false := by simp [hc]
    have q2 : (c != 0) = true := by simp [hc]
    have Hc := Lib.hid hc
    clear hc
    go_wp2_with fail
    refine (tutteP_any n l _ _ E6.out.ho).mono ?_
    rintro e w10 ⟨c', a', cv, ll, rfl, hrows, hsp', hb10⟩
    obtain ⟨rfl, rfl, rfl⟩ : c' = c ∧ a' = a ∧ ll = [] := by
      rcases hsp' with ⟨h1, h2, h3⟩ | ⟨h1, -⟩ | ⟨h1, -⟩
      · exact ⟨(h1.uniq Hsp.out).1, (h1.uniq Hsp.out).2, h3⟩
      · exact absurd (Hsp.out.uniq h1).1 Hc.out
      · exact absurd (Hsp.out.uniq h1).1 Hc.out
    clear hsp' f0 f1 f2 f3 f4
    obtain ⟨av, kv, rfl⟩ := hrows.form
    have b11 := upp0 hb10 (below1 w10 (Obj.cells #[.int .i64 (c'), .int .i64 (a')] 27))
    have E11 := Lib.hid (E6.out.below b11)
    have F11 := Lib.hid (F6.out.below b11)
    have G11 := Lib.hid (FV.new w10 (c') (a'))
    have R11 := Lib.hid (hrows.below (below1 w10 (Obj.cells #[.int .i64 (c'), .int .i64 (a')] 27)))
    clear on os cn cs hrows hb10 b11
    go_upto_region 6 with fail
    generalize w10.alloc (Obj.cells #[.int .i64 (c'), .int .i64 (a')] 27) = w11 at *
    generalize w10.heap.size = D at *
    go_wp2_with fail
    refine (polyBegun_any w11).mono ?_
    rintro e w12 ⟨rfl, hb12⟩
    have E12 := Lib.hid (E11.out.below hb12); have F12 := Lib.hid (F11.out.below hb12); have G12 := Lib.hid (G11.out.below hb12); have R12 := Lib.hid (R11.out.below hb12)
    clear hb12 E11 F11 G11 R11
    have on := E12.out.on
    have os := E12.out.os
    have cn := E12.out.cn
    have cs := E12.out.cs
    obtain ⟨h0, h1, -, -, -⟩ := F12.out.facts
    obtain ⟨g0, g1, -, -, -⟩ := G12.out.facts
    go_wp2_with fail
    refine (kept_is (r := true) (by simp) _ _ w12 E12.out.ho E12.out.he).mono ?_
    rintro e w13 ⟨rfl, hb13⟩
    have E13 := Lib.hid (E12.out.below hb13); have F13 := Lib.hid (F12.out.below hb13); have R13 := Lib.hid (R12.out.below hb13)
    clear hb13 on os cn cs h0 h1 g0 g1 E12 F12 G12 R12
    obtain ⟨h0, h1, -, -, -⟩ := F13.out.facts
    have cn := E13.out.cn
    have cs := E13.out.cs
    go_wp2
    go_ret
    exact ⟨rfl, E13.out.hb⟩

end Go.Proofs.Ytmhcnekbfngafaa
