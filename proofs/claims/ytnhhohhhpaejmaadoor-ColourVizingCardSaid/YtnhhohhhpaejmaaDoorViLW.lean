/- arborlaw.ColourVizing answers true: the walk. -/
import Derived.Test.YtnhhohhhpaejmaaDoorEdsW
import Derived.Test.YtnhhohhhpaejmaaDoorViP
import Derived.Test.YtnhhohhhpaejmaaDoorDegW
import Derived.Test.YtnhhohhhpaejmaaDoorCBegun
import Derived.Test.YtnhhohhhpaejmaaDoorOf
import Derived.Test.YtnhhohhhpaejmaaDoorKeptS
import Derived.Test.YtnhhohhhpaejmaaDoorGOwn
import Derived.Test.YtnhhohhhpaejmaaDoorPC
import Derived.Test.YtnhhohhhpaejmaaDoorPE
import Derived.Test.YtnhhohhhpaejmaaDoorGridOf
namespace Go.Proofs.YtnhhohhhpaejmaaDoor
open Go Go.RowKit

set_option maxRecDepth 100000 in
theorem run_edges (x v : Value) (w : World) : (Instr.field 24 (.agg #[x, v]) 1).run Tryd.prog w = .ok v w := by
  kernel_rfl
theorem upp9 {a b c : World} (h : Below a.heap.size a b) (k : Below b.heap.size b c) : Below a.heap.size a c := h.trans (k.mono h.size)
set_option maxHeartbeats 1600000 in
set_option maxRecDepth 100000 in
theorem vizingLaw_any (n : Int) (l : List (Int × Int)) (hl : l.length * 16 ≤ 140737488351232) (sv : Value) (w : World) (h : IsEdges w sv l) (hT : TabAt 1 Lib.deBruijn64tab w) :
    Calls Tryd.prog 3 #[.agg #[.int .i64 n, sv]] w fun e w' => e = .returned (.bool true) ∧ Below w.heap.size w w' := by
  obtain ⟨ad, cap, rfl⟩ := h.form
  have HT := Lib.hid hT
  clear hT
  have hb1 := below1 w (Obj.cells #[.int .i64 n, .slice ad l.length cap] 24)
  have c0 := two_cells w (.int .i64 n) (.slice ad l.length cap) 24
  have cn := c0.1
  have cs := c0.2
  have he := h.below hb1
  have H0 := Lib.hid h
  clear c0 h
  go_enter Tryd.func3, Tryd.ntmps3
  go_upto_region 1 with fail
  generalize w.alloc (Obj.cells #[.int .i64 n, .slice ad l.length cap] 24) = w1 at *
  have Cn := Lib.hid (And.intro cn cs); have He := Lib.hid he; have Hb1 := Lib.hid hb1
  clear he hb1
  go_wp2_with fail
  refine (own_any l n (.slice ad l.length cap) _ He.out hl).mono ?_
  rintro e w2 ⟨v2, rfl, ho2, hb2⟩
  obtain ⟨a2, c2, rfl⟩ := ho2.form
  have hb3 := upp9 hb2 (below1 w2 (Obj.cells #[.int .i64 n, .slice a2 l.length c2] 24))
  have o0 := two_cells w2 (.int .i64 n) (.slice a2 l.length c2) 24
  have E3 := Lib.hid (show LB w (w2.alloc (Obj.cells #[.int .i64 n, .slice a2 l.length c2] 24)) n (.slice ad l.length cap) (.slice a2 l.length c2) l w2.heap.size from ⟨Hb1.out.trans (hb3.mono Hb1.out.size), below_cell hb3 Cn.out.1, below_cell hb3 Cn.out.2, o0.1, o0.2, He.out.below hb3, ho2.edges.below (below1 w2 _)⟩)
  have Ho3 := Lib.hid (ho2.below (below1 w2 (Obj.cells #[.int .i64 n, .slice a2 l.length c2] 24)))
  have Hlt := Lib.hid (show ∀ g, (Value.slice a2 l.length c2).ownBlock = some g → g < w2.heap.size from fun g e => (World.ownsRow.lt ho2 g e).2)
  have lB := Nat.lt_of_lt_of_le (show w.heap.size < w1.heap.size from World.block_lt_of_cell? _ _ cn) hb2.size
  clear cn cs ho2 hb2 hb3 o0 He Hb1 Cn
  go_upto_region 2 with fail
  generalize w2.alloc (Obj.cells #[.int .i64 n, .slice a2 l.length c2] 24) = w3 at *
  generalize w2.heap.size = B at *
  have cn := E3.out.cn
  have cs := E3.out.cs
  go_wp2_with fail
  refine (rcheck_any l n _ _ E3.out.he).mono ?_
  rintro e w5 ⟨c, a, hsp, rfl, hb5⟩
  have Hsp := Lib.hid hsp
  have F6 := Lib.hid (FV.new w5 c a)
  have E6 := Lib.hid (E3.out.below (upp9 hb5 (below1 w5 (Obj.cells #[.int .i64 c, .int .i64 a] 27))))
  have lC : B < w5.heap.size := Nat.lt_of_lt_of_le (World.block_lt_of_cell? _ _ E3.out.on) hb5.size
  have Ho6 := Lib.hid (Ho3.out.below (upp9 hb5 (below1 w5 (Obj.cells #[.int .i64 c, .int .i64 a] 27))))
  clear hsp hb5 cn cs
  go_upto_region 3 with fail
  generalize w5.alloc (Obj.cells #[.int .i64 c, .int .i64 a] 27) = w6 at *
  generalize w5.heap.size = C at *
  have on := E6.out.on
  have os := E6.out.os
  have cn := E6.out.cn
  have cs := E6.out.cs
  obtain ⟨f0, f1, f2, f3, f4⟩ := F6.out.facts
  obtain ⟨D, hD⟩ : ∃ D, D = maxC (fun v => cnt (adj l v) n.toNat) n.toNat := ⟨_, rfl⟩
  have HD := Lib.hid hD
  have hDg : GoodGraph n l → D ≤ 100 ∧ ∀ N : Nat, n = (N : Int) → ∀ a, a < N → cnt (adj l a) N ≤ D := fun hg => by
    have h1 := hg.hi
    have h0 := hg.lo
    refine ⟨?_, fun N hN a ha => ?_⟩
    · rw [hD]; exact Nat.le_trans (maxC_top _ n.toNat (fun k => cnt_le _ _) _) (by omega)
    · subst hN
      rw [hD]; exact maxC_le (fun v => cnt (adj l v) N) N a ha
  have Hedges := Lib.hid (fun W v2 (h : IsEdges W v2 l) => edges_col D n l hDg v2 W h)
  clear hD hDg
  go_wp2_with fail
  refine (Hedges.out _ _ E6.out.ho).mono ?_
  rintro e w10 ⟨c', a', v, rfl, hsp', hb10, hres⟩
  obtain ⟨e1, e2⟩ := GraphSpec.uniq hsp' Hsp.out
  subst e1 e2
  have b11 := upp9 hb10 (below1 w10 (Obj.cells #[.int .i64 c', .int .i64 a'] 27))
  have E11 := Lib.hid (E6.out.below b11)
  have F11 := Lib.hid (F6.out.below b11)
  have G11 := Lib.hid (FV.new w10 c' a')
  have hlist : ∃ O : List Int, (∃ av cv, v = .slice av O.length cv) ∧ IsInts w10 v O ∧ ((c' ≠ 0 ∧ O = []) ∨ (c' = 0 ∧ ∃ (N : Nat) (C : Nat → Nat → Nat), n = (N : Int) ∧ GoodGraph n l ∧ ColI N (adj l) D C ∧ Done N (prsTo N (adj l) N) C (prsTo N (adj l) N).length ∧ O = (prsTo N (adj l) N).map fun e => (C e.1.toNat e.2.toNat : Int) - 1)) := by
    rcases hres with ⟨hc, rfl⟩ | ⟨hc, N, C, h1, h2, h3, h4, h5⟩
    · exact ⟨[], ⟨none, 0, rfl⟩, IsInts.nil _, .inl ⟨hc, rfl⟩⟩
    · obtain ⟨a0, k0, b0, o0, e0, h6⟩ := id h5
      exact ⟨_, ⟨a0, k0, e0⟩, h5, .inr ⟨hc, N, C, h1, h2, h3, h4, rfl⟩⟩
  obtain ⟨O, ⟨av, cv, rfl⟩, hints, hcase⟩ := hlist
  have R11 := Lib.hid (hints.below (below1 w10 (Obj.cells #[.int .i64 c', .int .i64 a'] 27)))
  have Hcase := Lib.hid hcase
  obtain ⟨m, hm⟩ : ∃ m, O.length = m := ⟨_, rfl⟩
  rw [hm] at R11 ⊢
  have Hm := Lib.hid hm
  clear f0 f1 f2 f3 f4 on os cn cs b11 hsp' hb10 hres hints hcase hm Hedges
  go_upto_region 4 with fail
  generalize w10.alloc (Obj.cells #[.int .i64 c', .int .i64 a'] 27) = w11 at *
  generalize w10.heap.size = DD at *
  go_wp2_with fail
  refine (colourBegun_any w11 (TabAt.below (g := 1) HT.out E11.out.hb)).mono ?_
  rintro e w12 ⟨rfl, hb12⟩
  have E12 := Lib.hid (E11.out.below hb12); have F12 := Lib.hid (F11.out.below hb12); have G12 := Lib.hid (G11.out.below hb12); have R12 := Lib.hid (R11.out.below hb12)
  clear hb12 E11 F11 G11 R11
  have on := E12.out.on
  have os := E12.out.os
  have cn := E12.out.cn
  have cs := E12.out.cs
  obtain ⟨h0, h1, -, -, -⟩ := F12.out.facts
  obtain ⟨g0, g1, -, -, -⟩ := G12.out.facts
  go_wp2_with fail
  refine (kept_is (r := true) (by simp) _ _ w12 E12.out.ho E12.out.he).mono ?_
  rintro e w13 ⟨rfl, hb13⟩
  have E13 := Lib.hid (E12.out.below hb13); have F13 := Lib.hid (F12.out.below hb13); have R13 := Lib.hid (R12.out.below hb13)
  clear hb13 on os cn cs h0 h1 g0 g1 E12 F12 G12 R12
  obtain ⟨h0, h1, -, -, -⟩ := F13.out.facts
  rcases Hcase.out with ⟨hc, rfl⟩ | ⟨rfl, N, C, rfl, hgood, hC, hdn, rfl⟩
  · have q : (c' == 0) = false := by simp [hc]
    have q2 : (c' != 0) = true := by simp [hc]
    obtain rfl : 0 = m := Hm.out
    clear hc Hcase
    go_wp2
    go_ret
    exact ⟨rfl, E13.out.hb⟩
  · have Hg := Lib.hid hgood; have HC := Lib.hid hC; have Hdn := Lib.hid hdn
    have Hok := Lib.hid (show ∀ j, j < l.length → EndsOk (N : Int) (l.getD j (0, 0)) ∧ (l.getD j (0, 0)).1 ≠ (l.getD j (0, 0)).2 from fun j hj => ⟨(Hg.out.fine j hj).1, (Hg.out.fine j hj).2.1⟩)
    have hN : N ≤ 100 := by have := hgood.hi; omega
    have hlm : (prsTo N (adj l) N).length = m := by have := Hm.out; rwa [List.length_map] at this
    have hm1 : m ≤ 1000 := by rw [← hlm, form_length hgood]; exact hgood.len
    have Hlm := Lib.hid hlm
    clear hgood hC hdn Hcase hlm
    have cn := E13.out.cn
    have cs := E13.out.cs
    go_wp2_with fail
    refine (gridOf_any l N _ _ E13.out.he hN Hok.out).mono ?_
    rintro e w14 ⟨v5, rfl, hg14, hb14⟩
    have Hg14 := Lib.hid (show HasGrid w14 v5 N (adj l) from ⟨_, hg14⟩)
    have E14 := Lib.hid (E13.out.below hb14); have R14 := Lib.hid (R13.out.below hb14)
    clear hg14 hb14 cn cs h0 h1
    go_wp2_with fail
    refine (of_any N (adj l) v5 w14 hN Hg14.out).mono ?_
    rintro e w15 ⟨ve, hoe, hb15, rfl⟩
    obtain ⟨ae, ce, rfl⟩ := hoe.form
    rw [Hlm.out]
    have E15 := Lib.hid (E14.out.below hb15); have R15 := Lib.hid (R14.out.below hb15); have Hg15 := Lib.hid (Hg14.out.below hb15)
    have hee := hoe.edges
    rw [Hlm.out] at hee
    have Hee := Lib.hid hee
    have hfld := run_edges (.int .i64 (N : Int)) (.slice ae m ce) w15
    have hDN : maxC (fun v => cnt (adj l v) N) N = D := by have := HD.out; rw [Int.toNat_natCast] at this; exact this.symm
    have hD100 : D ≤ 100 := by rw [← hDN]; exact Nat.le_trans (maxC_top _ N (fun k => cnt_le _ _) _) hN
    have HDN := Lib.hid hDN
    clear hb15 hoe hee hDN
    go_wp2_with fail
    clear hfld
    refine (rdeg_any N (adj l) v5 w15 hN Hg15.out).mono ?_
    rintro e w16 ⟨rfl, hdr⟩
    rw [HDN.out]
    have hb16 : Below w15.heap.size w15 w16 := hdr.below
    have E16 := Lib.hid (E15.out.below hb16); have R16 := Lib.hid (R15.out.below hb16); have He16 := Lib.hid (Hee.out.below hb16)
    clear hb16 hdr
    obtain ⟨a0, k0, b0, o0, e0, -, -, hadr, -, hcell⟩ := R16.out
    rw [Hm.out] at e0 hadr hcell
    obtain ⟨e1, e2⟩ : av = a0 ∧ cv = k0 := by simpa using e0
    subst e1 e2
    obtain ⟨a3, k3, b3, o3, e3, -, -, hadr3, -, hcell3⟩ := He16.out
    rw [Hlm.out] at e3 hadr3 hcell3
    obtain ⟨e1, e2⟩ : ae = a3 ∧ ce = k3 := by simpa using e3
    subst e1 e2
    have hat : ∀ q, q < m → ∃ X Y z : Nat, (prsTo N (adj l) N).getD q (0, 0) = ((X : Int), (Y : Int)) ∧ X < Y ∧ Y < N ∧ C X Y = z + 1 ∧ z ≤ D ∧ w16.cell? ⟨b0, o0 + q, none⟩ = some (.int .i64 (z : Int)) ∧ w16.cell? ⟨b3, o3 + q * 2, none⟩ = some (.int .i64 (X : Int)) ∧ w16.cell? ⟨b3, o3 + q * 2 + 1, none⟩ = some (.int .i64 (Y : Int)) := fun q hq => by
      have hql : q < (prsTo N (adj l) N).length := by rw [Hlm.out]; exact hq
      obtain ⟨X, Y, h1, h2, h3, h4⟩ := prs_at hql
      have h5 : C X Y ≠ 0 := (Hdn.out X Y (by omega) h3).2 ⟨q, hql, .inl h1⟩
      have h6 := HC.out.le X Y (by omega) h3
      have h7 := hcell q hq
      have h8 := hcell3 q hq
      rw [h1] at h8
      have h9 : ((prsTo N (adj l) N).map fun e => (C e.1.toNat e.2.toNat : Int) - 1).getD q 0 = (C X Y : Int) - 1 := by
        rw [List.getD, List.getElem?_map]
        rw [List.getD] at h1
        rw [List.getElem?_eq_getElem hql] at h1 ⊢
        simp only [Option.getD_some, Option.map_some] at h1 ⊢
        rw [h1]; simp
      rw [h9] at h7
      refine ⟨X, Y, C X Y - 1, h1, h2, h3, by omega, by omega, ?_, h8.1, h8.2⟩
      rw [h7, show ((C X Y - 1 : Nat) : Int) = (C X Y : Int) - 1 by omega]
    have Hat := Lib.hid hat; have Hadr := Lib.hid hadr; have Hadr3 := Lib.hid hadr3
    clear e0 e3 hadr hadr3 hcell hcell3 hat
    go_wp2
    go_loopg [10, 11] m (fun g s10 s11 wr => ∃ i mm : Nat, i ≤ m ∧ g = m - i ∧ s10 = .int .i64 (i : Int) ∧ wr = w16.drewN mm)
    case atStart => exact ⟨0, 0, Nat.zero_le _, rfl, rfl, rfl⟩
    case round =>
      obtain ⟨i, mm, hi, rfl, rfl, rfl⟩ := hrel
      by_cases him : i < m
      · obtain rfl := Hadr.out (by omega)
        obtain rfl := Hadr3.out (by omega)
        obtain ⟨X, Y, z, h1, h2, h3, h4, h5, c1, c2, c3⟩ := Hat.out i him
        have H1 := Lib.hid h1; have H4 := Lib.hid h4
        have q1 : ¬ ((z : Int) < 0) := by omega
        have q2 : ¬ ((D : Int) < (z : Int)) := by omega
        clear h1 h4
        go_wp2
        go_loopg [11] i (fun g s11 wr => ∃ j m2 : Nat, j ≤ i ∧ g = i - j ∧ s11 = .int .i64 (j : Int) ∧ wr = w16.drewN m2)
        case atStart => exact ⟨0, mm, Nat.zero_le _, rfl, rfl, rfl⟩
        case round =>
          obtain ⟨j, m2, hj, rfl, rfl, rfl⟩ := hrel
          by_cases hji : j < i
          · obtain ⟨X', Y', z', k1, k2, k3, k4, k5, d1, d2, d3⟩ := Hat.out j (by omega)
            by_cases hzz : z = z'
            · have hap := one_apart HC.out h2 h3 k2 k3 (fun e => prs_ne (i := i) (j := j) (by rw [Hlm.out]; exact him) (by rw [Hlm.out]; omega) (by omega) (by rw [H1.out, k1, e.1, e.2])) (by rw [H4.out]; omega) (by rw [H4.out, k4, hzz])
              obtain ⟨p1, p2, p3, p4⟩ := hap
              have r0 : ((z : Int) == (z' : Int)) = true := by simp [hzz]
              have r1 : ((X : Int) == (X' : Int)) = false := by simp; omega
              have r2 : ((X : Int) == (Y' : Int)) = false := by simp; omega
              have r3 : ((Y : Int) == (X' : Int)) = false := by simp; omega
              have r4 : ((Y : Int) == (Y' : Int)) = false := by simp; omega
              clear hzz k1 k4 p1 p2 p3 p4
              go_wp2
              go_quiet (fail)
              go_wp2
              go_roundg (i - (j + 1))
              case measure => go_light; omega
              case rel => exact ⟨j + 1, m2 + nq, by omega, rfl, by go_num, rfl⟩
            · have r0 : ((z : Int) == (z' : Int)) = false := by simp; omega
              clear hzz k1 k4
              go_wp2
              go_quiet (fail)
              go_wp2
              go_roundg (i - (j + 1))
              case measure => go_light; omega
              case rel => exact ⟨j + 1, m2 + nq, by omega, rfl, by go_num, rfl⟩
          · obtain rfl : j = i := by omega
            go_wp2
            go_roundg (m - (j + 1))
            case measure => go_light; omega
            case rel => exact ⟨j + 1, m2, by omega, rfl, by go_num, rfl⟩
      · obtain rfl : i = m := by omega
        go_wp2
        go_ret
        exact ⟨rfl, Below.drewN' E16.out.hb _⟩

end Go.Proofs.YtnhhohhhpaejmaaDoor
