/- arborlaw.PartsBlocks answers true: the walk. -/
import Derived.Test.YtmhcnekbfngafaaBow
import Derived.Test.YtmhcnekbfngafaaPartB
import Derived.Test.YtmhcnekbfngafaaBlkR
import Derived.Test.YtmhcnekbfngafaaRBlkW
import Derived.Test.YtmhcnekbfngafaaPairsW
import Derived.Test.YtmhcnekbfngafaaPF
import Derived.Test.YtmhcnekbfngafaaGOwn
import Derived.Test.YtmhcnekbfngafaaGridOf
namespace Go.Proofs.Ytmhcnekbfngafaa
open Go Go.RowKit

theorem Blks.form {w : World} {S : Nat} {vs vb : Value} {L : List (List (Int × Int))} (h : Blks w S vs vb L) : ∃ a c, vb = .slice a L.length c := by
  obtain ⟨vals, h1, -⟩ := h
  exact ownsRow_form h1
/-- One block, to be read. -/
theorem Blks.at {w : World} {S c : Nat} {vs : Value} {a : Option Addr} {L : List (List (Int × Int))} (h : Blks w S vs (.slice a L.length c) L) {j : Nat} (hj : j < L.length) : ∃ g r, a = some ⟨g, 0, none⟩ ∧ w.cell? ⟨g, j, none⟩ = some r ∧ IsEdges w r (L.getD j []) := by
  obtain ⟨vals, h1, h2⟩ := h
  obtain ⟨r, er, ho, -⟩ := h2 j hj
  have hv0 := h1
  obtain ⟨g, eg⟩ : ∃ g, a = some ⟨g, 0, none⟩ := by
    rcases hv0.2 with ⟨e, e0⟩ | ⟨g, cap', cur, e, -⟩
    · omega
    · simp only [Value.slice.injEq] at e; exact ⟨g, e.1⟩
  subst eg
  have cr := hv0.cells (g := g) rfl _ _ er
  rw [Addr.add_lit, Nat.zero_add] at cr
  exact ⟨g, r, rfl, cr, ho.edges⟩

theorem upp9 {a b c : World} (h : Below a.heap.size a b) (k : Below b.heap.size b c) : Below a.heap.size a c := h.trans (k.mono h.size)
set_option maxHeartbeats 1600000 in
set_option maxRecDepth 100000 in
theorem blocksLaw_any (n : Int) (l : List (Int × Int)) (hl : l.length * 16 ≤ 140737488351232) (sv : Value) (w : World) (h : IsEdges w sv l) :
    Calls Try.prog 5 #[.agg #[.int .i64 n, sv]] w fun e w' => e = .returned (.bool true) ∧ Below w.heap.size w w' := by
  obtain ⟨ad, cap, rfl⟩ := h.form
  have hb1 := below1 w (Obj.cells #[.int .i64 n, .slice ad l.length cap] 24)
  have c0 := two_cells w (.int .i64 n) (.slice ad l.length cap) 24
  have cn := c0.1
  have cs := c0.2
  have he := h.below hb1
  have H0 := Lib.hid h
  clear c0 h
  go_enter Try.func5, Try.ntmps5
  go_upto_region 1 with fail
  generalize w.alloc (Obj.cells #[.int .i64 n, .slice ad l.length cap] 24) = w1 at *
  have Cn := Lib.hid (And.intro cn cs); have He := Lib.hid he; have Hb1 := Lib.hid hb1
  clear he hb1
  go_wp2_with fail
  refine (own_any l n (.slice ad l.length cap) _ He.out hl).mono ?_
  rintro e w2 ⟨v2, rfl, ho2, hb2⟩
  obtain ⟨a2, c2, rfl⟩ := ho2.form
  have hb3 := upp9 hb2 (below1 w2 (Obj.cells #[.int .i64 n, .slice a2 l.length c2] 24))
  have o0 := two_cells w2 (.int .i64 n) (.slice a2 l.length c2) 24
  have E3 := Lib.hid (show LB w (w2.alloc (Obj.cells #[.int .i64 n, .slice a2 l.length c2] 24)) n (.slice ad l.length cap) (.slice a2 l.length c2) l w2.heap.size from ⟨Hb1.out.trans (hb3.mono Hb1.out.size), below_cell hb3 Cn.out.1, below_cell hb3 Cn.out.2, o0.1, o0.2, He.out.below hb3, ho2.edges.below (below1 w2 _)⟩)
  have Ho3 := Lib.hid (ho2.below (below1 w2 (Obj.cells #[.int .i64 n, .slice a2 l.length c2] 24)))
  have Hlt := Lib.hid (show ∀ g, (Value.slice a2 l.length c2).ownBlock = some g → g < w2.heap.size from fun g e => (World.ownsRow.lt ho2 g e).2)
  have lB := Nat.lt_of_lt_of_le (show w.heap.size < w1.heap.size from World.block_lt_of_cell? _ _ cn) hb2.size
  clear cn cs ho2 hb2 hb3 o0 He Hb1 Cn
  go_upto_region 2 with fail
  generalize w2.alloc (Obj.cells #[.int .i64 n, .slice a2 l.length c2] 24) = w3 at *
  generalize w2.heap.size = B at *
  have cn := E3.out.cn
  have cs := E3.out.cs
  go_wp2_with fail
  refine (rcheck_any l n _ _ E3.out.he).mono ?_
  rintro e w5 ⟨c, a, hsp, rfl, hb5⟩
  have Hsp := Lib.hid hsp
  have F6 := Lib.hid (FV.new w5 c a)
  have E6 := Lib.hid (E3.out.below (upp9 hb5 (below1 w5 (Obj.cells #[.int .i64 c, .int .i64 a] 27))))
  have lC : B < w5.heap.size := Nat.lt_of_lt_of_le (World.block_lt_of_cell? _ _ E3.out.on) hb5.size
  have Ho6 := Lib.hid (Ho3.out.below (upp9 hb5 (below1 w5 (Obj.cells #[.int .i64 c, .int .i64 a] 27))))
  clear hsp hb5 cn cs
  go_upto_region 3 with fail
  generalize w5.alloc (Obj.cells #[.int .i64 c, .int .i64 a] 27) = w6 at *
  generalize w5.heap.size = C at *
  have on := E6.out.on
  have os := E6.out.os
  have cn := E6.out.cn
  have cs := E6.out.cs
  obtain ⟨f0, f1, f2, f3, f4⟩ := F6.out.facts
  by_cases hc : c = 0
  · subst hc
    obtain ⟨hgood, rfl⟩ := Hsp.out.good
    have hn0 := hgood.lo
    have hn1 := hgood.hi
    obtain ⟨N, rfl⟩ := Int.eq_ofNat_of_zero_le hn0
    have Hg := Lib.hid hgood
    clear hgood
    have hN : N ≤ 100 := by omega
    have Hok := Lib.hid (show ∀ j, j < l.length → EndsOk (N : Int) (l.getD j (0, 0)) ∧ (l.getD j (0, 0)).1 ≠ (l.getD j (0, 0)).2 from fun j hj => ⟨(Hg.out.fine j hj).1, (Hg.out.fine j hj).2.1⟩)
    go_wp2_with fail
    refine (pblocks_ok Hg.out _ _ E6.out.ho).mono ?_
    rintro e w10 ⟨v, L, rfl, hv, hb10, hr⟩
    obtain ⟨aL, cL, rfl⟩ := hv.form
    have HV := Lib.hid hv; have HR := Lib.hid (blks_cls Hg.out hr)
    clear hv hr f0 f1 f2 f3 f4
    have b11 := upp9 hb10 (below1 w10 (Obj.cells #[.int .i64 0, .int .i64 0] 27))
    have E11 := Lib.hid (E6.out.below b11)
    have F11 := Lib.hid (F6.out.below b11)
    have G11 := Lib.hid (FV.new w10 0 0)
    have I11 := Lib.hid (HV.out.below (below1 w10 (Obj.cells #[.int .i64 0, .int .i64 0] 27)))
    clear on os cn cs hb10 b11 HV
    go_upto_region 4 with fail
    generalize w10.alloc (Obj.cells #[.int .i64 0, .int .i64 0] 27) = w11 at *
    generalize w10.heap.size = Dd at *
    go_wp2_with fail
    refine (partsBegun_any w11).mono ?_
    rintro e w12 ⟨rfl, hb12⟩
    have E12 := Lib.hid (E11.out.below hb12); have F12 := Lib.hid (F11.out.below hb12); have G12 := Lib.hid (G11.out.below hb12); have I12 := Lib.hid (I11.out.below hb12)
    clear hb12 E11 F11 G11 I11
    have on := E12.out.on
    have os := E12.out.os
    have cn := E12.out.cn
    have cs := E12.out.cs
    obtain ⟨h0, h1, -, -, -⟩ := F12.out.facts
    obtain ⟨g0, g1, -, -, -⟩ := G12.out.facts
    go_wp2_with fail
    refine (kept_is (r := true) (by simp) _ _ w12 E12.out.ho E12.out.he).mono ?_
    rintro e w13 ⟨rfl, hb13⟩
    have E13 := Lib.hid (E12.out.below hb13); have F13 := Lib.hid (F12.out.below hb13); have I13 := Lib.hid (I12.out.below hb13)
    clear hb13 on os cn cs h0 h1 g0 g1 E12 F12 G12 I12
    obtain ⟨h0, h1, -, -, -⟩ := F13.out.facts
    have cn := E13.out.cn
    have cs := E13.out.cs
    by_cases h14 : (14 : Int) < (N : Int)
    · go_wp2
      go_ret
      exact ⟨rfl, E13.out.hb⟩
    by_cases h40 : (40 : Int) < (l.length : Int)
    · go_wp2
      go_ret
      exact ⟨rfl, E13.out.hb⟩
    go_wp2_with fail
    refine (gridOf_any l N _ _ E13.out.he hN Hok.out).mono ?_
    rintro e w14 ⟨v5, rfl, hg14, hb14⟩
    have Hg14 := Lib.hid (show HasGrid w14 v5 N (adj l) from ⟨_, hg14⟩)
    have E14 := Lib.hid (E13.out.below hb14); have I14 := Lib.hid (I13.out.below hb14)
    clear hg14 hb14 cn cs h0 h1 h14 h40
    go_wp2_with fail
    refine (rblocks_any N (adj l) v5 w14 hN Hg14.out (good_gr Hg.out)).mono ?_
    rintro e w15 ⟨x, rfl, hx, hb15⟩
    have E15 := Lib.hid (E14.out.below hb15); have I15 := Lib.hid (I14.out.below hb15)
    have hlx : L = clsE (edG N (adj l)) (twP N (adj l)) := ClsOk.uniq (Twn.eqs (good_gr Hg.out)).1 (Twn.eqs (good_gr Hg.out)).2 HR.out (clsE_ok (prsTo_rise _ _ _) (twP_pre (good_gr Hg.out)) fun i j _ _ => by rw [twP_eqv (good_gr Hg.out)]; exact twP_iff)
    rw [← hlx] at hx
    obtain ⟨aX, cX, rfl⟩ := hx.form
    have X15 := Lib.hid hx
    have hLl : L.length ≤ 10000 := by
      have h1 : L.length ≤ (edG N (adj l)).length := by
        rw [hlx]; unfold clsE; rw [List.length_map]; exact lds_len _ _
      have h2 : (edG N (adj l)).length ≤ N * N := prsTo_length _ _ _
      have : N * N ≤ 100 * 100 := Nat.mul_le_mul hN hN
      omega
    clear hb15 I14 Hg14 hlx hx
    obtain ⟨M, hM⟩ : ∃ M, L.length = M := ⟨_, rfl⟩
    have HM := Lib.hid hM
    have HIa := Lib.hid (fun j (hj : j < L.length) => I15.out.at hj)
    have HXa := Lib.hid (fun j (hj : j < L.length) => X15.out.at hj)
    rw [hM] at hLl HIa HXa ⊢
    clear hM
    go_upto_region 14 with fail
    go_wp2
    go_loopg [8] M (fun g s8 wr => ∃ k : Nat, k ≤ M ∧ g = M - k ∧ s8 = .int .i64 k ∧ Below w15.heap.size w15 wr)
    case atStart => exact ⟨0, Nat.zero_le _, rfl, rfl, Below.refl _ _⟩
    case round =>
      obtain ⟨k, hk, rfl, rfl, hb⟩ := hrel
      have Hb := Lib.hid hb
      by_cases hlt : k < M
      · obtain ⟨gI, rI, e1, c1, he1⟩ := HIa.out k hlt
        obtain ⟨gX, rX, e2, c2, he2⟩ := HXa.out k hlt
        subst e1 e2
        have c1 := below_cell hb c1
        have c2 := below_cell hb c2
        have He1 := Lib.hid (he1.below hb); have He2 := Lib.hid (he2.below hb)
        clear he1 he2 hb
        obtain ⟨a1, k1, rfl⟩ := He1.out.form
        obtain ⟨a2, k2, rfl⟩ := He2.out.form
        go_upto_region 16 with fail
        go_cut [69] from 60 to 69 (fun s69 wx => s69 = .bool false ∧ Below wr.heap.size wr wx)
        case first =>
          have hd0 : Below wr.heap.size wr wr.drew := (Below.refl _ _).drew
          have hdd : decide (L.getD k [] = L.getD k []) = true := by simp
          generalize L.getD k [] = bk at *
          have q0 : wr.drew.cell? ⟨gI, k, none⟩ = some (.slice a1 bk.length k1) ∧ wr.drew.cell? ⟨gX, k, none⟩ = some (.slice a2 bk.length k2) := ⟨c1, c2⟩
          have Hdd := Lib.hid hdd
          clear hdd
          go_region_held3 (fun w' => w'.cell? ⟨gI, k, none⟩ = some (.slice a1 bk.length k1) ∧ w'.cell? ⟨gX, k, none⟩ = some (.slice a2 bk.length k2))
            (first | exact q0 | exact ⟨below_cell hbx c1, below_cell hbx c2⟩)
            (first | (go_at_call 30; refine (rpairs_any bk bk _ _ _ (He1.out.below hd0) (He2.out.below hd0)).mono ?_; rintro e w5 ⟨rfl, hb5⟩; rw [Hdd.out]; have hbx := upb hd0 hb5))
          all_goals (go_wp2_with fail; go_meet; exact ⟨rfl, hbx⟩)
        case rest =>
        obtain ⟨rfl, hb5⟩ := hcut
        rename World => w5
        have Hb5 := Lib.hid (upb Hb.out hb5)
        clear hb5 c1 c2
        go_wp2
        go_roundg (M - (k + 1))
        case measure => go_light; omega
        case rel => exact ⟨k + 1, by omega, rfl, by go_num, Hb5.out⟩
      · obtain rfl : M = k := by omega
        go_wp2
        go_ret
        exact ⟨rfl, upb E15.out.hb Hb.out⟩
  · have q : (c == 0) = false := by simp [hc]
    have q2 : (c != 0) = true := by simp [hc]
    have Hc := Lib.hid hc
    clear hc
    go_wp2_with fail
    refine (pblocks_bad Hsp.out Hc.out _ _ E6.out.ho).mono ?_
    rintro e w10 ⟨rfl, hb10⟩
    clear f0 f1 f2 f3 f4
    have b11 := upp9 hb10 (below1 w10 (Obj.cells #[.int .i64 c, .int .i64 a] 27))
    have E11 := Lib.hid (E6.out.below b11)
    have F11 := Lib.hid (F6.out.below b11)
    have G11 := Lib.hid (FV.new w10 c a)
    clear on os cn cs hb10 b11
    go_upto_region 4 with fail
    generalize w10.alloc (Obj.cells #[.int .i64 c, .int .i64 a] 27) = w11 at *
    generalize w10.heap.size = D at *
    go_wp2_with fail
    refine (partsBegun_any w11).mono ?_
    rintro e w12 ⟨rfl, hb12⟩
    have E12 := Lib.hid (E11.out.below hb12); have F12 := Lib.hid (F11.out.below hb12); have G12 := Lib.hid (G11.out.below hb12)
    clear hb12 E11 F11 G11
    have on := E12.out.on
    have os := E12.out.os
    have cn := E12.out.cn
    have cs := E12.out.cs
    obtain ⟨h0, h1, -, -, -⟩ := F12.out.facts
    obtain ⟨g0, g1, -, -, -⟩ := G12.out.facts
    go_wp2_with fail
    refine (kept_is (r := true) (by simp) _ _ w12 E12.out.ho E12.out.he).mono ?_
    rintro e w13 ⟨rfl, hb13⟩
    have E13 := Lib.hid (E12.out.below hb13); have F13 := Lib.hid (F12.out.below hb13)
    clear hb13 on os cn cs h0 h1 g0 g1 E12 F12 G12
    obtain ⟨h0, h1, -, -, -⟩ := F13.out.facts
    go_wp2
    go_ret
    exact ⟨rfl, E13.out.hb⟩

end Go.Proofs.Ytmhcnekbfngafaa
