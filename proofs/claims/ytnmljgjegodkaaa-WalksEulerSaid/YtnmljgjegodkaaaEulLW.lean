/- arborlaw.WalksEuler answers true: the walk. -/
import Derived.Test.YtnmljgjegodkaaaWBeg
import Derived.Test.YtnmljgjegodkaaaRAloW
import Derived.Test.YtnmljgjegodkaaaRWalW
import Derived.Test.YtnmljgjegodkaaaRJoiW
import Derived.Test.YtnmljgjegodkaaaROddW
import Derived.Test.YtnmljgjegodkaaaPF
import Derived.Test.YtnmljgjegodkaaaGOwn
import Derived.Test.YtnmljgjegodkaaaGridOf
namespace Go.Proofs.Ytnmljgjegodkaaa
open Go Go.RowKit

/-- What walks.Euler answers for a good graph, in short. -/
theorem EulerPost.good {N : Nat} {l : List (Int × Int)} {w w' : World} {e : Ending} (hg : GoodGraph N l) (h : EulerPost (N : Int) l w e w') :
    ∃ c O v, e = .returned (.tuple #[v, .agg #[.int .i64 c, .int .i64 0]]) ∧ Below w.heap.size w w' ∧ IsInts w' v (ints O) ∧
      ((c = 9 ∧ O = [] ∧ (hangB N (adj l) = false ∨ 2 < (oddL N (adj l)).length)) ∨
       (c = 0 ∧ hangB N (adj l) = true ∧ (oddL N (adj l)).length ≤ 2 ∧ O.length ≤ 1001 ∧ (∀ x ∈ O, x < N) ∧ (∀ j, j + 1 < O.length → adj l (O.getD j 0) (O.getD (j + 1) 0) = true) ∧ (l.length = 0 → O = []) ∧ ∀ x y, adj l x y = true → alongC O ((x : Int), (y : Int)) (O.length - 1) = 1)) := by
  obtain ⟨c0, a0, c, a, v, hs, rfl, hb, hcase⟩ := h
  obtain ⟨rfl, rfl⟩ := hs.uniq hg.spec
  rcases hcase with ⟨h1, -⟩ | ⟨-, -, N', e1, -, hcase⟩
  · exact absurd rfl h1
  · have e1 := Int.ofNat.inj e1
    subst e1
    rcases hcase with ⟨rfl, rfl, rfl, rfl⟩ | ⟨-, h1, rfl, rfl, rfl⟩ | ⟨hl, h1, h2, rfl, rfl, f, p, O, eO, hE, ho, hT⟩
    · have no : ∀ x y, ¬ adj [] x y = true := fun x y h => by rw [adj_nil] at h; cases h
      refine ⟨0, [], _, rfl, hb, IsInts.nil _, .inr ⟨rfl, hangB_yes fun x y a b hx => absurd hx.2.2 (no x y), ?_, by simp, by simp, by simp, by simp, fun x y h => absurd h (no x y)⟩⟩
      have : oddL N (adj []) = [] := by
        refine List.eq_nil_iff_forall_not_mem.2 fun v hv => ?_
        have h := (mem_oddL.1 hv).2
        have h2 : cntN N (adj [] v) = cntN N (fun _ => false) := cntN_congr fun i _ => by unfold adj hasE; simp
        rw [cntN_false] at h2
        omega
      rw [this]; simp
    · exact ⟨9, [], _, rfl, hb, IsInts.nil _, .inl ⟨rfl, rfl, h1⟩⟩
    · have hT' : TrF N (l ++ []).length (edE (l ++ [])) f p O eO := by rw [List.append_nil]; exact hT
      have hh := hangB_iff.1 h1
      have hall := hT'.hang hg hh hE.edge (fun q hq => absurd hq (by simp))
      have hst := hT'.step hg (fun q hq => absurd hq (by simp))
      rw [List.append_nil] at hall
      have hlen := hT.len hall
      have := hg.len
      exact ⟨0, O, v, rfl, hb, ho, .inr ⟨rfl, h1, h2, by omega, hT.rng, hst, fun h0 => by omega, fun x y ha => hT.once hg hall ha⟩⟩
theorem upp9 {a b c : World} (h : Below a.heap.size a b) (k : Below b.heap.size b c) : Below a.heap.size a c := h.trans (k.mono h.size)
/-- walks.Euler where the graph is bad. -/
theorem EulerPost.bad {n : Int} {l : List (Int × Int)} {c a : Int} {w w' : World} {e : Ending} (hs : GraphSpec n l c a) (hc : c ≠ 0) (h : EulerPost n l w e w') :
    e = .returned (.tuple #[.slice none 0 0, .agg #[.int .i64 c, .int .i64 a]]) ∧ Below w.heap.size w w' := by
  obtain ⟨c0, a0, c', a', v, hs', rfl, hb, hcase⟩ := h
  obtain ⟨rfl, rfl⟩ := hs'.uniq hs
  rcases hcase with ⟨-, rfl, rfl, rfl⟩ | ⟨h1, -⟩
  · exact ⟨rfl, hb⟩
  · exact absurd h1 hc

set_option maxHeartbeats 6400000 in
set_option maxRecDepth 100000 in
theorem eulerLaw_any (n : Int) (l : List (Int × Int)) (hl : l.length * 16 ≤ 140737488351232) (sv : Value) (w : World) (h : IsEdges w sv l) :
    Calls Try.prog 4 #[.agg #[.int .i64 n, sv]] w fun e w' => e = .returned (.bool true) ∧ Below w.heap.size w w' := by
  obtain ⟨ad, cap, rfl⟩ := h.form
  have hb1 := below1 w (Obj.cells #[.int .i64 n, .slice ad l.length cap] 24)
  have c0 := two_cells w (.int .i64 n) (.slice ad l.length cap) 24
  have cn := c0.1
  have cs := c0.2
  have he := h.below hb1
  have H0 := Lib.hid h
  clear c0 h
  go_enter Try.func4, Try.ntmps4
  go_upto_region 1 with fail
  generalize w.alloc (Obj.cells #[.int .i64 n, .slice ad l.length cap] 24) = w1 at *
  have Cn := Lib.hid (And.intro cn cs); have He := Lib.hid he; have Hb1 := Lib.hid hb1
  clear he hb1
  go_wp2_with fail
  refine (own_any l n (.slice ad l.length cap) _ He.out hl).mono ?_
  rintro e w2 ⟨v2, rfl, ho2, hb2⟩
  obtain ⟨a2, c2, rfl⟩ := ho2.form
  have hb3 := upp9 hb2 (below1 w2 (Obj.cells #[.int .i64 n, .slice a2 l.length c2] 24))
  have o0 := two_cells w2 (.int .i64 n) (.slice a2 l.length c2) 24
  have E3 := Lib.hid (show LB w (w2.alloc (Obj.cells #[.int .i64 n, .slice a2 l.length c2] 24)) n (.slice ad l.length cap) (.slice a2 l.length c2) l w2.heap.size from ⟨Hb1.out.trans (hb3.mono Hb1.out.size), below_cell hb3 Cn.out.1, below_cell hb3 Cn.out.2, o0.1, o0.2, He.out.below hb3, ho2.edges.below (below1 w2 _)⟩)
  clear cn cs ho2 hb2 hb3 o0 He Hb1 Cn
  go_upto_region 2 with fail
  generalize w2.alloc (Obj.cells #[.int .i64 n, .slice a2 l.length c2] 24) = w3 at *
  generalize w2.heap.size = B at *
  have cn := E3.out.cn
  have cs := E3.out.cs
  go_wp2_with fail
  refine (rcheck_any l n _ _ E3.out.he).mono ?_
  rintro e w5 ⟨c, a, hsp, rfl, hb5⟩
  have Hsp := Lib.hid hsp
  have F6 := Lib.hid (FV.new w5 c a)
  have E6 := Lib.hid (E3.out.below (upp9 hb5 (below1 w5 (Obj.cells #[.int .i64 c, .int .i64 a] 27))))
  clear hsp hb5 cn cs
  go_upto_region 3 with fail
  generalize w5.alloc (Obj.cells #[.int .i64 c, .int .i64 a] 27) = w6 at *
  generalize w5.heap.size = C at *
  have on := E6.out.on
  have os := E6.out.os
  have cn := E6.out.cn
  have cs := E6.out.cs
  obtain ⟨f0, f1, f2, f3, f4⟩ := F6.out.facts
  by_cases hc : c = 0
  · subst hc
    obtain ⟨hgood, rfl⟩ := Hsp.out.good
    have hn0 := hgood.lo
    have hn1 := hgood.hi
    obtain ⟨N, rfl⟩ := Int.eq_ofNat_of_zero_le hn0
    have Hg := Lib.hid hgood
    clear hgood
    have hN : N ≤ 100 := by omega
    have Hok := Lib.hid (show ∀ j, j < l.length → EndsOk (N : Int) (l.getD j (0, 0)) ∧ (l.getD j (0, 0)).1 ≠ (l.getD j (0, 0)).2 from fun j hj => ⟨(Hg.out.fine j hj).1, (Hg.out.fine j hj).2.1⟩)
    go_wp2_with fail
    refine (euler_any (N : Int) l _ _ E6.out.ho).mono ?_
    rintro e w10 hpost
    obtain ⟨cf, O, v, rfl, hb10, hov, hcase⟩ := hpost.good Hg.out
    obtain ⟨aV, cV, rfl⟩ : ∃ a c, v = .slice a O.length c := by
      obtain ⟨a, c, _, _, e, _⟩ := hov
      rw [ints_length] at e; exact ⟨a, c, e⟩
    have HC := Lib.hid hcase
    clear hpost hcase f0 f1 f2 f3 f4
    have b11 := upp9 hb10 (below1 w10 (Obj.cells #[.int .i64 cf, .int .i64 0] 27))
    have E11 := Lib.hid (E6.out.below b11)
    have F11 := Lib.hid (F6.out.below b11)
    have G11 := Lib.hid (FV.new w10 cf 0)
    have I11 := Lib.hid (hov.below (below1 w10 (Obj.cells #[.int .i64 cf, .int .i64 0] 27)))
    clear on os cn cs hb10 b11 hov
    go_upto_region 4 with fail
    generalize w10.alloc (Obj.cells #[.int .i64 cf, .int .i64 0] 27) = w11 at *
    generalize w10.heap.size = Dd at *
    go_wp2_with fail
    refine (walksBegun_any w11).mono ?_
    rintro e w12 ⟨rfl, hb12⟩
    have E12 := Lib.hid (E11.out.below hb12); have F12 := Lib.hid (F11.out.below hb12); have G12 := Lib.hid (G11.out.below hb12); have I12 := Lib.hid (I11.out.below hb12)
    clear hb12 E11 F11 G11 I11
    have on := E12.out.on
    have os := E12.out.os
    have cn := E12.out.cn
    have cs := E12.out.cs
    go_wp2_with fail
    refine (kept_is (r := true) (by simp) _ _ w12 E12.out.ho E12.out.he).mono ?_
    rintro e w13 ⟨rfl, hb13⟩
    have E13 := Lib.hid (E12.out.below hb13); have F13 := Lib.hid (F12.out.below hb13); have G13 := Lib.hid (G12.out.below hb13); have I13 := Lib.hid (I12.out.below hb13)
    clear hb13 on os cn cs E12 F12 I12 G12
    obtain ⟨h0, h1, -, -, -⟩ := F13.out.facts
    have cn := E13.out.cn
    have cs := E13.out.cs
    go_wp2_with fail
    refine (gridOf_any l N _ _ E13.out.he hN Hok.out).mono ?_
    rintro e w14 ⟨v5, rfl, hg14, hb14⟩
    have Hg14 := Lib.hid (show HasGrid w14 v5 N (adj l) from ⟨_, hg14⟩)
    have E14 := Lib.hid (E13.out.below hb14); have I14 := Lib.hid (I13.out.below hb14); have G14 := Lib.hid (G13.out.below hb14)
    clear hg14 hb14 cn cs h0 h1 E13 F13 I13 G13
    go_upto_region 9 with fail
    go_wp2_with fail
    refine (rjoined_any N (adj l) v5 w14 hN Hg14.out (good_gr Hg.out) (fun i j _ _ => adj_sy l i j)).mono ?_
    rintro e w15 ⟨rfl, hb15⟩
    have E15 := Lib.hid (E14.out.below hb15); have I15 := Lib.hid (I14.out.below hb15); have G15 := Lib.hid (G14.out.below hb15); have Hg15 := Lib.hid (Hg14.out.below hb15)
    clear hb15 E14 I14 G14 Hg14
    rcases HC.out with ⟨rfl, rfl, hbad⟩ | ⟨rfl, hgood, hodd, hOl, hrng, hst, h0, hal⟩
    · by_cases hh : hangB N (adj l) = true
      · have hodd : 2 < (oddL N (adj l)).length := by
          rcases hbad with k | k
          · rw [hh] at k; cases k
          · exact k
        rw [hh]
        have Hodd := Lib.hid hodd
        clear hbad hh HC hodd
        go_wp2_with fail
        refine (rodd_any N (adj l) v5 w15 hN Hg15.out).mono ?_
        rintro e w16 ⟨x, rfl, ho16, hb16⟩
        obtain ⟨aX, cX, rfl⟩ := ownsRow_form ho16
        have E16 := Lib.hid (E15.out.below hb16); have G16 := Lib.hid (G15.out.below hb16)
        clear ho16 hb16 E15 G15 I15 Hg15
        have hodd := Hodd.out
        generalize (oddL N (adj l)).length = no at *
        obtain ⟨g0, g1, -, -, -⟩ := G16.out.facts
        have q0 : w16.drew.cell? ⟨Dd, 0, none⟩ = some (.int .i64 9) ∧ w16.drew.cell? ⟨Dd, 1, none⟩ = some (.int .i64 0) := ⟨g0, g1⟩
        have hd : Below w16.heap.size w16 w16.drew := (Below.refl _ _).drew
        clear g0 g1
        go_upto_region 10 with fail
        go_region_held3 (fun w' => w'.cell? ⟨Dd, 0, none⟩ = some (.int .i64 9) ∧ w'.cell? ⟨Dd, 1, none⟩ = some (.int .i64 0))
          (first | exact q1 | exact q0)
          (first | (go_at_call 15; refine (F_any _ _ _).mono ?_; rintro e wp ⟨rfl, rfl⟩; have h1 := upp9 hd (below1 w16.drew (Obj.cells #[.int .i64 9, .int .i64 0] 27)); have q1 := And.intro (below_cell (below1 w16.drew (Obj.cells #[.int .i64 9, .int .i64 0] 27)) q0.1) (below_cell (below1 w16.drew (Obj.cells #[.int .i64 9, .int .i64 0] 27)) q0.2)))
        all_goals
          go_wp2
          go_ret
          exact ⟨rfl, upp9 E16.out.hb h1⟩
      · have hh : hangB N (adj l) = false := by simpa using hh
        rw [hh]
        clear hbad hh HC
        obtain ⟨g0, g1, -, -, -⟩ := G15.out.facts
        have q0 : w15.drew.cell? ⟨Dd, 0, none⟩ = some (.int .i64 9) ∧ w15.drew.cell? ⟨Dd, 1, none⟩ = some (.int .i64 0) := ⟨g0, g1⟩
        have hd : Below w15.heap.size w15 w15.drew := (Below.refl _ _).drew
        clear g0 g1
        go_upto_region 10 with fail
        go_region_held3 (fun w' => w'.cell? ⟨Dd, 0, none⟩ = some (.int .i64 9) ∧ w'.cell? ⟨Dd, 1, none⟩ = some (.int .i64 0))
          (first | exact q1 | exact q0)
          (first | (go_at_call 15; refine (F_any _ _ _).mono ?_; rintro e wp ⟨rfl, rfl⟩; have h1 := upp9 hd (below1 w15.drew (Obj.cells #[.int .i64 9, .int .i64 0] 27)); have q1 := And.intro (below_cell (below1 w15.drew (Obj.cells #[.int .i64 9, .int .i64 0] 27)) q0.1) (below_cell (below1 w15.drew (Obj.cells #[.int .i64 9, .int .i64 0] 27)) q0.2)))
        all_goals
          go_wp2
          go_ret
          exact ⟨rfl, upp9 E15.out.hb h1⟩
    · rw [hgood]
      have HO2 := Lib.hid hodd
      clear HC hgood hodd
      go_wp2_with fail
      refine (rodd_any N (adj l) v5 w15 hN Hg15.out).mono ?_
      rintro e w16 ⟨x, rfl, ho16, hb16⟩
      obtain ⟨aX, cX, rfl⟩ := ownsRow_form ho16
      have E16 := Lib.hid (E15.out.below hb16); have G16 := Lib.hid (G15.out.below hb16); have I16 := Lib.hid (I15.out.below hb16); have Hg16 := Lib.hid (Hg15.out.below hb16)
      clear ho16 hb16 E15 G15 I15 Hg15
      have hodd := HO2.out
      generalize (oddL N (adj l)).length = no at *
      have hodd2 : ¬ 2 < no := by omega
      obtain ⟨g0, g1, -, -, -⟩ := G16.out.facts
      have Hrng := Lib.hid hrng; have Hst := Lib.hid hst; have H00 := Lib.hid h0; have Hal := Lib.hid hal
      clear hrng hst h0 hal HO2
      go_wp2_with fail
      refine (rwalk_yes N (adj l) O v5 _ w16 hN Hg16.out I16.out (by omega) Hrng.out Hst.out).mono ?_
      rintro e w17 ⟨rfl, hb17⟩
      have E17 := Lib.hid (E16.out.below hb17); have I17 := Lib.hid (I16.out.below hb17); have Hg17 := Lib.hid (Hg16.out.below hb17)
      have cn := E17.out.cn
      have cs := E17.out.cs
      clear g0 g1 hb17 E16 G16 I16 Hg16
      by_cases hl0 : l.length = 0
      · have hO0 : O.length = 0 := by rw [H00.out hl0]; rfl
        have q0 : ((l.length : Int) == 0) = true := by rw [beq_iff_eq]; omega
        have q1 : ((O.length : Int) == 0) = true := by rw [beq_iff_eq]; omega
        clear Hrng Hst Hal
        go_wp2
        go_ret
        exact ⟨rfl, E17.out.hb⟩
      · have q0 : ((l.length : Int) == 0) = false := by rw [beq_eq_false_iff_ne]; omega
        have hpl : (prsTo N (adj l) N).length ≤ N * N := prsTo_length N (adj l) N
        have hNN : N * N ≤ 10000 := Nat.mul_le_mul hN hN
        have Hone := Lib.hid (show ∀ i, i < (prsTo N (adj l) N).length → alongC O ((prsTo N (adj l) N).getD i (0, 0)) (O.length - 1) = 1 from fun i hi => by
          have hm : (prsTo N (adj l) N).getD i (0, 0) ∈ edG N (adj l) := by rw [List.getD, List.getElem?_eq_getElem hi]; exact List.getElem_mem _
          obtain ⟨x, y, -, hxy, he⟩ := edG_iff.1 hm
          rw [he]; exact Hal.out x y hxy.2.2)
        clear Hrng Hst Hal
        go_upto_region 15 with fail
        clear cn cs
        go_wp2_with fail
        refine (ralong_any N (adj l) O v5 _ w17 hN Hg17.out I17.out (by omega)).mono ?_
        rintro e w18 ⟨b, rfl, -, hr18, hb18⟩
        have E18 := Lib.hid (E17.out.below hb18)
        have Hr18 := Lib.hid hr18
        clear hb18 hr18
        generalize (prsTo N (adj l) N).length = m at *
        go_upto_region 17 with fail
        go_loopg [9] m (fun g s9 wr => ∃ i : Nat, i ≤ m ∧ g = m - i ∧ s9 = .int .i64 (i : Int) ∧ w18 = wr)
        case atStart => exact ⟨0, Nat.zero_le _, rfl, rfl, rfl⟩
        case round =>
          obtain ⟨i, hi, rfl, rfl, rfl⟩ := hrel
          by_cases hlt : i < m
          · have ci := Hr18.out.cell hlt
            simp only [ri] at ci
            rw [Hone.out i hlt] at ci
            go_wp2
            go_roundg (m - (i + 1))
            case measure => go_light; omega
            case rel => exact ⟨i + 1, by omega, rfl, by go_num, rfl⟩
          · go_wp2
            go_ret
            exact ⟨rfl, E18.out.hb⟩
  · have q : (c == 0) = false := by simp [hc]
    have q2 : (c != 0) = true := by simp [hc]
    have Hc := Lib.hid hc
    clear hc
    go_wp2_with fail
    refine (euler_any n l _ _ E6.out.ho).mono ?_
    rintro e w10 hpost
    obtain ⟨rfl, hb10⟩ := hpost.bad Hsp.out Hc.out
    clear f0 f1 f2 f3 f4 hpost
    have b11 := upp9 hb10 (below1 w10 (Obj.cells #[.int .i64 c, .int .i64 a] 27))
    have E11 := Lib.hid (E6.out.below b11)
    have F11 := Lib.hid (F6.out.below b11)
    have G11 := Lib.hid (FV.new w10 c a)
    clear on os cn cs hb10 b11
    go_upto_region 4 with fail
    generalize w10.alloc (Obj.cells #[.int .i64 c, .int .i64 a] 27) = w11 at *
    generalize w10.heap.size = D at *
    go_wp2_with fail
    refine (walksBegun_any w11).mono ?_
    rintro e w12 ⟨rfl, hb12⟩
    have E12 := Lib.hid (E11.out.below hb12); have F12 := Lib.hid (F11.out.below hb12); have G12 := Lib.hid (G11.out.below hb12)
    clear hb12 E11 F11 G11
    have on := E12.out.on
    have os := E12.out.os
    have cn := E12.out.cn
    have cs := E12.out.cs
    go_wp2_with fail
    refine (kept_is (r := true) (by simp) _ _ w12 E12.out.ho E12.out.he).mono ?_
    rintro e w13 ⟨rfl, hb13⟩
    have E13 := Lib.hid (E12.out.below hb13); have F13 := Lib.hid (F12.out.below hb13); have G13 := Lib.hid (G12.out.below hb13)
    clear hb13 on os cn cs E12 F12 G12
    obtain ⟨h0, h1, -, -, -⟩ := F13.out.facts
    obtain ⟨g0, g1, -, -, -⟩ := G13.out.facts
    go_wp2
    go_ret
    exact ⟨rfl, E13.out.hb⟩

end Go.Proofs.Ytnmljgjegodkaaa
