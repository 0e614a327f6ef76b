/- arborlaw.WalksPostman answers true: the walk. -/
import Derived.Test.YtnmljgjegodkaaaWBeg
import Derived.Test.YtnmljgjegodkaaaRAloW
import Derived.Test.YtnmljgjegodkaaaPI
import Derived.Test.YtnmljgjegodkaaaRMtsW
import Derived.Test.YtnmljgjegodkaaaFarW
import Derived.Test.YtnmljgjegodkaaaPF
import Derived.Test.YtnmljgjegodkaaaGOwn
import Derived.Test.YtnmljgjegodkaaaGridOf
namespace Go.Proofs.Ytnmljgjegodkaaa
open Go Go.RowKit

/-- What walks.Postman answers for a good graph, in short. -/
theorem PostPost.good {N : Nat} {l : List (Int × Int)} {w w' : World} {e : Ending} (hg : GoodGraph N l) (h : PostPost (N : Int) l w e w') :
    ∃ c O v, e = .returned (.tuple #[v, .agg #[.int .i64 c, .int .i64 0]]) ∧ Below w.heap.size w w' ∧ IsInts w' v (ints O) ∧
      ((c = 9 ∧ O = [] ∧ hangB N (adj l) = false) ∨ (c = 2 ∧ O = [] ∧ hangB N (adj l) = true ∧ 12 < (oddL N (adj l)).length) ∨
       (c = 0 ∧ hangB N (adj l) = true ∧ (oddL N (adj l)).length ≤ 12 ∧ O.length ≤ 20000 ∧ (∀ x ∈ O, x < N) ∧ (∀ j, j + 1 < O.length → adj l (O.getD j 0) (O.getD (j + 1) 0) = true) ∧ (l.length = 0 → O = []) ∧
         (0 < l.length → 0 < O.length ∧ O.getD 0 0 = O.getD (O.length - 1) 0 ∧ (∀ x y, adj l x y = true → 0 < alongC O ((x : Int), (y : Int)) (O.length - 1)) ∧ (O.length : Int) - 1 = l.length + matesP (farE N (adj l)) 12 (oddL N (adj l))))) := by
  obtain ⟨c0, a0, c, a, v, hs, rfl, hb, hcase⟩ := h
  obtain ⟨rfl, rfl⟩ := hs.uniq hg.spec
  rcases hcase with ⟨h1, -⟩ | ⟨-, -, N', e1, -, hcase⟩
  · exact absurd rfl h1
  · have e1 := Int.ofNat.inj e1
    subst e1
    rcases hcase with ⟨rfl, rfl, rfl, rfl⟩ | ⟨-, h1, rfl, rfl, rfl⟩ | ⟨-, h1, h2, rfl, rfl, rfl⟩ | ⟨hl, h1, h2, rfl, rfl, f, O, eO, X, hE, hX, hXl, ho, hT⟩
    · have no : ∀ x y, ¬ adj [] x y = true := fun x y h => by rw [adj_nil] at h; cases h
      refine ⟨0, [], _, rfl, hb, IsInts.nil _, .inr (.inr ⟨rfl, hangB_yes fun x y a b hx => absurd hx.2.2 (no x y), ?_, by simp, by simp, by simp, by simp, fun h => absurd h (by simp)⟩)⟩
      have : oddL N (adj []) = [] := by
        refine List.eq_nil_iff_forall_not_mem.2 fun v hv => ?_
        have h := (mem_oddL.1 hv).2
        have h2 : cntN N (adj [] v) = cntN N (fun _ => false) := cntN_congr fun i _ => by unfold adj hasE; simp
        rw [cntN_false] at h2
        omega
      rw [this]; simp
    · exact ⟨9, [], _, rfl, hb, IsInts.nil _, .inl ⟨rfl, rfl, h1⟩⟩
    · exact ⟨2, [], _, rfl, hb, IsInts.nil _, .inr (.inl ⟨rfl, rfl, h1, h2⟩)⟩
    · have hh := hangB_iff.1 h1
      have hO := odd_f hg hh
      have hall := hT.hang hg hh hE hX
      have hst := hT.step hg hX
      have hlen := hT.len hall
      have hbd := (matesP_bd (D := farE N (adj l)) 12 (oddL N (adj l)) fun u hu v hv => by have := hO.far u hu v hv; omega).2
      rw [List.length_append] at hlen
      have := hg.len
      have htop := hT.top
      have hlast := hT.last
      refine ⟨0, O, v, rfl, hb, ho, .inr (.inr ⟨rfl, h1, h2, by omega, hT.rng, hst, fun h0 => by omega, fun _ => ⟨by omega, ?_, fun x y ha => hT.along hg hall ha, by omega⟩⟩)⟩
      have hne : 0 < O.length := by omega
      rw [List.head?_eq_getElem?, List.getElem?_eq_getElem hne] at htop
      rw [List.getLast?_eq_getElem?, List.getElem?_eq_getElem (by omega)] at hlast
      rw [List.getD, List.getD, List.getElem?_eq_getElem hne, List.getElem?_eq_getElem (by omega)]
      simp only [Option.some.injEq] at htop hlast
      simp only [Option.getD_some]
      rw [htop, hlast]
/-- walks.Postman where the graph is bad. -/
theorem PostPost.bad {n : Int} {l : List (Int × Int)} {c a : Int} {w w' : World} {e : Ending} (hs : GraphSpec n l c a) (hc : c ≠ 0) (h : PostPost n l w e w') :
    e = .returned (.tuple #[.slice none 0 0, .agg #[.int .i64 c, .int .i64 a]]) ∧ Below w.heap.size w w' := by
  obtain ⟨c0, a0, c', a', v, hs', rfl, hb, hcase⟩ := h
  obtain ⟨rfl, rfl⟩ := hs'.uniq hs
  rcases hcase with ⟨-, rfl, rfl, rfl⟩ | ⟨h1, -⟩
  · exact ⟨rfl, hb⟩
  · exact absurd h1 hc
theorem mateF_congr {D D' : Nat → Nat → Int} {M M' : List Nat → Int} {a : Nat} {t : List Nat} (h1 : ∀ q, q < t.length → D a (t.getD q 0) = D' a (t.getD q 0)) (h2 : ∀ q, q < t.length → M (t.eraseIdx q) = M' (t.eraseIdx q)) : ∀ k, k ≤ t.length → mateF D M a t k = mateF D' M' a t k
  | 0, _ => rfl
  | k + 1, hk => by rw [mateF, mateF, mateF_congr h1 h2 k (by omega), h1 k (by omega), h2 k (by omega)]
theorem matesP_congr {D D' : Nat → Nat → Int} : ∀ (f : Nat) (L : List Nat), (∀ u ∈ L, ∀ v ∈ L, D u v = D' u v) → matesP D f L = matesP D' f L
  | _, [], _ => by simp [matesP]
  | 0, _ :: _, _ => by simp [matesP]
  | f + 1, a :: t, h => by
    rw [matesP, matesP]
    refine mateF_congr (fun q hq => ?_) (fun q hq => ?_) _ (Nat.le_refl _)
    · have hm : t.getD q 0 ∈ t := by rw [List.getD, List.getElem?_eq_getElem hq]; exact List.getElem_mem _
      exact h a (by simp) _ (List.mem_cons_of_mem _ hm)
    · exact matesP_congr f _ fun u hu v hv => h u (List.mem_cons_of_mem _ (List.mem_of_mem_eraseIdx hu)) v (List.mem_cons_of_mem _ (List.mem_of_mem_eraseIdx hv))
/-- All rows. -/
noncomputable abbrev rowsE (N : Nat) (l : List (Int × Int)) : List (List Int) := (List.range N).map (rowE N l)
theorem rowsE_at {N : Nat} {l : List (Int × Int)} {u v : Nat} (hu : u < N) (hv : v < N) : entE (rowsE N l) u v = farE N (adj l) u v ∧ ((rowsE N l).getD u []).length = N := by
  have e1 : (rowsE N l).getD u [] = rowE N l u := by simp [rowsE, List.getD, hu]
  unfold entE
  rw [e1]
  simp [List.getD, rowE, hv]
theorem upp9 {a b c : World} (h : Below a.heap.size a b) (k : Below b.heap.size b c) : Below a.heap.size a c := h.trans (k.mono h.size)

set_option maxHeartbeats 6400000 in
set_option maxRecDepth 100000 in
theorem postmanLaw_any (n : Int) (l : List (Int × Int)) (hl : l.length * 16 ≤ 140737488351232) (sv : Value) (w : World) (h : IsEdges w sv l) :
    Calls Try.prog 3 #[.agg #[.int .i64 n, sv]] w fun e w' => e = .returned (.bool true) ∧ Below w.heap.size w w' := by
  obtain ⟨ad, cap, rfl⟩ := h.form
  have hb1 := below1 w (Obj.cells #[.int .i64 n, .slice ad l.length cap] 24)
  have c0 := two_cells w (.int .i64 n) (.slice ad l.length cap) 24
  have cn := c0.1
  have cs := c0.2
  have he := h.below hb1
  have H0 := Lib.hid h
  clear c0 h
  go_enter Try.func3, Try.ntmps3
  go_upto_region 1 with fail
  generalize w.alloc (Obj.cells #[.int .i64 n, .slice ad l.length cap] 24) = w1 at *
  have Cn := Lib.hid (And.intro cn cs); have He := Lib.hid he; have Hb1 := Lib.hid hb1
  clear he hb1
  go_wp2_with fail
  refine (own_any l n (.slice ad l.length cap) _ He.out hl).mono ?_
  rintro e w2 ⟨v2, rfl, ho2, hb2⟩
  obtain ⟨a2, c2, rfl⟩ := ho2.form
  have hb3 := upp9 hb2 (below1 w2 (Obj.cells #[.int .i64 n, .slice a2 l.length c2] 24))
  have o0 := two_cells w2 (.int .i64 n) (.slice a2 l.length c2) 24
  have E3 := Lib.hid (show LB w (w2.alloc (Obj.cells #[.int .i64 n, .slice a2 l.length c2] 24)) n (.slice ad l.length cap) (.slice a2 l.length c2) l w2.heap.size from ⟨Hb1.out.trans (hb3.mono Hb1.out.size), below_cell hb3 Cn.out.1, below_cell hb3 Cn.out.2, o0.1, o0.2, He.out.below hb3, ho2.edges.below (below1 w2 _)⟩)
  clear cn cs ho2 hb2 hb3 o0 He Hb1 Cn
  go_upto_region 2 with fail
  generalize w2.alloc (Obj.cells #[.int .i64 n, .slice a2 l.length c2] 24) = w3 at *
  generalize w2.heap.size = B at *
  have cn := E3.out.cn
  have cs := E3.out.cs
  go_wp2_with fail
  refine (rcheck_any l n _ _ E3.out.he).mono ?_
  rintro e w5 ⟨c, a, hsp, rfl, hb5⟩
  have Hsp := Lib.hid hsp
  have F6 := Lib.hid (FV.new w5 c a)
  have E6 := Lib.hid (E3.out.below (upp9 hb5 (below1 w5 (Obj.cells #[.int .i64 c, .int .i64 a] 27))))
  clear hsp hb5 cn cs
  go_upto_region 3 with fail
  generalize w5.alloc (Obj.cells #[.int .i64 c, .int .i64 a] 27) = w6 at *
  generalize w5.heap.size = C at *
  have on := E6.out.on
  have os := E6.out.os
  have cn := E6.out.cn
  have cs := E6.out.cs
  obtain ⟨f0, f1, f2, f3, f4⟩ := F6.out.facts
  by_cases hc : c = 0
  · subst hc
    obtain ⟨hgood, rfl⟩ := Hsp.out.good
    have hn0 := hgood.lo
    have hn1 := hgood.hi
    obtain ⟨N, rfl⟩ := Int.eq_ofNat_of_zero_le hn0
    have Hg := Lib.hid hgood
    clear hgood
    have hN : N ≤ 100 := by omega
    have Hok := Lib.hid (show ∀ j, j < l.length → EndsOk (N : Int) (l.getD j (0, 0)) ∧ (l.getD j (0, 0)).1 ≠ (l.getD j (0, 0)).2 from fun j hj => ⟨(Hg.out.fine j hj).1, (Hg.out.fine j hj).2.1⟩)
    go_wp2_with fail
    refine (postman_any (N : Int) l _ _ E6.out.ho).mono ?_
    rintro e w10 hpost
    obtain ⟨cf, O, v, rfl, hb10, hov, hcase⟩ := hpost.good Hg.out
    obtain ⟨aV, cV, rfl⟩ : ∃ a c, v = .slice a O.length c := by
      obtain ⟨a, c, _, _, e, _⟩ := hov
      rw [ints_length] at e; exact ⟨a, c, e⟩
    have HC := Lib.hid hcase
    clear hpost hcase f0 f1 f2 f3 f4
    have b11 := upp9 hb10 (below1 w10 (Obj.cells #[.int .i64 cf, .int .i64 0] 27))
    have E11 := Lib.hid (E6.out.below b11)
    have F11 := Lib.hid (F6.out.below b11)
    have G11 := Lib.hid (FV.new w10 cf 0)
    have I11 := Lib.hid (hov.below (below1 w10 (Obj.cells #[.int .i64 cf, .int .i64 0] 27)))
    clear on os cn cs hb10 b11 hov
    go_upto_region 4 with fail
    generalize w10.alloc (Obj.cells #[.int .i64 cf, .int .i64 0] 27) = w11 at *
    generalize w10.heap.size = Dd at *
    go_wp2_with fail
    refine (walksBegun_any w11).mono ?_
    rintro e w12 ⟨rfl, hb12⟩
    have E12 := Lib.hid (E11.out.below hb12); have F12 := Lib.hid (F11.out.below hb12); have G12 := Lib.hid (G11.out.below hb12); have I12 := Lib.hid (I11.out.below hb12)
    clear hb12 E11 F11 G11 I11
    have on := E12.out.on
    have os := E12.out.os
    have cn := E12.out.cn
    have cs := E12.out.cs
    go_wp2_with fail
    refine (kept_is (r := true) (by simp) _ _ w12 E12.out.ho E12.out.he).mono ?_
    rintro e w13 ⟨rfl, hb13⟩
    have E13 := Lib.hid (E12.out.below hb13); have F13 := Lib.hid (F12.out.below hb13); have G13 := Lib.hid (G12.out.below hb13); have I13 := Lib.hid (I12.out.below hb13)
    clear hb13 on os cn cs E12 F12 I12 G12
    obtain ⟨h0, h1, -, -, -⟩ := F13.out.facts
    have cn := E13.out.cn
    have cs := E13.out.cs
    go_wp2_with fail
    refine (gridOf_any l N _ _ E13.out.he hN Hok.out).mono ?_
    rintro e w14 ⟨v5, rfl, hg14, hb14⟩
    have Hg14 := Lib.hid (show HasGrid w14 v5 N (adj l) from ⟨_, hg14⟩)
    have E14 := Lib.hid (E13.out.below hb14); have I14 := Lib.hid (I13.out.below hb14); have G14 := Lib.hid (G13.out.below hb14)
    clear hg14 hb14 cn cs h0 h1 E13 F13 I13 G13
    go_upto_region 9 with fail
    go_wp2_with fail
    refine (rjoined_any N (adj l) v5 w14 hN Hg14.out (good_gr Hg.out) (fun i j _ _ => adj_sy l i j)).mono ?_
    rintro e w15 ⟨rfl, hb15⟩
    have E15 := Lib.hid (E14.out.below hb15); have I15 := Lib.hid (I14.out.below hb15); have G15 := Lib.hid (G14.out.below hb15); have Hg15 := Lib.hid (Hg14.out.below hb15)
    clear hb15 E14 I14 G14 Hg14
    rcases HC.out with ⟨rfl, rfl, hh⟩ | ⟨rfl, rfl, hh, hodd⟩ | ⟨rfl, hgood, hodd, hOl, hrng, hst, h0, hbig⟩
    · rw [hh]
      clear hh HC
      obtain ⟨g0, g1, -, -, -⟩ := G15.out.facts
      have q0 : w15.drew.cell? ⟨Dd, 0, none⟩ = some (.int .i64 9) ∧ w15.drew.cell? ⟨Dd, 1, none⟩ = some (.int .i64 0) := ⟨g0, g1⟩
      have hd : Below w15.heap.size w15 w15.drew := (Below.refl _ _).drew
      clear g0 g1
      go_upto_region 10 with fail
      go_region_held3 (fun w' => w'.cell? ⟨Dd, 0, none⟩ = some (.int .i64 9) ∧ w'.cell? ⟨Dd, 1, none⟩ = some (.int .i64 0))
        (first | exact q1 | exact q0)
        (first | (go_at_call 15; refine (F_any _ _ _).mono ?_; rintro e wp ⟨rfl, rfl⟩; have h1 := upp9 hd (below1 w15.drew (Obj.cells #[.int .i64 9, .int .i64 0] 27)); have q1 := And.intro (below_cell (below1 w15.drew (Obj.cells #[.int .i64 9, .int .i64 0] 27)) q0.1) (below_cell (below1 w15.drew (Obj.cells #[.int .i64 9, .int .i64 0] 27)) q0.2)))
      all_goals
        go_wp2
        go_ret
        exact ⟨rfl, upp9 E15.out.hb h1⟩
    · rw [hh]
      have Hodd := Lib.hid hodd
      clear hh HC hodd
      go_wp2_with fail
      refine (rodd_any N (adj l) v5 w15 hN Hg15.out).mono ?_
      rintro e w16 ⟨x, rfl, ho16, hb16⟩
      obtain ⟨aX, cX, rfl⟩ := ownsRow_form ho16
      have E16 := Lib.hid (E15.out.below hb16); have G16 := Lib.hid (G15.out.below hb16)
      clear ho16 hb16 E15 G15 I15 Hg15
      have hodd := Hodd.out
      generalize (oddL N (adj l)).length = no at *
      obtain ⟨g0, g1, -, -, -⟩ := G16.out.facts
      have q0 : w16.drew.cell? ⟨Dd, 0, none⟩ = some (.int .i64 2) ∧ w16.drew.cell? ⟨Dd, 1, none⟩ = some (.int .i64 0) := ⟨g0, g1⟩
      have hd : Below w16.heap.size w16 w16.drew := (Below.refl _ _).drew
      clear g0 g1
      go_upto_region 13 with fail
      go_region_held3 (fun w' => w'.cell? ⟨Dd, 0, none⟩ = some (.int .i64 2) ∧ w'.cell? ⟨Dd, 1, none⟩ = some (.int .i64 0))
        (first | exact q1 | exact q0)
        (first | (go_at_call 15; refine (F_any _ _ _).mono ?_; rintro e wp ⟨rfl, rfl⟩; have h1 := upp9 hd (below1 w16.drew (Obj.cells #[.int .i64 2, .int .i64 0] 27)); have q1 := And.intro (below_cell (below1 w16.drew (Obj.cells #[.int .i64 2, .int .i64 0] 27)) q0.1) (below_cell (below1 w16.drew (Obj.cells #[.int .i64 2, .int .i64 0] 27)) q0.2)))
      all_goals
        go_wp2
        go_ret
        exact ⟨rfl, upp9 E16.out.hb h1⟩
    · rw [hgood]
      have HO2 := Lib.hid hodd
      have HOd := Lib.hid (odd_f Hg.out (hangB_iff.1 hgood))
      clear HC hgood hodd
      go_wp2_with fail
      refine (rodd_any N (adj l) v5 w15 hN Hg15.out).mono ?_
      rintro e w16 ⟨x, rfl, ho16, hb16⟩
      obtain ⟨aX, cX, rfl⟩ := ownsRow_form ho16
      have E16 := Lib.hid (E15.out.below hb16); have G16 := Lib.hid (G15.out.below hb16); have I16 := Lib.hid (I15.out.below hb16); have Hg16 := Lib.hid (Hg15.out.below hb16)
      have J16 := Lib.hid (IsInts.owned (l := ints (oddL N (adj l))) ho16)
      clear ho16 hb16 E15 G15 I15 Hg15
      have hodd := HO2.out
      generalize hL : oddL N (adj l) = L at *
      clear hL
      generalize hno : L.length = no at *
      have Hno := Lib.hid hno
      clear hno
      have hodd2 : ¬ 12 < no := by omega
      obtain ⟨g0, g1, -, -, -⟩ := G16.out.facts
      have Hrng := Lib.hid hrng; have Hst := Lib.hid hst; have H00 := Lib.hid h0; have Hbig := Lib.hid hbig
      clear hrng hst h0 hbig HO2
      go_wp2_with fail
      refine (rwalk_yes N (adj l) O v5 _ w16 hN Hg16.out I16.out (by omega) Hrng.out Hst.out).mono ?_
      rintro e w17 ⟨rfl, hb17⟩
      have E17 := Lib.hid (E16.out.below hb17); have I17 := Lib.hid (I16.out.below hb17); have Hg17 := Lib.hid (Hg16.out.below hb17); have J17 := Lib.hid (J16.out.below hb17)
      have cn := E17.out.cn
      have cs := E17.out.cs
      clear g0 g1 hb17 E16 G16 I16 Hg16 J16
      by_cases hl0 : l.length = 0
      · have hO0 : O.length = 0 := by rw [H00.out hl0]; rfl
        have q0 : ((l.length : Int) == 0) = true := by rw [beq_iff_eq]; omega
        have q1 : ((O.length : Int) == 0) = true := by rw [beq_iff_eq]; omega
        clear Hrng Hst Hbig
        go_wp2
        go_ret
        exact ⟨rfl, E17.out.hb⟩
      · have q0 : ((l.length : Int) == 0) = false := by rw [beq_eq_false_iff_ne]; omega
        obtain ⟨hOp, hends, hal, hlen⟩ := Hbig.out (by omega)
        have q1 : ((O.length : Int) == 0) = false := by rw [beq_eq_false_iff_ne]; omega
        have hpl : (prsTo N (adj l) N).length ≤ N * N := prsTo_length N (adj l) N
        have hNN : N * N ≤ 10000 := Nat.mul_le_mul hN hN
        have Hone := Lib.hid (show ∀ i, i < (prsTo N (adj l) N).length → 0 < alongC O ((prsTo N (adj l) N).getD i (0, 0)) (O.length - 1) from fun i hi => by
          have hm : (prsTo N (adj l) N).getD i (0, 0) ∈ edG N (adj l) := by rw [List.getD, List.getElem?_eq_getElem hi]; exact List.getElem_mem _
          obtain ⟨x, y, -, hxy, he⟩ := edG_iff.1 hm
          rw [he]; exact hal x y hxy.2.2)
        have Hlen := Lib.hid hlen
        obtain ⟨bO, oO, rfl, c0⟩ := ints_at' I17.out (Below.refl _ _) (show 0 < O.length by omega)
        obtain ⟨bO', oO', eO, c4⟩ := ints_at' I17.out (Below.refl _ _) (show O.length - 1 < O.length by omega)
        simp only [Option.some.injEq, Addr.mk.injEq] at eO
        obtain ⟨rfl, rfl, -⟩ := eO
        rw [hends] at c0
        rw [Nat.add_zero] at c0
        generalize O.getD (O.length - 1) 0 = z at *
        clear Hrng Hst Hbig hal hlen hends H00 hl0
        obtain ⟨d, hd⟩ : ∃ d, O.length = d + 1 := ⟨O.length - 1, by omega⟩
        have hd1 : O.length - 1 = d := by omega
        rw [hd1] at c4
        have Hd := Lib.hid hd
        have hwl : IntKind.i64.wrap ((O.length : Int) - 1) = (d : Int) := by rw [show (O.length : Int) - 1 = (d : Int) by omega, wrap_midF (by omega) (by omega)]
        generalize hol : O.length = ol at *
        have Hol := Lib.hid hol
        have hdl : (d : Int) < (ol : Int) := by omega
        have hdl2 : d < ol := by omega
        clear hol hd hd1
        go_upto_region 18 with fail
        go_big_quiet (fail)
        have hq := Below.drewN' (Below.refl w17.heap.size w17) nq
        have E18 := Lib.hid (E17.out.below hq); have I18 := Lib.hid (I17.out.below hq); have Hg18 := Lib.hid (Hg17.out.below hq); have J18 := Lib.hid (J17.out.below hq)
        generalize w17.drewN nq = w18 at *
        clear hq c0 c4 cn cs E17 I17 Hg17 J17 hdl hdl2
        go_upto_region 20 with fail
        go_wp2_with fail
        refine (ralong_any N (adj l) O v5 _ w18 hN Hg18.out I18.out (by rw [Hol.out]; omega)).mono ?_
        rintro e w19 ⟨b, rfl, -, hr19, hb19⟩
        rw [Hol.out] at hr19
        have E19 := Lib.hid (E18.out.below hb19); have Hg19 := Lib.hid (Hg18.out.below hb19); have J19 := Lib.hid (J18.out.below hb19)
        have Hr19 := Lib.hid hr19
        clear hb19 hr19 E18 I18 Hg18 J18
        generalize (prsTo N (adj l) N).length = m at *
        go_upto_region 22 with fail
        go_loopg [10] m (fun g s10 wr => ∃ i : Nat, i ≤ m ∧ g = m - i ∧ s10 = .int .i64 (i : Int) ∧ w19 = wr)
        case atStart => exact ⟨0, Nat.zero_le _, rfl, rfl, rfl⟩
        case round =>
          obtain ⟨i, hi, rfl, rfl, rfl⟩ := hrel
          by_cases hlt : i < m
          · have ci := Hr19.out.cell hlt
            have hk := Hone.out i hlt
            simp only [ri] at ci
            generalize alongC O ((prsTo N (adj l) N).getD i (0, 0)) (ol - 1) = k at *
            go_wp2
            go_roundg (m - (i + 1))
            case measure => go_light; omega
            case rel => exact ⟨i + 1, by omega, rfl, by go_num, rfl⟩
          · by_cases h8 : 8 < no
            · go_wp2
              go_ret
              exact ⟨rfl, E19.out.hb⟩
            · have cn := E19.out.cn
              go_upto_region 30 with fail
              clear cn
              go_loopg [11, 12] N (fun g s11 s12 wr => ∃ k : Nat, k ≤ N ∧ g = N - k ∧ s12 = .int .i64 (k : Int) ∧ IRow wr w19.heap.size s11 ((List.range k).map (rowE N l)) ∧ Below w19.heap.size w19 wr)
              case atStart => exact ⟨0, Nat.zero_le _, rfl, rfl, IRow.nil _ _, Below.refl _ _⟩
              case round =>
                obtain ⟨k, hk, rfl, rfl, ⟨vals, k1, k2⟩, hb⟩ := hrel
                have Hb := Lib.hid hb
                have hlm : ((List.range k).map (rowE N l)).length = k := by simp
                rw [hlm] at k1
                obtain ⟨aD, cD, rfl⟩ := ownsRow_form k1
                have Hlm := Lib.hid hlm
                have K2 := Lib.hid k2
                have K1 := Lib.hid k1
                have cn := (E19.out.below hb).cn
                have cs := (E19.out.below hb).cs
                clear k1 k2 hlm
                by_cases hlt : k < N
                · have Htk := Lib.hid (show List.range (k + 1) = List.range k ++ [k] from List.range_succ)
                  clear hb cs
                  go_upto_region 32 with fail
                  clear cn
                  go_wp2_with (first
                    | (go_at_call 19; refine (rfar_any N k (adj l) v5 wr hN hlt (Hg19.out.below Hb.out)).mono ?_; rintro e w20 ⟨b20, F, rfl, hb90, hr9, hF, hb9⟩; have hFe := hF.eq (farE_ok (G := adj l) hlt); have Hr9 := Lib.hid (row_ri hr9 hFe); have hz9 := Hb.out.size; have hz10 := hb9.size; have K1' := Lib.hid (ownsRow_below K1.out hb9 (Nat.le_refl _)); have K2' := Lib.hid (show ∀ j, j < ((List.range k).map (rowE N l)).length → ∃ r, vals[j]? = some r ∧ w20.ownsRow w19.heap.size 3 1 r (((List.range k).map (rowE N l)).getD j []).length (ivals (((List.range k).map (rowE N l)).getD j [])) from fun j hj => by (obtain ⟨r, e, ho⟩ := K2.out j hj; exact ⟨r, e, ownsRow_below ho hb9 (Nat.le_refl _)⟩)); have Hb9 := Lib.hid (Hb.out.trans (hb9.mono Hb.out.size)); clear hF hFe hr9 hb9 K1 K2)
                    | (at_builtin; refine wpList_append_at rfl (.tmp 121) (.tmp 125) 42 rfl w19.heap.size 29 (.slice none 0 0) 24 Try.underlying42 infoS rfl (.slice aD k cD) k vals rfl (K1'.out.alloc _) _ 1 [.slice (some ⟨b20, 0, none⟩) N N] rfl (HasCells.one _ _ _ rfl) (by omega) (by omega) (by omega) (by simp; omega) ?_; intro a8 c8 w8 ho8 hg8 hat8; have R8 := Lib.hid (IRow.moreF (m := (List.range k).map (rowE N l)) (F := farE N (adj l) k) (by rw [Hlm.out]; exact K1'.out) K2'.out Hr9.out (by omega) (by omega) (by rw [Hlm.out]; exact ho8) hg8); have B8 := Lib.hid ((Hb9.out.alloc Hb9.out.size (Obj.cells #[.slice (some ⟨b20, 0, none⟩) N N] 29)).grown hg8 (by simp; omega) (fun g e => (K1'.out.lt g e).1)); clear ho8 hg8 hat8))
                  go_roundg (N - (k + 1))
                  case measure => go_light; omega
                  case rel => exact ⟨k + 1, by omega, rfl, by go_num, by rw [Htk.out, List.map_append]; exact R8.out, B8.out⟩
                · obtain rfl : k = N := by omega
                  have R8 := Lib.hid (show IRow wr w19.heap.size (.slice aD k cD) (rowsE k l) from ⟨vals, by rw [Hlm.out]; exact K1.out, K2.out⟩)
                  have E20 := Lib.hid (E19.out.below hb)
                  have J20 := Lib.hid (J19.out.below hb)
                  have hcong : matesP (entE (rowsE k l)) 12 L = matesP (farE k (adj l)) 12 L := matesP_congr 12 L fun u hu v hv => (rowsE_at (HOd.out.lt u hu) (HOd.out.lt v hv)).1
                  have hlen := Hlen.out
                  rw [← hcong] at hlen
                  have hLc := Lib.hid (show ∀ u ∈ L, u < (rowsE k l).length ∧ ∀ v ∈ L, v < ((rowsE k l).getD u []).length ∧ 0 ≤ entE (rowsE k l) u v ∧ entE (rowsE k l) u v ≤ 1000 from fun u hu => ⟨by rw [Hlm.out]; exact HOd.out.lt u hu, fun v hv => by
                    have h1 := rowsE_at (l := l) (HOd.out.lt u hu) (HOd.out.lt v hv)
                    have h2 := HOd.out.far u hu v hv
                    rw [h1.1, h1.2]
                    exact ⟨HOd.out.lt v hv, h2.1, by omega⟩⟩)
                  have Hcall := Lib.hid (fun (wq : World) (hq : Below wr.heap.size wr wq) => rmates_any (rowsE k l) 12 L (by rw [Hno.out]; omega) (by omega) hLc.out _ _ wq (R8.out.rows.below hq) (J20.out.below hq))
                  have hlen1 : l.length ≤ 1000 := Hg.out.len
                  have hmb := matesP_bd (D := entE (rowsE k l)) 12 L fun u hu v hv => ((hLc.out u hu).2 v hv).2
                  clear hcong K1 K2 Hlm Hb hb R8 E19 Hlen
                  generalize matesP (entE (rowsE k l)) 12 L = mv at *
                  have hwm : IntKind.i64.wrap ((l.length : Int) + mv) = (l.length : Int) + mv := wrap_midF (by omega) (by omega)
                  have heq : ((d : Int) == (l.length : Int) + mv) = true := by rw [beq_iff_eq]; have := Hd.out; have := Hol.out; omega
                  go_upto_region 33 with fail
                  go_region_held3 (fun w' => w'.cell? ⟨w.heap.size, 1, none⟩ = some (.slice ad l.length cap))
                    (first | go_keep | exact d0)
                    (first | (go_at_call 20; refine (Hcall.out _ (by first | exact (Below.refl _ _).drew | exact Below.refl _ _)).mono ?_; rintro e w21 ⟨rfl, hb21⟩; have hcur : Below wr.heap.size wr w21 := upp9 (by first | exact (Below.refl _ _).drew | exact Below.refl _ _) hb21; have d0 := below_cell hcur cs))
                  all_goals
                    go_wp2
                    go_ret
                    exact ⟨rfl, upp9 E20.out.hb hcur⟩
  · have q : (c == 0) = false := by simp [hc]
    have q2 : (c != 0) = true := by simp [hc]
    have Hc := Lib.hid hc
    clear hc
    go_wp2_with fail
    refine (postman_any n l _ _ E6.out.ho).mono ?_
    rintro e w10 hpost
    obtain ⟨rfl, hb10⟩ := hpost.bad Hsp.out Hc.out
    clear f0 f1 f2 f3 f4 hpost
    have b11 := upp9 hb10 (below1 w10 (Obj.cells #[.int .i64 c, .int .i64 a] 27))
    have E11 := Lib.hid (E6.out.below b11)
    have F11 := Lib.hid (F6.out.below b11)
    have G11 := Lib.hid (FV.new w10 c a)
    clear on os cn cs hb10 b11
    go_upto_region 4 with fail
    generalize w10.alloc (Obj.cells #[.int .i64 c, .int .i64 a] 27) = w11 at *
    generalize w10.heap.size = D at *
    go_wp2_with fail
    refine (walksBegun_any w11).mono ?_
    rintro e w12 ⟨rfl, hb12⟩
    have E12 := Lib.hid (E11.out.below hb12); have F12 := Lib.hid (F11.out.below hb12); have G12 := Lib.hid (G11.out.below hb12)
    clear hb12 E11 F11 G11
    have on := E12.out.on
    have os := E12.out.os
    have cn := E12.out.cn
    have cs := E12.out.cs
    go_wp2_with fail
    refine (kept_is (r := true) (by simp) _ _ w12 E12.out.ho E12.out.he).mono ?_
    rintro e w13 ⟨rfl, hb13⟩
    have E13 := Lib.hid (E12.out.below hb13); have F13 := Lib.hid (F12.out.below hb13); have G13 := Lib.hid (G12.out.below hb13)
    clear hb13 on os cn cs E12 F12 G12
    obtain ⟨h0, h1, -, -, -⟩ := F13.out.facts
    obtain ⟨g0, g1, -, -, -⟩ := G13.out.facts
    go_wp2
    go_ret
    exact ⟨rfl, E13.out.hb⟩

end Go.Proofs.Ytnmljgjegodkaaa
