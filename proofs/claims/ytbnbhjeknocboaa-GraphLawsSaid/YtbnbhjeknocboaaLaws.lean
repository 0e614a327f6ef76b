/- arborlaw.GraphLaws answers true. (Printed by tools/genlaws.py.) -/
import Derived.Test.YtbnbhjeknocboaaNearG
import Derived.Test.YtbnbhjeknocboaaLawP
namespace Go.Proofs.Ytbnbhjeknocboaa
open Go.RowKit

/-- The argument's box. -/
structure GE (w wr : World) (n : Int) (s : Value) (l : List (Int × Int)) : Prop where
  hb : Below w.heap.size w wr
  cn : wr.cell? ⟨w.heap.size, 0, none⟩ = some (.int .i64 n)
  cs : wr.cell? ⟨w.heap.size, 1, none⟩ = some s
  he : IsEdges wr s l
theorem GE.below {w wr w' : World} {n : Int} {s : Value} {l : List (Int × Int)} (h : GE w wr n s l) (hb : Below wr.heap.size wr w') : GE w w' n s l :=
  ⟨h.hb.trans (hb.mono h.hb.size), below_cell hb h.cn, below_cell hb h.cs, h.he.below hb⟩
theorem PairsRes.few {n : Nat} {p : Nat → Nat → Bool} {N' : Int} {L' : List (Int × Int)} {c' : Int} (h : PairsRes n p N' L' c') (hc : c' = 0) : N' = (n : Int) ∧ L' = prsTo n p n ∧ (prsTo n p n).length ≤ 1000 := by
  by_cases h1 : 1000 < (prsTo n p n).length
  · have := h.hc
    rw [if_pos h1] at this
    omega
  · exact ⟨by rw [h.hn, if_neg h1], by rw [h.hl, if_neg h1], by omega⟩
theorem sumN_bound {n c : Nat} {f : Nat → Nat} (h : ∀ i, i < n → f i ≤ c) : sumN n f ≤ n * c := by
  induction n with
  | zero => exact Nat.zero_le _
  | succ n ih => rw [sumN_succ, Nat.succ_mul]; have := ih fun i hi => h i (by omega); have := h n (by omega); omega
theorem nbrs_few (l : List (Int × Int)) (N v : Nat) : (nbrs l N v).length ≤ N := by rw [nbrs_length]; exact cnt_le _ _
theorem half_le {d : Nat} (h : d ≤ 100) : d * (d - 1) / 2 ≤ 10000 := by
  have : d * (d - 1) ≤ 100 * 100 := Nat.mul_le_mul h (by omega)
  omega
theorem PairsRes.of_few {n : Nat} {p : Nat → Nat → Bool} (h : (prsTo n p n).length ≤ 1000) : PairsRes n p n (prsTo n p n) 0 :=
  ⟨by rw [if_neg (by omega)], by rw [if_neg (by omega)], by rw [if_neg (by omega)]⟩

set_option maxHeartbeats 6400000 in
set_option maxRecDepth 100000 in
theorem laws_any (n : Int) (l : List (Int × Int)) (s : Value) (w : World) (h : IsEdges w s l) :
    Calls Try.prog 6 #[.agg #[.int .i64 n, s]] w fun e w' => e = .returned (.bool true) ∧ Below w.heap.size w w' := by
  obtain ⟨ad, cap, rfl⟩ := h.form
  obtain ⟨c, a, hs⟩ := GraphSpec.ex n l
  obtain ⟨N1, L1, c1, d1, h1⟩ := GSpec.ex n l (R := FormR l) (fun N => ⟨_, _, _, _, rfl, rfl, rfl, rfl⟩)
  obtain ⟨N4, L4, c4, d4, h4⟩ := GSpec.ex n l (LineR.ex l)
  have Hs := Lib.hid hs; have H1 := Lib.hid h1; have H4 := Lib.hid h4
  have hb1 := below1 w (Obj.cells #[.int .i64 n, .slice ad l.length cap] 24)
  have c0 := two_cells w (.int .i64 n) (.slice ad l.length cap) 24
  have E1 := Lib.hid (show GE w (w.alloc (Obj.cells #[.int .i64 n, .slice ad l.length cap] 24)) n (.slice ad l.length cap) l from ⟨hb1, c0.1, c0.2, h.below hb1⟩)
  clear c0 h hb1 hs h1 h4
  go_enter Try.func6, Try.ntmps6
  go_upto_region 1 with fail
  generalize w.alloc (Obj.cells #[.int .i64 n, .slice ad l.length cap] 24) = w1 at *
  go_wp2_with fail
  refine (begun_any _).mono ?_
  rintro e w2 ⟨rfl, hb2⟩
  have E2 := Lib.hid (E1.out.below hb2)
  clear hb2
  have cn := E2.out.cn
  have cs := E2.out.cs
  go_wp2_with fail
  refine (form_is H1.out _ _ E2.out.he).mono ?_
  rintro e w3 ⟨v3, ho3, hb3, rfl⟩
  obtain ⟨a3, k3, rfl⟩ := ho3.form
  have b4 := below2 w3 (Obj.cells #[.int .i64 N1, .slice a3 L1.length k3] 24) (Obj.cells #[.int .i64 c1, .int .i64 d1] 28)
  have rz := (two_row w3 (.int .i64 N1) (.slice a3 L1.length k3) 24).alloc (Obj.cells #[.int .i64 c1, .int .i64 d1] 28)
  have ru := two_row (w3.alloc (Obj.cells #[.int .i64 N1, .slice a3 L1.length k3] 24)) (.int .i64 c1) (.int .i64 d1) 28
  rw [World.size_alloc] at ru
  have E3 := Lib.hid (E2.out.below hb3)
  have RZ4 := Lib.hid rz
  have RU4 := Lib.hid ru
  have He3 := Lib.hid ho3.edges
  have B4 := Lib.hid b4
  clear rz ru b4 hb3 ho3 cn cs
  go_upto_region 4 with fail
  generalize (w3.alloc (Obj.cells #[.int .i64 N1, .slice a3 L1.length k3] 24)).alloc (Obj.cells #[.int .i64 c1, .int .i64 d1] 28) = w4 at *
  obtain ⟨y0, y1, g0, g1, l1⟩ := row_facts RU4.out
  have E4 := Lib.hid (E3.out.below B4.out)
  by_cases hc : c = 0
  · subst hc
    obtain ⟨hg, rfl⟩ := Hs.out.good
    obtain ⟨N, rfl⟩ := Int.eq_ofNat_of_zero_le hg.lo
    obtain ⟨rfl, rfl, rfl, rfl⟩ := H1.out.good hg
    obtain ⟨N2, L2, c2, hr2⟩ := PairsRes.ex N (fun i j => !adj l i j)
    have hN : N ≤ 100 := by have := hg.hi; omega
    have hll : l.length ≤ 1000 := hg.len
    have Hfl := Lib.hid (show (formL N l).length = l.length from form_length hg)
    have hfl : (formL N l).length ≤ 1000 := by rw [Hfl.out]; exact hll
    have R4 := Lib.hid (H4.out.good hg)
    have Hdeg := Lib.hid (deg_sum hg)
    have Hlc := Lib.hid (line_count hg)
    have Hg := Lib.hid hg
    have R2 := Lib.hid hr2
    clear hg hr2 H1 Hs
    have cn := E4.out.cn
    have cs := E4.out.cs
    go_upto_region 6 with fail
    go_wp2_with fail
    refine (complement_ok Hg.out R2.out _ _ E4.out.he).mono ?_
    rintro e w5 ⟨v5, ho5, hb5, rfl⟩
    obtain ⟨a5, k5, rfl⟩ := ho5.form
    have hz4 := RU4.out.lt
    have rz := row_off (RZ4.out.of_block (hb5.block _ RZ4.out.lt)) (show w3.heap.size ≠ w3.heap.size + 1 by omega) (.int .i64 c2) (.int .i64 0)
    have ru5 := RU4.out.of_block (hb5.block _ RU4.out.lt)
    have ru := row_two ru5 (.int .i64 c2) (.int .i64 0)
    have b5 := below_set2 (upb B4.out hb5) (show w3.heap.size ≤ w3.heap.size + 1 by omega) (.int .i64 c2) (.int .i64 0)
    have ho6 := (ho5.set hz4 0 (.int .i64 c2)).set hz4 1 (.int .i64 0)
    have hsz5 : ((w5.setCell ⟨w3.heap.size + 1, 0, none⟩ (.int .i64 c2)).setCell ⟨w3.heap.size + 1, 1, none⟩ (.int .i64 0)).heap.size = w5.heap.size := by rw [size_setCell, size_setCell]
    have cx := two_cells ((w5.setCell ⟨w3.heap.size + 1, 0, none⟩ (.int .i64 c2)).setCell ⟨w3.heap.size + 1, 1, none⟩ (.int .i64 0)) (.int .i64 N2) (.slice a5 L2.length k5) 24
    rw [hsz5] at cx
    clear y0 y1 g0 g1 l1
    obtain ⟨y0, y1, g0, g1, l1⟩ := row_facts ru5
    have B6 := Lib.hid (upb b5 (below1 _ (Obj.cells #[.int .i64 N2, .slice a5 L2.length k5] 24)))
    have RZ6 := Lib.hid (rz.alloc (Obj.cells #[.int .i64 N2, .slice a5 L2.length k5] 24))
    have RU6 := Lib.hid (ru.alloc (Obj.cells #[.int .i64 N2, .slice a5 L2.length k5] 24))
    have Ho6 := Lib.hid (ho6.edges.below (below1 _ (Obj.cells #[.int .i64 N2, .slice a5 L2.length k5] 24)))
    have Cx := Lib.hid cx
    clear rz ru ru5 b5 ho6 ho5 hb5 cx hz4 hsz5 RZ4 RU4 E4 cn cs
    go_upto_region 7 with fail
    clear y0 y1 g0 g1 l1
    generalize ((w5.setCell ⟨w3.heap.size + 1, 0, none⟩ (.int .i64 c2)).setCell ⟨w3.heap.size + 1, 1, none⟩ (.int .i64 0)).alloc (Obj.cells #[.int .i64 N2, .slice a5 L2.length k5] 24) = w6 at *
    generalize w5.heap.size = P2 at *
    obtain ⟨z0, z1, f0, f1, l0⟩ := row_facts RZ6.out
    obtain ⟨y0, y1, g0, g1, l1⟩ := row_facts RU6.out
    obtain ⟨x0, x1⟩ := Cx.out
    have hxl := World.block_lt_of_cell? _ _ x0
    have E6 := Lib.hid (E3.out.below B6.out)
    have cn := E6.out.cn
    have cs := E6.out.cs
    have hgl : w.heap.size < w6.heap.size := World.block_lt_of_cell? _ _ cn
    go_upto_if 31 with fail
    go_cut [] from 31 to 62 (fun wx => Below w6.heap.size w6 wx)
    case first =>
      by_cases hc2 : c2 = 0
      · subst hc2
        obtain ⟨rfl, rfl, hfew⟩ := R2.out.few rfl
        have hcnt := compl_count_int l N
        have hgood2 := good_prs hN hfew
        have hback : PairsRes N (fun i j => !adj (prsTo N (fun i j => !adj l i j) N) i j) N (formL N l) 0 := by
          have := PairsRes.of_few (n := N) (p := fun i j => !adj (prsTo N (fun i j => !adj l i j) N) i j) (by rw [compl_back]; omega)
          rwa [compl_back] at this
        have Hg2 := Lib.hid hgood2
        have Hback := Lib.hid hback
        clear hgood2 hback
        generalize hL1 : prsTo N (fun i j => !adj l i j) N = Q1 at *
        generalize hL2 : formL N l = Q2 at *
        have hm := mul_le_tri hN
        go_wp2_with fail
        refine (complement_ok Hg2.out Hback.out _ _ Ho6.out).mono ?_
        rintro e w7 ⟨v7, ho7, hb7, rfl⟩
        obtain ⟨a7, k7, rfl⟩ := ho7.form
        have b8 := below2 w7 (Obj.cells #[.int .i64 (N : Int), .slice a7 Q2.length k7] 24) (Obj.cells #[.int .i64 0, .int .i64 0] 28)
        have X8 := Lib.hid ((VarG.new (n := (N : Int)) 24 ho7.edges).below (below1 _ (Obj.cells #[.int .i64 0, .int .i64 0] 28)))
        have f8 := VarF.new (w7.alloc (Obj.cells #[.int .i64 (N : Int), .slice a7 Q2.length k7] 24)) 0 0 28
        rw [World.size_alloc] at f8
        have F8 := Lib.hid f8
        have B8 := Lib.hid (upb hb7 b8)
        have rz := RZ6.out.of_block ((upb hb7 b8).block _ RZ6.out.lt)
        have cx0 := below_cell (upb hb7 b8) Cx.out.1
        have cx1 := below_cell (upb hb7 b8) Cx.out.2
        have cn8 := below_cell (upb hb7 b8) E6.out.cn
        have He8 := Lib.hid (He3.out.below (upb B6.out B8.out))
        clear f8 b8 hb7 ho7 z0 z1 f0 f1 l0 y0 y1 g0 g1 l1 x0 x1 cn cs
        go_upto_region 9 with fail
        generalize (w7.alloc (Obj.cells #[.int .i64 (N : Int), .slice a7 Q2.length k7] 24)).alloc (Obj.cells #[.int .i64 0, .int .i64 0] 28) = w8 at *
        generalize w7.heap.size = P3 at *
        obtain ⟨z0, z1, f0, f1, l0⟩ := row_facts rz
        have x0 := X8.out.c0
        have x1 := X8.out.c1
        have g0 := F8.out.c0
        have g1 := F8.out.c1
        have hgl8 : w.heap.size < w8.heap.size := World.block_lt_of_cell? _ _ cn8
        clear rz
        go_wp2_with fail
        refine (same_any Q2 Q2 (N : Int) (N : Int) _ _ _ X8.out.he He8.out).mono ?_
        rintro e w9 ⟨rfl, hb9⟩
        rw [decide_eq_true (show (N : Int) = N ∧ Q2 = Q2 from ⟨rfl, rfl⟩)]
        have cx0 := below_cell hb9 cx0
        have cx1 := below_cell hb9 cx1
        have cn8 := below_cell hb9 cn8
        have z1 := below_cell hb9 z1
        have l0 := Nat.lt_of_lt_of_le l0 hb9.size
        have hgl8 := Nat.lt_of_lt_of_le hgl8 hb9.size
        have hxl := Nat.lt_of_lt_of_le (World.block_lt_of_cell? _ _ cx0) (Nat.le_refl _)
        have B9 := Lib.hid (upb B8.out hb9)
        clear hb9 x0 x1 g0 g1 z0 f0 f1
        go_wp2
        go_meet
        exact B9.out
      · have q : (c2 == 0) = false := by simp [hc2]
        go_wp2
        go_meet
        exact Below.refl _ _
    case rest =>
    obtain ⟨w10, rfl⟩ : ∃ w10 : World, w10 = wc := ⟨_, rfl⟩
    have B10 := Lib.hid (upb B6.out hcut)
    have RU10 := Lib.hid (RU6.out.of_block (hcut.block _ RU6.out.lt))
    have E10 := Lib.hid (E3.out.below B10.out)
    clear z0 z1 f0 f1 l0 y0 y1 g0 g1 l1 x0 x1 hxl cn cs hgl hcut RZ6 RU6 Ho6 Cx E6 B6 R2
    go_wp2
    obtain ⟨wo, rfl⟩ : ∃ wo : World, wo = w10 := ⟨_, rfl⟩
    go_loopg [8, 9, 10] N (fun g s8 s9 s10 wr => ∃ v : Nat, v ≤ N ∧ g = N - v ∧ s10 = .int .i64 v ∧ s8 = .int .i64 ((sumN v fun u => (nbrs l N u).length : Nat) : Int) ∧ s9 = .int .i64 ((sumN v fun u => (nbrs l N u).length * ((nbrs l N u).length - 1) / 2 : Nat) : Int) ∧ Below wo.heap.size wo wr)
    case atStart => exact ⟨0, Nat.zero_le _, rfl, rfl, rfl, rfl, Below.refl _ _⟩
    case round =>
      obtain ⟨v, hv, rfl, rfl, rfl, rfl, hb⟩ := hrel
      have HB := Lib.hid hb
      have E11 := Lib.hid (E10.out.below hb)
      have cn := E11.out.cn
      have cs := E11.out.cs
      have hgl : w.heap.size < wr.heap.size := World.block_lt_of_cell? _ _ cn
      have hs1 := sumN_bound (n := v) (c := 100) (f := fun u => (nbrs l N u).length) (fun i _ => Nat.le_trans (nbrs_few l N i) hN)
      have hs2 := sumN_bound (n := v) (c := 10000) (f := fun u => (nbrs l N u).length * ((nbrs l N u).length - 1) / 2) (fun i _ => half_le (Nat.le_trans (nbrs_few l N i) hN))
      have hsu1 := sumN_succ v (fun u => (nbrs l N u).length)
      have hsu2 := sumN_succ v (fun u => (nbrs l N u).length * ((nbrs l N u).length - 1) / 2)
      by_cases hlt : v < N
      · have hnr : NearR l (v : Int) N (ints (nbrs l N v)) 0 0 := Or.inr ⟨by omega, by omega, by simp, rfl, rfl⟩
        have Hnr := Lib.hid hnr
        have hd100 := Nat.le_trans (nbrs_few l N v) hN
        have hm := mul_le_tri hd100
        have hh := half_int (nbrs l N v).length
        have hh2 := half_le hd100
        generalize (sumN v fun u => (nbrs l N u).length) = S1 at *
        generalize (sumN v fun u => (nbrs l N u).length * ((nbrs l N u).length - 1) / 2) = S2 at *
        have Hs1 := Lib.hid hsu1
        have Hs2 := Lib.hid hsu2
        clear hb hsu1 hsu2 hnr
        go_wp2_with fail
        refine (near_ok Hg.out _ Hnr.out _ _ E11.out.he).mono ?_
        rintro e w12 ⟨v12, rfl, hi12, hb12⟩
        obtain ⟨a12, k12, o12, q12, rfl, -⟩ := id hi12
        rw [ints_length]
        have f13 := two_cells w12 (.int .i64 0) (.int .i64 0) 28
        have B13 := Lib.hid (upb HB.out (upb hb12 (below1 w12 (Obj.cells #[.int .i64 0, .int .i64 0] 28))))
        obtain ⟨f0, f1⟩ := f13
        generalize (nbrs l N v).length = d at *
        generalize hhd : d * (d - 1) / 2 = dh at *
        clear hi12 hb12 cn cs hgl E11
        go_wp2
        go_roundg (N - (v + 1))
        case measure => go_light; omega
        case rel => exact ⟨v + 1, by omega, rfl, by go_num, by rw [Hs1.out]; go_num, by rw [Hs2.out]; go_num, B13.out⟩
      · obtain rfl : v = N := by omega
        have ru11 := RU10.out.of_block (hb.block _ RU10.out.lt)
        have RU11 := Lib.hid ru11
        have Hdg := Lib.hid (show (((sumN v fun u => (nbrs l v u).length : Nat) : Int) == 2 * (l.length : Int)) = true by rw [Hdeg.out]; simp)
        clear hb hs1 hs2 hsu1 hsu2 ru11
        have HS2 := Hlc
        generalize (sumN v fun u => (nbrs l v u).length) = S1 at *
        generalize (sumN v fun u => (nbrs l v u).length * ((nbrs l v u).length - 1) / 2) = S2 at *
        go_wp2_with fail
        refine (line_is H4.out _ _ E11.out.he).mono ?_
        rintro e w14 ⟨v14, ho14, hb14, rfl⟩
        obtain ⟨a14, k14, rfl⟩ := ho14.form
        have ru14 := RU11.out.of_block (hb14.block _ RU11.out.lt)
        have ru := row_two ru14 (.int .i64 c4) (.int .i64 d4)
        have b14 := below_set2 (upb (upb B10.out HB.out) hb14) (show w3.heap.size ≤ w3.heap.size + 1 by omega) (.int .i64 c4) (.int .i64 d4)
        have hsz14 : ((w14.setCell ⟨w3.heap.size + 1, 0, none⟩ (.int .i64 c4)).setCell ⟨w3.heap.size + 1, 1, none⟩ (.int .i64 d4)).heap.size = w14.heap.size := by rw [size_setCell, size_setCell]
        have cx := two_cells ((w14.setCell ⟨w3.heap.size + 1, 0, none⟩ (.int .i64 c4)).setCell ⟨w3.heap.size + 1, 1, none⟩ (.int .i64 d4)) (.int .i64 N4) (.slice a14 L4.length k14) 24
        rw [hsz14] at cx
        obtain ⟨y0, y1, g0, g1, l1⟩ := row_facts ru14
        have B15 := Lib.hid (upb b14 (below1 _ (Obj.cells #[.int .i64 N4, .slice a14 L4.length k14] 24)))
        have RU15 := Lib.hid (ru.alloc (Obj.cells #[.int .i64 N4, .slice a14 L4.length k14] 24))
        have Cx := Lib.hid cx
        have hlen4 : L4.length ≤ 1000 := by
          rcases R4.out with ⟨-, -, e, -⟩ | ⟨-, hr, -⟩
          · rw [e]; simp
          · exact hr.len
        clear ru ru14 b14 cx hsz14 hb14 ho14 cn cs hgl
        go_upto_region 21 with fail
        clear y0 y1 g0 g1 l1
        generalize ((w14.setCell ⟨w3.heap.size + 1, 0, none⟩ (.int .i64 c4)).setCell ⟨w3.heap.size + 1, 1, none⟩ (.int .i64 d4)).alloc (Obj.cells #[.int .i64 N4, .slice a14 L4.length k14] 24) = w15 at *
        generalize w14.heap.size = P4 at *
        obtain ⟨y0, y1, g0, g1, l1⟩ := row_facts RU15.out
        obtain ⟨x0, x1⟩ := Cx.out
        have E15 := Lib.hid (E3.out.below B15.out)
        have cn := E15.out.cn
        have cs := E15.out.cs
        have hgl : w.heap.size < w15.heap.size := World.block_lt_of_cell? _ _ cn
        have hxl := World.block_lt_of_cell? _ _ x0
        by_cases hc4 : c4 = 0
        · subst hc4
          obtain ⟨e1, e2⟩ : N4 = (l.length : Int) ∧ ((L4.length : Int) != (S2 : Int)) = false := by
            rcases R4.out with ⟨-, -, -, e, -⟩ | ⟨-, hr, -⟩
            · cases e
            · obtain ⟨q1, q2, -⟩ := hr.few rfl
              have := HS2.out
              exact ⟨by rw [q1, Hfl.out], by rw [q2, this]; simp⟩
          subst e1
          go_wp2
          go_ret
          exact ⟨ret_bool Hdg.out, E15.out.hb⟩
        · have q : (c4 == 0) = false := by simp [hc4]
          have Hc4 := Lib.hid hc4
          clear hc4
          go_wp2
          go_ret
          exact ⟨ret_bool Hdg.out, E15.out.hb⟩
  · have q : (c != 0) = true := by simp [hc]
    obtain ⟨rfl, rfl, rfl, rfl⟩ := H1.out.bad Hs.out hc
    have Hc := Lib.hid hc
    clear hc
    go_wp2
    go_ret
    exact ⟨rfl, E4.out.hb⟩

end Go.Proofs.Ytbnbhjeknocboaa
