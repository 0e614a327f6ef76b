/- arborlaw.CodecBack answers true: the walk. -/
import Derived.Test.YtokjcapheogkoaaDoorCodB
import Derived.Test.YtokjcapheogkoaaDoorReadW
import Derived.Test.YtokjcapheogkoaaDoorUnpW
import Derived.Test.YtokjcapheogkoaaDoorGP
import Derived.Test.YtokjcapheogkoaaDoorBackL
import Derived.Test.YtokjcapheogkoaaDoorSame
import Derived.Test.YtokjcapheogkoaaDoorFVar
import Derived.Test.YtokjcapheogkoaaDoorGOwn
namespace Go.Proofs.YtokjcapheogkoaaDoor
open Go Go.RowKit

/-- What stands: the argument's box, its edges. -/
structure BK (w wr : World) (n : Int) (v : Value) (l : List (Int × Int)) : Prop where
  hb : Below w.heap.size w wr
  cn : wr.cell? ⟨w.heap.size, 0, none⟩ = some (.int .i64 n)
  cs : wr.cell? ⟨w.heap.size, 1, none⟩ = some v
  he : IsEdges wr v l
theorem BK.below {w wr w' : World} {n : Int} {v : Value} {l : List (Int × Int)} (h : BK w wr n v l) (hb : Below wr.heap.size wr w') : BK w w' n v l :=
  ⟨h.hb.trans (hb.mono h.hb.size), below_cell hb h.cn, below_cell hb h.cs, h.he.below hb⟩
/-- And the fault's variable. -/
structure BKF (w wr : World) (n : Int) (v : Value) (l : List (Int × Int)) (B : Nat) (c a : Int) : Prop extends BK w wr n v l where
  r : FV wr B c a
  lo : w.heap.size ≤ B
theorem BKF.below {w wr w' : World} {n : Int} {v : Value} {l : List (Int × Int)} {B : Nat} {c a : Int} (h : BKF w wr n v l B c a) (hb : Below wr.heap.size wr w') : BKF w w' n v l B c a :=
  { h.toBK.below hb with r := h.r.below hb, lo := h.lo }
theorem BK.fault {w wr : World} {n : Int} {v : Value} {l : List (Int × Int)} (h : BK w wr n v l) (c a : Int) : BKF w (wr.alloc (Obj.cells #[.int .i64 c, .int .i64 a] 27)) n v l wr.heap.size c a :=
  { h.below (below1 wr _) with r := FV.new wr c a, lo := h.hb.size }
/-- A graph of one's own, and the fault's variable turned. -/
structure BKT (w wr : World) (D B : Nat) (n : Int) (v : Value) (l : List (Int × Int)) (c a : Int) : Prop where
  hb : Below w.heap.size w wr
  dn : wr.cell? ⟨D, 0, none⟩ = some (.int .i64 n)
  ds : wr.cell? ⟨D, 1, none⟩ = some v
  he : IsEdges wr v l
  r : FV wr B c a
  lo : w.heap.size ≤ B
theorem BKT.below {w wr w' : World} {D B : Nat} {n : Int} {v : Value} {l : List (Int × Int)} {c a : Int} (h : BKT w wr D B n v l c a) (hb : Below wr.heap.size wr w') : BKT w w' D B n v l c a :=
  ⟨h.hb.trans (hb.mono h.hb.size), below_cell hb h.dn, below_cell hb h.ds, h.he.below hb, h.r.below hb, h.lo⟩
theorem BKF.turn {w wr w' : World} {n : Int} {v : Value} {l : List (Int × Int)} {B : Nat} {c a : Int} (h : BKF w wr n v l B c a) (hb : Below wr.heap.size wr w') (n' : Int) {v' : Value} {l' : List (Int × Int)} (ho : OwnE w' wr.heap.size v' l') (c' a' : Int) :
    BKT w (((w'.setCell ⟨B, 0, none⟩ (.int .i64 c')).setCell ⟨B, 1, none⟩ (.int .i64 a')).alloc (Obj.cells #[.int .i64 n', v'] 24)) w'.heap.size B n' v' l' c' a' := by
  have hBr : B < wr.heap.size := h.r.facts.2.2.2.2
  obtain ⟨w2, hw2⟩ : ∃ w2, w2 = (w'.setCell ⟨B, 0, none⟩ (.int .i64 c')).setCell ⟨B, 1, none⟩ (.int .i64 a') := ⟨_, rfl⟩
  have hsz : w2.heap.size = w'.heap.size := by rw [hw2]; simp
  have r0 := two_row w2 (.int .i64 n') v' 24
  have ho' := (ho.set hBr 0 (.int .i64 c')).set hBr 1 (.int .i64 a')
  have hr := ((h.r.below hb).put c' a')
  have hbb := ((h.hb.trans (hb.mono h.hb.size)).setCell (p := ⟨B, 0, none⟩) h.lo (.int .i64 c')).setCell (p := ⟨B, 1, none⟩) h.lo (.int .i64 a')
  rw [← hw2] at ho' hr hbb ⊢
  rw [hsz] at r0
  exact ⟨hbb.trans ((below1 w2 _).mono hbb.size), (row_facts r0).1, (row_facts r0).2.1, (ho'.below (below1 w2 _)).edges, hr.below (below1 w2 _), h.lo⟩

set_option maxHeartbeats 6400000 in
set_option maxRecDepth 100000 in
theorem codecBackLaw_any (n : Int) (l : List (Int × Int)) (b : List UInt8) (sv : Value) (w : World) (h : IsEdges w sv l) (hT : Pow10 w) :
    Calls Tryd.prog 5 #[.agg #[.int .i64 n, sv], .string (bA b)] w fun e w' => e = .returned (.bool true) ∧ Below w.heap.size w w' := by
  have HT := Lib.hid hT
  clear hT
  obtain ⟨ad, cap, rfl⟩ := h.form
  have c0 := two_cells w (.int .i64 n) (.slice ad l.length cap) 24
  have K1 := Lib.hid (show BK w (w.alloc (Obj.cells #[.int .i64 n, .slice ad l.length cap] 24)) n (.slice ad l.length cap) l from ⟨below1 w _, c0.1, c0.2, h.below (below1 w _)⟩)
  clear c0 h
  go_enter Tryd.func5, Tryd.ntmps5
  go_upto_region 1 with fail
  generalize w.alloc (Obj.cells #[.int .i64 n, .slice ad l.length cap] 24) = w1 at *
  go_wp2_with fail
  refine (codecBegun_any w1 (HT.out.below K1.out.hb)).mono ?_
  rintro e w2 ⟨rfl, hb2⟩
  have K2 := Lib.hid (K1.out.below hb2)
  clear hb2 K1
  have cn := K2.out.cn
  have cs := K2.out.cs
  go_wp2_with fail
  refine (pack_any n l _ _ K2.out.he).mono ?_
  rintro e w3 ⟨c, a, s1, rfl, hsp, hb3, hres1⟩
  have Hsp := Lib.hid hsp
  have R1 := Lib.hid hres1
  have K4 := Lib.hid ((K2.out.below hb3).fault c a)
  clear hsp hres1 hb3 cn cs K2
  go_upto_region 4 with fail
  generalize w3.alloc (Obj.cells #[.int .i64 c, .int .i64 a] 27) = w4 at *
  generalize w3.heap.size = B at *
  obtain ⟨f0, f1, -, -, -⟩ := K4.out.r.facts
  by_cases hz : c = 0
  · subst hz
    obtain ⟨hgood, rfl⟩ := Hsp.out.good
    have hn0 := hgood.lo
    obtain ⟨N, rfl⟩ := Int.eq_ofNat_of_zero_le hn0
    clear hn0
    have hs1 : s1 = bA (u8L (packN N (adj l))) := by
      rcases R1.out with ⟨h, -⟩ | ⟨-, -, N', h1, h2⟩
      · exact absurd rfl h
      · obtain rfl : N' = N := by omega
        exact h2
    subst hs1
    have Hu := Lib.hid (back_uG hgood)
    have Ht := Lib.hid (back_text hgood)
    have Hlen := Lib.hid (form_length hgood)
    have Hg := Lib.hid hgood
    clear hgood R1
    have cn := K4.out.cn
    have cs := K4.out.cs
    go_wp2_with fail
    refine (print_any (N : Int) l _ _ K4.out.he (HT.out.below K4.out.hb)).mono ?_
    rintro e w5 ⟨c', a', s2, rfl, hsp', hb5, hres2⟩
    obtain ⟨rfl, rfl⟩ := hsp'.uniq Hg.out.spec
    have hs2 : s2 = bA (txtN N (prsTo N (adj l) N)) := by
      rcases hres2 with ⟨h, -⟩ | ⟨-, -, N', h1, h2⟩
      · exact absurd rfl h
      · obtain rfl : N' = N := by omega
        exact h2
    subst hs2
    have K6 := Lib.hid (K4.out.below (upp hb5 (below1 w5 (Obj.cells #[.int .i64 0, .int .i64 0] 27))))
    have F6 := Lib.hid (FV.new w5 0 0)
    clear hsp' hb5 hres2 cn cs f0 f1 K4
    generalize hb1 : u8L (packN N (adj l)) = b1 at *
    generalize hb2 : txtN N (prsTo N (adj l) N) = b2 at *
    generalize hLL : prsTo N (adj l) N = LL at *
    clear hb1 hb2 hLL
    go_upto_region 6 with fail
    generalize w5.alloc (Obj.cells #[.int .i64 0, .int .i64 0] 27) = w6 at *
    generalize w5.heap.size = C at *
    have U1 := Lib.hid (unpack_any b1)
    have U2 := Lib.hid (read_any b2)
    generalize bA b1 = s1 at *
    generalize bA b2 = s2 at *
    go_wp2_with fail
    refine (U1.out w6).mono ?_
    rintro e w7a ⟨N1, L1, c1, a1, hx1, v1, ho1, hb7, rfl⟩
    rw [Hu.out] at hx1
    simp only [Prod.mk.injEq] at hx1
    obtain ⟨rfl, rfl, rfl, rfl⟩ := hx1
    obtain ⟨ad1, cp1, rfl⟩ := ho1.form
    have P1 := Lib.hid (GP.new w7a (N : Int) (.slice ad1 LL.length cp1) 0 0 ho1.edges)
    have B7 := Lib.hid (upp hb7 (below2 w7a (Obj.cells #[.int .i64 (N : Int), .slice ad1 LL.length cp1] 24) (Obj.cells #[.int .i64 0, .int .i64 0] 27)))
    have K7 := Lib.hid (K6.out.below B7.out)
    have F7 := Lib.hid (F6.out.below B7.out)
    clear ho1 hb7 K6 F6
    go_upto_region 7 with fail
    generalize (w7a.alloc (Obj.cells #[.int .i64 (N : Int), .slice ad1 LL.length cp1] 24)).alloc (Obj.cells #[.int .i64 0, .int .i64 0] 27) = w7 at *
    generalize w7a.heap.size = A1 at *
    go_wp2_with fail
    refine (U2.out w7).mono ?_
    rintro e w8a ⟨N2, L2, c2, a2, hx2, v2, ho2, hb8, rfl⟩
    obtain ⟨rfl, rfl, rfl, rfl⟩ := hx2.uniq Ht.out
    obtain ⟨ad2, cp2, rfl⟩ := ho2.form
    have P2 := Lib.hid (GP.new w8a (N2 : Int) (.slice ad2 L2.length cp2) 0 0 ho2.edges)
    have B8 := Lib.hid (upp hb8 (below2 w8a (Obj.cells #[.int .i64 (N2 : Int), .slice ad2 L2.length cp2] 24) (Obj.cells #[.int .i64 0, .int .i64 0] 27)))
    have P1 := Lib.hid (P1.out.below B8.out)
    have K8 := Lib.hid (K7.out.below B8.out)
    have F8 := Lib.hid (F7.out.below B8.out)
    clear ho2 hb8 hx2 K7 F7
    go_upto_region 8 with fail
    generalize (w8a.alloc (Obj.cells #[.int .i64 (N2 : Int), .slice ad2 L2.length cp2] 24)).alloc (Obj.cells #[.int .i64 0, .int .i64 0] 27) = w8 at *
    generalize w8a.heap.size = A2 at *
    have hlen : (L2.length : Int) = l.length := by have := Hlen.out; omega
    obtain ⟨x0, x1, x2, x3⟩ := P1.out.facts
    obtain ⟨y0, y1, y2, y3⟩ := P2.out.facts
    obtain ⟨e0, e1, -, -, -⟩ := F8.out.facts
    have cn := K8.out.cn
    have cs := K8.out.cs
    have hsame := same_any L2 L2 (N2 : Int) (N2 : Int) (.slice ad1 L2.length cp1) (.slice ad2 L2.length cp2) w8 P1.out.he P2.out.he
    rw [decide_eq_true (⟨rfl, rfl⟩ : (N2 : Int) = N2 ∧ L2 = L2)] at hsame
    have Hsame := Lib.hid hsame
    clear hsame
    go_wp2_with fail
    refine Hsame.out.mono ?_
    rintro e w9 ⟨rfl, hb9⟩
    have K9 := Lib.hid (K8.out.below hb9)
    have P1 := Lib.hid (P1.out.below hb9)
    clear hb9 x0 x1 x2 x3 y0 y1 y2 y3 e0 e1 cn cs Hsame K8
    obtain ⟨x0, x1, x2, x3⟩ := P1.out.facts
    have cn := K9.out.cn
    have cs := K9.out.cs
    have qlen : (((L2.length : Nat) : Int) != ((l.length : Nat) : Int)) = false := by simp; omega
    obtain ⟨f0, f1, z0, z1, -⟩ := K9.out.r.facts
    go_wp2_with fail
    refine (unpack_any b _).mono ?_
    rintro e w10 ⟨N3, L3, c3, a3, hs3, v3, ho3, hb10, rfl⟩
    obtain ⟨ad3, cp3, rfl⟩ := ho3.form
    have T10 := Lib.hid ((K9.out.turn hb10 (N3 : Int) ho3 c3 a3))
    have Hs3 := Lib.hid hs3
    obtain ⟨q0, q1, z0, z1, zl⟩ := (K9.out.below hb10).r.facts
    clear hs3 ho3 hb10
    go_upto_region 11 with fail
    generalize ((w10.setCell ⟨B, 0, none⟩ (.int .i64 c3)).setCell ⟨B, 1, none⟩ (.int .i64 a3)).alloc (Obj.cells #[.int .i64 (N3 : Int), .slice ad3 L3.length cp3] 24) = w11 at *
    generalize w10.heap.size = D at *
    clear q0 q1 z0 z1 zl
    obtain ⟨f0, f1, z0, z1, -⟩ := T10.out.r.facts
    have g0 := T10.out.dn
    have g1 := T10.out.ds
    by_cases hz3 : c3 = 0
    · subst hz3
      obtain ⟨hg3, hback⟩ := back_code Hs3.out
      have Hg3 := Lib.hid hg3
      have hp : packS N3 (adj L3) = bA b := by unfold packS; rw [hback]; rfl
      have Hp := Lib.hid hp
      clear hg3 hback hp
      go_wp2_with fail
      refine (pack_any (N3 : Int) L3 _ _ T10.out.he).mono ?_
      rintro e w12 ⟨c4, a4, s4, rfl, hsp4, hb12, hres4⟩
      obtain ⟨rfl, rfl⟩ := hsp4.uniq Hg3.out.spec
      have hs4 : s4 = bA b := by
        rcases hres4 with ⟨h, -⟩ | ⟨-, -, N', h1, h2⟩
        · exact absurd rfl h
        · obtain rfl : N' = N3 := by omega
          rw [h2]; exact Hp.out
      subst hs4
      have T12 := Lib.hid (T10.out.below hb12)
      clear hb12 hsp4 hres4 f0 f1 z0 z1 g0 g1
      obtain ⟨f0, f1, z0, z1, -⟩ := T12.out.r.facts
      have hbB := T12.out.hb
      have h4 := T12.out.r.put 0 0
      have hend := (T12.out.hb.setCell (p := ⟨B, 0, none⟩) T12.out.lo (.int .i64 0)).setCell (p := ⟨B, 1, none⟩) T12.out.lo (.int .i64 0)
      have Hend := Lib.hid hend
      go_upto_region 14 with fail
      generalize (w12.setCell ⟨B, 0, none⟩ (.int .i64 0)).setCell ⟨B, 1, none⟩ (.int .i64 0) = w13 at *
      obtain ⟨k0, k1, -, -, -⟩ := h4.facts
      clear hend f0 f1 z0 z1 hbB h4
      go_wp2
      go_ret
      exact ⟨rfl, Hend.out⟩
    · have q : (c3 != 0) = true := by simp [hz3]
      clear hz3
      go_wp2
      go_ret
      exact ⟨rfl, T10.out.hb⟩
  · have q : (c == 0) = false := by simp [hz]
    clear hz
    obtain ⟨f0', f1', z0, z1, -⟩ := K4.out.r.facts
    go_wp2_with fail
    refine (unpack_any b _).mono ?_
    rintro e w10 ⟨N3, L3, c3, a3, hs3, v3, ho3, hb10, rfl⟩
    obtain ⟨ad3, cp3, rfl⟩ := ho3.form
    have T10 := Lib.hid ((K4.out.turn hb10 (N3 : Int) ho3 c3 a3))
    have Hs3 := Lib.hid hs3
    obtain ⟨q0, q1, z0, z1, zl⟩ := (K4.out.below hb10).r.facts
    clear hs3 ho3 hb10
    go_upto_region 11 with fail
    generalize ((w10.setCell ⟨B, 0, none⟩ (.int .i64 c3)).setCell ⟨B, 1, none⟩ (.int .i64 a3)).alloc (Obj.cells #[.int .i64 (N3 : Int), .slice ad3 L3.length cp3] 24) = w11 at *
    generalize w10.heap.size = D at *
    clear q0 q1 z0 z1 zl
    obtain ⟨f0, f1, z0, z1, -⟩ := T10.out.r.facts
    have g0 := T10.out.dn
    have g1 := T10.out.ds
    by_cases hz3 : c3 = 0
    · subst hz3
      obtain ⟨hg3, hback⟩ := back_code Hs3.out
      have Hg3 := Lib.hid hg3
      have hp : packS N3 (adj L3) = bA b := by unfold packS; rw [hback]; rfl
      have Hp := Lib.hid hp
      clear hg3 hback hp
      go_wp2_with fail
      refine (pack_any (N3 : Int) L3 _ _ T10.out.he).mono ?_
      rintro e w12 ⟨c4, a4, s4, rfl, hsp4, hb12, hres4⟩
      obtain ⟨rfl, rfl⟩ := hsp4.uniq Hg3.out.spec
      have hs4 : s4 = bA b := by
        rcases hres4 with ⟨h, -⟩ | ⟨-, -, N', h1, h2⟩
        · exact absurd rfl h
        · obtain rfl : N' = N3 := by omega
          rw [h2]; exact Hp.out
      subst hs4
      have T12 := Lib.hid (T10.out.below hb12)
      clear hb12 hsp4 hres4 f0 f1 z0 z1 g0 g1
      obtain ⟨f0, f1, z0, z1, -⟩ := T12.out.r.facts
      have hbB := T12.out.hb
      have h4 := T12.out.r.put 0 0
      have hend := (T12.out.hb.setCell (p := ⟨B, 0, none⟩) T12.out.lo (.int .i64 0)).setCell (p := ⟨B, 1, none⟩) T12.out.lo (.int .i64 0)
      have Hend := Lib.hid hend
      go_upto_region 14 with fail
      generalize (w12.setCell ⟨B, 0, none⟩ (.int .i64 0)).setCell ⟨B, 1, none⟩ (.int .i64 0) = w13 at *
      obtain ⟨k0, k1, -, -, -⟩ := h4.facts
      clear hend f0 f1 z0 z1 hbB h4
      go_wp2
      go_ret
      exact ⟨rfl, Hend.out⟩
    · have q : (c3 != 0) = true := by simp [hz3]
      clear hz3
      go_wp2
      go_ret
      exact ⟨rfl, T10.out.hb⟩

end Go.Proofs.YtokjcapheogkoaaDoor
