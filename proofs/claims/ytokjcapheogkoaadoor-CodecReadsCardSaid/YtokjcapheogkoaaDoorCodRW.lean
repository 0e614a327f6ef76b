/- arborlaw.CodecReads answers true: the walk. -/
import Derived.Test.YtokjcapheogkoaaDoorCodB
import Derived.Test.YtokjcapheogkoaaDoorReadW
import Derived.Test.YtokjcapheogkoaaDoorUnpW
import Derived.Test.YtokjcapheogkoaaDoorUnrW
namespace Go.Proofs.YtokjcapheogkoaaDoor
open Go Go.RowKit

/-- A graph's and a fault's variables. -/
structure GP (w : World) (A : Nat) (n : Int) (v : Value) (c a : Int) (L : List (Int × Int)) : Prop where
  r0 : w.rowIs A 24 2 (fun i => if i = 0 then .int .i64 n else v)
  r1 : w.rowIs (A + 1) 27 2 (fun i => if i = 0 then .int .i64 c else .int .i64 a)
  he : IsEdges w v L
theorem GP.new (w : World) (n : Int) (v : Value) (c a : Int) {L : List (Int × Int)} (h : IsEdges w v L) :
    GP ((w.alloc (Obj.cells #[.int .i64 n, v] 24)).alloc (Obj.cells #[.int .i64 c, .int .i64 a] 27)) w.heap.size n v c a L := by
  have r0 := two_row w (.int .i64 n) v 24
  have r1 := two_row (w.alloc (Obj.cells #[.int .i64 n, v] 24)) (.int .i64 c) (.int .i64 a) 27
  rw [World.size_alloc] at r1
  exact ⟨r0.alloc _, r1, h.below (below2 w _ _)⟩
theorem GP.below {w w' : World} {A : Nat} {n : Int} {v : Value} {c a : Int} {L : List (Int × Int)} (h : GP w A n v c a L) (hb : Below w.heap.size w w') : GP w' A n v c a L :=
  ⟨h.r0.of_block (hb.block _ h.r0.lt), h.r1.of_block (hb.block _ h.r1.lt), h.he.below hb⟩
theorem GP.facts {w : World} {A : Nat} {n : Int} {v : Value} {c a : Int} {L : List (Int × Int)} (h : GP w A n v c a L) :
    w.cell? ⟨A, 0, none⟩ = some (.int .i64 n) ∧ w.cell? ⟨A, 1, none⟩ = some v ∧ w.cell? ⟨A + 1, 0, none⟩ = some (.int .i64 c) ∧ w.cell? ⟨A + 1, 1, none⟩ = some (.int .i64 a) :=
  ⟨by rw [h.r0.cell (show 0 < 2 by omega)]; rfl, by rw [h.r0.cell (show 1 < 2 by omega)]; rfl, by rw [h.r1.cell (show 0 < 2 by omega)]; rfl, by rw [h.r1.cell (show 1 < 2 by omega)]; rfl⟩

set_option maxHeartbeats 3200000 in
set_option maxRecDepth 100000 in
theorem codecReadsLaw_any (b : List UInt8) (w : World) (hT : Pow10 w) :
    Calls Tryd.prog 4 #[.string (bA b)] w fun e w' => e = .returned (.bool true) ∧ Below w.heap.size w w' := by
  have HT := Lib.hid hT
  have U1' := Lib.hid (unpack_any b); have U2' := Lib.hid (read_any b); have U3' := Lib.hid (unpacked_any b); have U4' := Lib.hid (reads_any b)
  have Hb := Lib.hid (Below.refl w.heap.size w)
  clear hT
  generalize bA b = s at *
  go_enter Tryd.func4, Tryd.ntmps4
  go_upto_region 1 with fail
  go_wp2_with fail
  refine (U1'.out w).mono ?_
  rintro e w1a ⟨N1, L1, c1, a1, hs1, v1, ho1, hb1, rfl⟩
  obtain ⟨ad1, cp1, rfl⟩ := ho1.form
  have Hs1 := Lib.hid hs1
  have P1 := Lib.hid (GP.new w1a (N1 : Int) (.slice ad1 L1.length cp1) c1 a1 ho1.edges)
  have B1 := Lib.hid (upp hb1 (below2 w1a (Obj.cells #[.int .i64 (N1 : Int), .slice ad1 L1.length cp1] 24) (Obj.cells #[.int .i64 c1, .int .i64 a1] 27)))
  have Hb := Lib.hid (upp Hb.out B1.out)
  clear hs1 ho1 hb1
  go_upto_region 2 with fail
  generalize (w1a.alloc (Obj.cells #[.int .i64 (N1 : Int), .slice ad1 L1.length cp1] 24)).alloc (Obj.cells #[.int .i64 c1, .int .i64 a1] 27) = w1 at *
  generalize w1a.heap.size = A1 at *
  go_wp2_with fail
  refine (U2'.out w1).mono ?_
  rintro e w2a ⟨N2, L2, c2, a2, hs2, v2, ho2, hb2, rfl⟩
  obtain ⟨ad2, cp2, rfl⟩ := ho2.form
  have Hs2 := Lib.hid hs2
  have P2 := Lib.hid (GP.new w2a (N2 : Int) (.slice ad2 L2.length cp2) c2 a2 ho2.edges)
  have B2 := Lib.hid (upp hb2 (below2 w2a (Obj.cells #[.int .i64 (N2 : Int), .slice ad2 L2.length cp2] 24) (Obj.cells #[.int .i64 c2, .int .i64 a2] 27)))
  have P1 := Lib.hid (P1.out.below B2.out)
  have Hb := Lib.hid (upp Hb.out B2.out)
  clear hs2 ho2 hb2
  go_upto_region 3 with fail
  generalize (w2a.alloc (Obj.cells #[.int .i64 (N2 : Int), .slice ad2 L2.length cp2] 24)).alloc (Obj.cells #[.int .i64 c2, .int .i64 a2] 27) = w2 at *
  generalize w2a.heap.size = A2 at *
  go_wp2_with fail
  refine (U3'.out w2).mono ?_
  rintro e w3a ⟨N3, L3, c3, a3, hs3, v3, ho3, hb3, rfl⟩
  obtain ⟨ad3, cp3, rfl⟩ := ho3.form
  have Hs3 := Lib.hid hs3
  have P3 := Lib.hid (GP.new w3a (N3 : Int) (.slice ad3 L3.length cp3) c3 a3 ho3.edges)
  have B3 := Lib.hid (upp hb3 (below2 w3a (Obj.cells #[.int .i64 (N3 : Int), .slice ad3 L3.length cp3] 24) (Obj.cells #[.int .i64 c3, .int .i64 a3] 27)))
  have P1 := Lib.hid (P1.out.below B3.out)
  have P2 := Lib.hid (P2.out.below B3.out)
  have Hb := Lib.hid (upp Hb.out B3.out)
  clear hs3 ho3 hb3
  go_upto_region 4 with fail
  generalize (w3a.alloc (Obj.cells #[.int .i64 (N3 : Int), .slice ad3 L3.length cp3] 24)).alloc (Obj.cells #[.int .i64 c3, .int .i64 a3] 27) = w3 at *
  generalize w3a.heap.size = A3 at *
  go_wp2_with fail
  refine (U4'.out w3).mono ?_
  rintro e w4a ⟨N4, L4, c4, a4, hs4, v4, ho4, hb4, rfl⟩
  obtain ⟨ad4, cp4, rfl⟩ := ho4.form
  have Hs4 := Lib.hid hs4
  have P4 := Lib.hid (GP.new w4a (N4 : Int) (.slice ad4 L4.length cp4) c4 a4 ho4.edges)
  have B4 := Lib.hid (upp hb4 (below2 w4a (Obj.cells #[.int .i64 (N4 : Int), .slice ad4 L4.length cp4] 24) (Obj.cells #[.int .i64 c4, .int .i64 a4] 27)))
  have P1 := Lib.hid (P1.out.below B4.out)
  have P2 := Lib.hid (P2.out.below B4.out)
  have P3 := Lib.hid (P3.out.below B4.out)
  have Hb := Lib.hid (upp Hb.out B4.out)
  clear hs4 ho4 hb4
  go_upto_region 5 with fail
  generalize (w4a.alloc (Obj.cells #[.int .i64 (N4 : Int), .slice ad4 L4.length cp4] 24)).alloc (Obj.cells #[.int .i64 c4, .int .i64 a4] 27) = w4 at *
  generalize w4a.heap.size = A4 at *
  obtain ⟨rfl, rfl, rfl, rfl⟩ : N1 = N3 ∧ L1 = L3 ∧ c1 = c3 ∧ a1 = a3 := by
    have := Hs1.out
    rw [Hs3.out] at this
    simp only [Prod.mk.injEq] at this
    exact ⟨this.1.symm, this.2.1.symm, this.2.2.1.symm, this.2.2.2.symm⟩
  obtain ⟨rfl, rfl, rfl, rfl⟩ := Hs2.out.uniq Hs4.out
  go_wp2_with fail
  refine (codecBegun_any w4 (HT.out.below Hb.out)).mono ?_
  rintro e w5 ⟨rfl, hb5⟩
  have P1 := Lib.hid (P1.out.below hb5); have P2 := Lib.hid (P2.out.below hb5); have P3 := Lib.hid (P3.out.below hb5); have P4 := Lib.hid (P4.out.below hb5)
  have Hb := Lib.hid (upp Hb.out hb5)
  clear hb5
  obtain ⟨x0, x1, x2, x3⟩ := P1.out.facts
  obtain ⟨y0, y1, y2, y3⟩ := P2.out.facts
  obtain ⟨z0, z1, z2, z3⟩ := P3.out.facts
  obtain ⟨t0, t1, t2, t3⟩ := P4.out.facts
  have hsame := same_any L1 L1 (N1 : Int) (N1 : Int) (.slice ad1 L1.length cp1) (.slice ad3 L1.length cp3) w5 P1.out.he P3.out.he
  rw [decide_eq_true (⟨rfl, rfl⟩ : (N1 : Int) = N1 ∧ L1 = L1)] at hsame
  have Hsame := Lib.hid hsame
  clear hsame
  go_wp2_with fail
  refine Hsame.out.mono ?_
  rintro e w6 ⟨rfl, hb6⟩
  have P2 := Lib.hid (P2.out.below hb6); have P4 := Lib.hid (P4.out.below hb6)
  have Hb := Lib.hid (upp Hb.out hb6)
  clear hb6 x0 x1 x2 x3 y0 y1 y2 y3 z0 z1 z2 z3 t0 t1 t2 t3 Hsame
  obtain ⟨y0, y1, y2, y3⟩ := P2.out.facts
  obtain ⟨t0, t1, t2, t3⟩ := P4.out.facts
  have hsame := same_any L2 L2 (N2 : Int) (N2 : Int) (.slice ad2 L2.length cp2) (.slice ad4 L2.length cp4) w6 P2.out.he P4.out.he
  rw [decide_eq_true (⟨rfl, rfl⟩ : (N2 : Int) = N2 ∧ L2 = L2)] at hsame
  have Hsame := Lib.hid hsame
  clear hsame
  go_wp2_with fail
  refine Hsame.out.mono ?_
  rintro e w7 ⟨rfl, hb7⟩
  have Hb := Lib.hid (upp Hb.out hb7)
  clear hb7 y0 y1 y2 y3 t0 t1 t2 t3 Hsame
  go_wp2
  go_ret
  exact ⟨rfl, Hb.out⟩

end Go.Proofs.YtokjcapheogkoaaDoor
