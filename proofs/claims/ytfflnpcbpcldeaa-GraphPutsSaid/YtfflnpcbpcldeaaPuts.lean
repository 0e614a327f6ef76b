/- arborlaw.GraphPuts answers true. -/
import Derived.Test.YtfflnpcbpcldeaaPutsMem
import Derived.Test.YtfflnpcbpcldeaaJoin
import Derived.Test.YtfflnpcbpcldeaaProduct
namespace Go.Proofs.Ytfflnpcbpcldeaa
open Go.RowKit

theorem eg_puts1 : ∀ args w, (callFunc 20 args).run Try.prog w = .ok (.enter 20 args) w := enters_of Try.func20 (by kernel_rfl) rfl
theorem eg_puts2 : ∀ args w, (callFunc 22 args).run Try.prog w = .ok (.enter 22 args) w := enters_of Try.func22 (by kernel_rfl) rfl
theorem upbw {a b c : World} (h : Below a.heap.size a b) (k : Below b.heap.size b c) : Below a.heap.size a c := h.trans (k.mono h.size)

theorem join_good {N M : Nat} {l k : List (Int × Int)} (hs : GoodGraph N l) (hs' : GoodGraph M k) {N' : Int} {L' : List (Int × Int)} {c' a' : Int} (hj : JoinSpec N M l k 0 0 N' L' c' a') (s t : Value) (w : World) (h : IsEdges w s l) (h' : IsEdges w t k) :
    Calls Try.prog 13 #[.agg #[.int .i64 (N : Int), s], .agg #[.int .i64 (M : Int), t]] w (TwoPost N' L' c' a' w) := by
  by_cases hfew : N + M ≤ 100
  · obtain ⟨hr, rfl⟩ := hj.ok rfl (by omega)
    simp only [Int.toNat_natCast] at hr
    exact join_ok hs hs' hfew hr s t w h h'
  · obtain ⟨rfl, rfl, rfl, rfl⟩ := hj.many rfl (by omega)
    exact join_many hs hs' (by omega) s t w h h'
theorem mul_few {N M : Nat} (h : N * M ≤ 100) : (N : Int) * (M : Int) ≤ 100 := by
  have : ((N * M : Nat) : Int) ≤ 100 := by omega
  rwa [Int.natCast_mul] at this
theorem mul_many {N M : Nat} (h : ¬ N * M ≤ 100) : 100 < (N : Int) * (M : Int) := by
  have : 100 < ((N * M : Nat) : Int) := by omega
  rwa [Int.natCast_mul] at this
theorem product_good {N M : Nat} {l k : List (Int × Int)} (hs : GoodGraph N l) (hs' : GoodGraph M k) {N' : Int} {L' : List (Int × Int)} {c' a' : Int} (hj : ProductSpec N M l k 0 0 N' L' c' a') (s t : Value) (w : World) (h : IsEdges w s l) (h' : IsEdges w t k) :
    Calls Try.prog 14 #[.agg #[.int .i64 (N : Int), s], .agg #[.int .i64 (M : Int), t]] w (TwoPost N' L' c' a' w) := by
  by_cases hfew : N * M ≤ 100
  · obtain ⟨hr, rfl⟩ := hj.ok rfl (mul_few hfew)
    simp only [Int.toNat_natCast] at hr
    exact product_ok hs hs' hfew hr s t w h h'
  · obtain ⟨rfl, rfl, rfl, rfl⟩ := hj.many rfl (mul_many hfew)
    exact product_many hs hs' (mul_many hfew) s t w h h'

theorem BothSpec.split {n : Int} {l : List (Int × Int)} {m : Int} {k : List (Int × Int)} {c a c0 a0 : Int} (h : BothSpec n l m k c a) (h0 : GraphSpec n l c0 a0) : (c0 = 0 → GraphSpec m k c a) ∧ (c0 ≠ 0 → c = c0 ∧ a = a0) := by
  rcases h with ⟨h1, h2⟩ | ⟨h1, h2⟩
  · obtain ⟨rfl, rfl⟩ := h1.uniq h0
    exact ⟨fun e => absurd e h2, fun _ => ⟨rfl, rfl⟩⟩
  · obtain ⟨rfl, rfl⟩ := h1.spec.uniq h0
    exact ⟨fun _ => h2, fun e => absurd rfl e⟩

/-- A fault lies in a variable. -/
def FCut (wb : World) (F : Nat) (c a : Int) (wx : World) : Prop := VarF wx F c a ∧ Below wb.heap.size wb wx

set_option maxHeartbeats 6400000 in
set_option maxRecDepth 100000 in
theorem puts_any (n m : Int) (l k : List (Int × Int)) (hl : l.length * 16 ≤ 140737488351232) (hl' : k.length * 16 ≤ 140737488351232)
    (s t : Value) (w : World) (h : IsEdges w s l) (h' : IsEdges w t k) :
    Calls Try.prog 3 #[.agg #[.int .i64 n, s], .agg #[.int .i64 m, t]] w fun e w' => e = .returned (.bool true) ∧ Below w.heap.size w w' := by
  obtain ⟨ad, cap, rfl⟩ := h.form
  obtain ⟨ad', cap', rfl⟩ := h'.form
  obtain ⟨c, a, hs⟩ := BothSpec.ex n l m k
  obtain ⟨cf, af, h0⟩ := GraphSpec.ex n l
  have St := Lib.hid (TwoSt.start (n := n) (m := m) h h')
  have Hsp := Lib.hid (hs.split h0)
  have Hs := Lib.hid hs
  have H0 := Lib.hid h0
  clear hs h0 h h'
  go_enter Try.func3, Try.ntmps3
  go_upto_region 1 with fail
  generalize (w.alloc (Obj.cells #[.int .i64 n, .slice ad l.length cap] 24)).alloc (Obj.cells #[.int .i64 m, .slice ad' k.length cap'] 24) = w1 at *
  have q0 : Own4 w.heap.size n (.slice ad l.length cap) m (.slice ad' k.length cap') w1.drew := St.out.own4
  have hd : Below w1.heap.size w1 w1.drew := (Below.refl _ _).drew
  have hl3 := St.out.lt
  go_cut [5, 6] from 16 to 19 (fun s5 s6 wx => OwnCut w1 n l m k s5 s6 wx)
  case first =>
    go_region_held3 (fun w' => w'.cell? ⟨w.heap.size, 0, none⟩ = some (.int .i64 n) ∧ w'.cell? ⟨w.heap.size, 1, none⟩ = some (.slice ad l.length cap) ∧ w'.cell? ⟨w.heap.size + 1, 0, none⟩ = some (.int .i64 m) ∧ w'.cell? ⟨w.heap.size + 1, 1, none⟩ = some (.slice ad' k.length cap'))
      (first | with_reducible exact q2 | with_reducible exact q2.below (below1 _ _) | with_reducible exact q2.below (below2 _ _ _) | with_reducible exact q1 | with_reducible exact q1.below (below1 _ _) | with_reducible exact q1.below (below2 _ _ _) | ((with_reducible refine Own4.set2 q2 ?_ _ _) <;> omega) | ((with_reducible refine Own4.below (Own4.set2 q2 ?_ _ _) (below1 _ _)) <;> omega) | ((with_reducible refine Own4.set2 (Own4.set2 q2 ?_ _ _) ?_ _ _) <;> omega) | ((with_reducible refine Own4.below (Own4.set2 (Own4.set2 q2 ?_ _ _) ?_ _ _) (below1 _ _)) <;> omega) | exact q0 | exact q0.below (below1 _ _) | exact q0.below (below2 _ _ _))
      (first
        | (go_at_call_of 11 (Value.agg #[.int .i64 n, .slice ad l.length cap]); (refine (own_any l n (.slice ad l.length cap) _ (St.out.he.below (by first | exact hd | exact upb hd (below1 _ _) | exact upb hd (below2 _ _ _))) hl).mono ?_; rintro e wp ⟨v1, rfl, hg1, hb1⟩; obtain ⟨a1, c1, rfl⟩ := hg1.form; have h01 : Below w1.heap.size w1 wp := (by first | exact upb hd hb1 | exact upb (upb hd (below1 _ _)) hb1 | exact upb (upb hd (below2 _ _ _)) hb1); have q1 := Own4.below St.out.own4 h01; obtain ⟨rc1, rf1⟩ := bcell hb1; have hs1 := h01.size; have G1 := Lib.hid hg1.inside; have hz1 := hb1.size; (try simp only [World.size_alloc, Nat.add_one_le_iff, World.size_drew] at hz1); (try (have hz1b := Nat.lt_of_succ_lt hz1)); (try (have nz1 := Nat.ne_of_lt hz1)); (try (have nz1' := Nat.ne_of_gt hz1))))
        | (go_at_call_of 11 (Value.agg #[.int .i64 m, .slice ad' k.length cap']); refine (own_any k m (.slice ad' k.length cap') _ (St.out.hf.below (by first | exact h01 | exact upb h01 (below1 _ _) | exact upb h01 (below2 _ _ _))) hl').mono ?_; rintro e wq ⟨v2, rfl, hg2, hb2⟩; obtain ⟨a2, c2, rfl⟩ := hg2.form; have h12 : Below wp.heap.size wp wq := (by first | exact hb2 | exact upb (below1 _ _) hb2 | exact upb (below2 _ _ _) hb2); have q2 := Own4.below q1 h12; obtain ⟨rc2, rf2⟩ := bcell hb2; have hs2 := h12.size; have G2 := Lib.hid hg2.inside; have hz2 := hb2.size; (try simp only [World.size_alloc, Nat.add_one_le_iff, World.size_drew] at hz2); (try (have hz2b := Nat.lt_of_succ_lt hz2)); (try (have hz3 := Nat.lt_of_lt_of_le hz1 hs2)); (try (have hz3b := Nat.lt_of_lt_of_le hz1b hs2))))
    all_goals
      go_wp2_with fail
      go_meet
      have hq := upb h01 h12
      have g1 := G1.out.below h12
      have g2 := G2.out
      refine ⟨_, _, a1, c1, a2, c2, rfl, rfl, ⟨?_, ?_, ?_⟩, ⟨?_, ?_, ?_⟩, ?_⟩
      · first | (go_simp; done) | ((refine (four_cells ?_ ?_ ?_ ?_ ?_).1) <;> (first | omega | (simp only [World.size_alloc, World.size_drew]; omega) | (go_simp; done)))
      · first | (go_simp; done) | ((refine (four_cells ?_ ?_ ?_ ?_ ?_).2.1) <;> (first | omega | (simp only [World.size_alloc, World.size_drew]; omega) | (go_simp; done)))
      · first | ((with_reducible refine EdgesIn.edges (EdgesIn.set2 (EdgesIn.set2 g1 ?_ _ _) ?_ _ _)) <;> (first | omega | (simp only [World.size_alloc, World.size_drew]; omega))) | ((with_reducible refine EdgesIn.edges (EdgesIn.below (EdgesIn.set2 g1 ?_ _ _) (below1 _ _))) <;> (first | omega | (simp only [World.size_alloc, World.size_drew]; omega))) | (with_reducible exact EdgesIn.edges (EdgesIn.below g1 (below2 _ _ _)))
      · first | (go_simp; done) | ((refine (four_cells ?_ ?_ ?_ ?_ ?_).2.2.1) <;> (first | omega | (simp only [World.size_alloc, World.size_drew]; omega) | (go_simp; done)))
      · first | (go_simp; done) | ((refine (four_cells ?_ ?_ ?_ ?_ ?_).2.2.2) <;> (first | omega | (simp only [World.size_alloc, World.size_drew]; omega) | (go_simp; done)))
      · first | ((with_reducible refine EdgesIn.edges (EdgesIn.set2 (EdgesIn.set2 g2 ?_ _ _) ?_ _ _)) <;> (first | omega | (simp only [World.size_alloc, World.size_drew]; omega))) | ((with_reducible refine EdgesIn.edges (EdgesIn.below (EdgesIn.set2 g2 ?_ _ _) (below1 _ _))) <;> (first | omega | (simp only [World.size_alloc, World.size_drew]; omega))) | (with_reducible exact EdgesIn.edges (EdgesIn.below g2 (below2 _ _ _)))
      · first | ((with_reducible refine below_set2 (below_set2 hq ?_ _ _) ?_ _ _) <;> (first | omega | (simp only [World.size_alloc, World.size_drew]; omega))) | (with_reducible exact upb hq (below2 _ _ _)) | ((with_reducible refine upb (below_set2 hq ?_ _ _) (below1 _ _)) <;> (first | omega | (simp only [World.size_alloc, World.size_drew]; omega)))
  case rest =>
  by_cases hc : c = 0
  · subst hc
    obtain ⟨g1, g2, _⟩ := Hs.out.good
    obtain ⟨N, rfl⟩ := Int.eq_ofNat_of_zero_le g1.lo
    obtain ⟨M, rfl⟩ := Int.eq_ofNat_of_zero_le g2.lo
    obtain ⟨N1, L1, c1, d1, hj⟩ := JoinSpec.ex N M l k 0 0
    obtain ⟨N2, L2, c2, d2, hp⟩ := ProductSpec.ex N M l k 0 0
    have b2 : N ≤ 100 := by have := g1.hi; omega
    have b4 : M ≤ 100 := by have := g2.hi; omega
    clear Hs H0 Hsp
    have Hs := Lib.hid g1
    have Hs' := Lib.hid g2
    have Hj := Lib.hid hj
    have Hp := Lib.hid hp
    clear g1 g2 hj hp
    obtain ⟨X, Y, ap, cp, aq, cq, rfl, rfl, hX, hY, hbc⟩ := hcut
    have E2 := Lib.hid (PEnv.mk (St.out.below hbc) hX hY)
    clear hX hY q0 hd hbc hl3
    obtain ⟨u0, u1, u2, u3, u4, u5, u6, u7, u8, u9, u10, u11⟩ := E2.out.facts
    go_wp2_with fail
    refine (rcheck_is Hs.out.spec _ _ E2.out.ts.he).mono ?_
    rintro e w2 ⟨rfl, hb2⟩
    clear u0 u1 u2 u3 u4 u5 u6 u7 u8 u9 u10 u11
    have E3 := Lib.hid (E2.out.below hb2)
    obtain ⟨u0, u1, u2, u3, u4, u5, u6, u7, u8, u9, u10, u11⟩ := E3.out.facts
    clear hb2
    go_wp2_with fail
    refine (rcheck_is Hs'.out.spec _ _ (E3.out.ts.hf.below (below1 _ _))).mono ?_
    rintro e w3 ⟨rfl, hb3⟩
    have R3 := VarF.pair hb3
    obtain ⟨hF, hF', gF, gF', lF⟩ := row_facts R3
    have b4 : Below w2.heap.size w2 ((w3.setCell ⟨w2.heap.size, 0, none⟩ (.int .i64 0)).setCell ⟨w2.heap.size, 1, none⟩ (.int .i64 0)) := ((upb (below1 w2 _) hb3).setCell (Nat.le_refl _) _).setCell (Nat.le_refl _) _
    have F4 : VarF ((w3.setCell ⟨w2.heap.size, 0, none⟩ (.int .i64 0)).setCell ⟨w2.heap.size, 1, none⟩ (.int .i64 0)) w2.heap.size 0 0 := ⟨((R3.set 0 (.int .i64 0)).set 1 (.int .i64 0)).cell (show 0 < 2 by omega), ((R3.set 0 (.int .i64 0)).set 1 (.int .i64 0)).cell (show 1 < 2 by omega)⟩
    clear u0 u1 u2 u3 u4 u5 u6 u7 u8 u9 u10 u11 hb3
    have B4 := Lib.hid b4
    have F4' := Lib.hid F4
    clear b4 F4 R3
    go_upto_region 5 with fail
    clear hF hF' gF gF' lF
    generalize (w3.setCell ⟨w2.heap.size, 0, none⟩ (.int .i64 0)).setCell ⟨w2.heap.size, 1, none⟩ (.int .i64 0) = w4 at *
    have E4 := Lib.hid (E3.out.below B4.out)
    obtain ⟨u0, u1, u2, u3, u4, u5, u6, u7, u8, u9, u10, u11⟩ := E4.out.facts
    go_wp2_with fail
    refine (join_good Hs.out Hs'.out Hj.out _ _ _ E4.out.hx.he E4.out.hy.he).mono ?_
    rintro e w5 ⟨v5, ho5, hb5, rfl⟩
    obtain ⟨a5, c5, rfl⟩ := ho5.form
    have b6 := below2 w5 (Obj.cells #[.int .i64 N1, .slice a5 L1.length c5] 24) (Obj.cells #[.int .i64 c1, .int .i64 d1] 27)
    have X6 := Lib.hid ((VarG.new (n := N1) 24 ho5.edges).below (below1 _ (Obj.cells #[.int .i64 c1, .int .i64 d1] 27)))
    have f6 := VarF.new (w5.alloc (Obj.cells #[.int .i64 N1, .slice a5 L1.length c5] 24)) c1 d1 27
    rw [World.size_alloc] at f6
    have F6 := Lib.hid f6
    have E6 := Lib.hid (E4.out.below (upb hb5 b6))
    have V6 := Lib.hid (F4'.out.below (upb hb5 b6))
    clear u0 u1 u2 u3 u4 u5 u6 u7 u8 u9 u10 u11 f6 b6 hb5 ho5
    go_upto_region 6 with fail
    generalize (w5.alloc (Obj.cells #[.int .i64 N1, .slice a5 L1.length c5] 24)).alloc (Obj.cells #[.int .i64 c1, .int .i64 d1] 27) = w6 at *
    obtain ⟨u0, u1, u2, u3, u4, u5, u6, u7, u8, u9, u10, u11⟩ := E6.out.facts
    go_wp2_with fail
    refine (product_good Hs.out Hs'.out Hp.out _ _ _ E6.out.hx.he E6.out.hy.he).mono ?_
    rintro e w7 ⟨v7, ho7, hb7, rfl⟩
    obtain ⟨a7, c7, rfl⟩ := ho7.form
    have b8 := below2 w7 (Obj.cells #[.int .i64 N2, .slice a7 L2.length c7] 24) (Obj.cells #[.int .i64 c2, .int .i64 d2] 27)
    have Y8 := Lib.hid ((VarG.new (n := N2) 24 ho7.edges).below (below1 _ (Obj.cells #[.int .i64 c2, .int .i64 d2] 27)))
    have f8 := VarF.new (w7.alloc (Obj.cells #[.int .i64 N2, .slice a7 L2.length c7] 24)) c2 d2 27
    rw [World.size_alloc] at f8
    have G8 := Lib.hid f8
    have E8 := Lib.hid (E6.out.below (upb hb7 b8))
    have V8 := Lib.hid (V6.out.below (upb hb7 b8))
    have X8 := Lib.hid (X6.out.below (upb hb7 b8))
    have F8 := Lib.hid (F6.out.below (upb hb7 b8))
    clear u0 u1 u2 u3 u4 u5 u6 u7 u8 u9 u10 u11 f8 b8 hb7 ho7
    go_upto_region 7 with fail
    generalize (w7.alloc (Obj.cells #[.int .i64 N2, .slice a7 L2.length c7] 24)).alloc (Obj.cells #[.int .i64 c2, .int .i64 d2] 27) = w8 at *
    generalize w7.heap.size = PY at *
    generalize w5.heap.size = PX at *
    generalize w2.heap.size = PF at *
    go_wp2_with fail
    refine (begun_any _).mono ?_
    rintro e w9 ⟨rfl, hb9⟩
    have E9 := Lib.hid (E8.out.below hb9)
    have B9 := Lib.hid hb9
    clear hb9
    obtain ⟨u0, u1, u2, u3, u4, u5, u6, u7, u8, u9, u10, u11⟩ := E9.out.facts
    go_wp2_with fail
    refine (kept_is (decide_eq_true ⟨rfl, rfl⟩) _ _ _ E9.out.hx.he E9.out.ts.he).mono ?_
    rintro e w10 ⟨rfl, hb10⟩
    clear u0 u1 u2 u3 u4 u5 u6 u7 u8 u9 u10 u11
    have E10 := Lib.hid (E9.out.below hb10)
    have B10 := Lib.hid (upb B9.out hb10)
    clear hb10
    obtain ⟨u0, u1, u2, u3, u4, u5, u6, u7, u8, u9, u10, u11⟩ := E10.out.facts
    go_wp2_with fail
    refine (kept_is (decide_eq_true ⟨rfl, rfl⟩) _ _ _ E10.out.hy.he E10.out.ts.hf).mono ?_
    rintro e w11 ⟨rfl, hb11⟩
    clear u0 u1 u2 u3 u4 u5 u6 u7 u8 u9 u10 u11
    have b11 := upb B10.out hb11
    have E11 := Lib.hid (E8.out.below b11)
    have V11 := Lib.hid (V8.out.below b11)
    have X11 := Lib.hid (X8.out.below b11)
    have F11 := Lib.hid (F8.out.below b11)
    have Y11 := Lib.hid (Y8.out.below b11)
    have G11 := Lib.hid (G8.out.below b11)
    clear b11 hb11
    have hF := V11.out.c0
    go_upto_region 11 with fail
    have hok : ∀ j, j < l.length → EndsOk (N : Int) (l.getD j (0, 0)) ∧ (l.getD j (0, 0)).1 ≠ (l.getD j (0, 0)).2 := fun j hj => ⟨(Hs.out.fine j hj).1, (Hs.out.fine j hj).2.1⟩
    have hok' : ∀ j, j < k.length → EndsOk (M : Int) (k.getD j (0, 0)) ∧ (k.getD j (0, 0)).1 ≠ (k.getD j (0, 0)).2 := fun j hj => ⟨(Hs'.out.fine j hj).1, (Hs'.out.fine j hj).2.1⟩
    have Hok := Lib.hid hok
    have Hok' := Lib.hid hok'
    clear hok hok' hF
    have q0 : Own4 w.heap.size (N : Int) (.slice ad l.length cap) (M : Int) (.slice ad' k.length cap') w11.drew := E11.out.ts.own4
    have hd : Below w11.heap.size w11 w11.drew := (Below.refl _ _).drew
    have hl3 := E11.out.ts.lt
    go_cut [12, 13] from 82 to 85 (fun s12 s13 wx => TabCut w11 N M (adj l) (adj k) s12 s13 wx)
    case first =>
      go_region_held3 (fun w' => w'.cell? ⟨w.heap.size, 0, none⟩ = some (.int .i64 (N : Int)) ∧ w'.cell? ⟨w.heap.size, 1, none⟩ = some (.slice ad l.length cap) ∧ w'.cell? ⟨w.heap.size + 1, 0, none⟩ = some (.int .i64 (M : Int)) ∧ w'.cell? ⟨w.heap.size + 1, 1, none⟩ = some (.slice ad' k.length cap'))
        (first | exact q0 | exact q0.below (below1 _ _) | exact q0.below (below2 _ _ _) | exact q1 | exact q1.below (below1 _ _) | exact q1.below (below2 _ _ _) | exact q2 | exact q2.below (below1 _ _) | exact q2.below (below2 _ _ _) | exact q2.set (by omega) _ | exact (q2.set (by omega) _).below (below1 _ _) | exact (q2.set (by omega) _).set (by omega) _ | exact ((q2.set (by omega) _).set (by omega) _).below (below1 _ _))
        (first
          | (go_at_call_of 17 (Value.slice ad l.length cap); (refine (gridOf_any l N (.slice ad l.length cap) _ (E11.out.ts.he.below (by first | exact hd | exact upb hd (below1 _ _) | exact upb hd (below2 _ _ _))) b2 Hok.out).mono ?_; rintro e wp ⟨v1, rfl, hg1, hb1⟩; obtain ⟨a1, c1, rfl⟩ := HasGrid.form ⟨_, hg1⟩; have h01 : Below w11.heap.size w11 wp := (by first | exact upb hd hb1 | exact upb (upb hd (below1 _ _)) hb1 | exact upb (upb hd (below2 _ _ _)) hb1); have q1 := Own4.below E11.out.ts.own4 h01; obtain ⟨rc1, rf1⟩ := bcell hb1; have hs1 := h01.size; have G1 := Lib.hid hg1.inside; have hz1 := hb1.size; (try simp only [World.size_alloc, Nat.add_one_le_iff, World.size_drew] at hz1); (try (have hz1b := Nat.lt_of_succ_lt hz1))))
          | (go_at_call_of 17 (Value.slice ad' k.length cap'); refine (gridOf_any k M (.slice ad' k.length cap') _ (E11.out.ts.hf.below (by first | exact h01 | exact upb h01 (below1 _ _) | exact upb h01 (below2 _ _ _))) b4 Hok'.out).mono ?_; rintro e wq ⟨v2, rfl, hg2, hb2⟩; obtain ⟨a2, c2, rfl⟩ := HasGrid.form ⟨_, hg2⟩; have h12 : Below wp.heap.size wp wq := (by first | exact hb2 | exact upb (below1 _ _) hb2 | exact upb (below2 _ _ _) hb2); have q2 := Own4.below q1 h12; obtain ⟨rc2, rf2⟩ := bcell hb2; have hs2 := h12.size; have G2 := Lib.hid hg2.inside; have hz2 := hb2.size; (try simp only [World.size_alloc, Nat.add_one_le_iff, World.size_drew] at hz2); (try (have hz2b := Nat.lt_of_succ_lt hz2)); (try (have hz3 := Nat.lt_of_lt_of_le hz1 hs2)); (try (have hz3b := Nat.lt_of_lt_of_le hz1b hs2))))
      all_goals
        go_wp2_with fail
        go_meet
        have hq := upb h01 h12
        have g1 := G1.out.below h12
        have g2 := G2.out
        refine ⟨_, _, a1, c1, a2, c2, rfl, rfl, ?_, ?_, ?_, ?_, ?_⟩
        · first | (go_simp; done) | exact (World.cell?_setCell_far _ _ _ _ (by dsimp only; first | omega | (simp only [World.size_alloc, World.size_drew]; omega))).trans (World.cell?_setCell_same' _ _ _ (by go_simp))
        · first | exact ((g1.set (by first | omega | (simp only [World.size_alloc, World.size_drew]; omega)) 0 _).set (by first | omega | (simp only [World.size_alloc, World.size_drew]; omega)) 0 _).has | exact ((g1.set (by first | omega | (simp only [World.size_alloc, World.size_drew]; omega)) 0 _).below (below1 _ _)).has | exact (g1.below (below2 _ _ _)).has
        · first | (go_simp; done) | exact World.cell?_setCell_same' _ _ _ (by first | (go_simp; done) | (rw [World.cell?_setCell_far _ _ _ _ (by dsimp only; first | omega | (simp only [World.size_alloc, World.size_drew]; omega))]; go_simp))
        · first | exact ((g2.set (by first | omega | (simp only [World.size_alloc, World.size_drew]; omega)) 0 _).set (by first | omega | (simp only [World.size_alloc, World.size_drew]; omega)) 0 _).has | exact ((g2.set (by first | omega | (simp only [World.size_alloc, World.size_drew]; omega)) 0 _).below (below1 _ _)).has | exact (g2.below (below2 _ _ _)).has
        · first | exact (hq.setCell (by first | omega | (simp only [World.size_alloc, World.size_drew]; omega)) _).setCell (by first | omega | (simp only [World.size_alloc, World.size_drew]; omega)) _ | exact upb hq (below2 _ _ _) | exact upb (hq.setCell (by first | omega | (simp only [World.size_alloc, World.size_drew]; omega)) _) (below1 _ _)
    case rest =>
    obtain ⟨wT, rfl⟩ : ∃ wT : World, wT = wc := ⟨_, rfl⟩
    obtain ⟨TX, TY, ax, cx, ay, cy, rfl, rfl, hX, hG, hY, hH, hbc⟩ := hcut
    have E12 := Lib.hid (E11.out.below hbc)
    have X12 := Lib.hid (X11.out.below hbc)
    have F12 := Lib.hid (F11.out.below hbc)
    have Y12 := Lib.hid (Y11.out.below hbc)
    have G12 := Lib.hid (G11.out.below hbc)
    have SX := Lib.hid hX
    have SG := Lib.hid hG
    have SY := Lib.hid hY
    have SH := Lib.hid hH
    have hwc := hbc.size
    clear hX hG hY hH hbc q0 hd hl3 E2 E3 E4 E6 E8 E9 E10 E11 V6 V8 V11 X6 X8 X11 F6 F8 F11 Y8 Y11 G8 G11 B4 F4' B9 B10 Hok Hok'
    go_upto_region 13 with (go_at_call 18; refine (F_any _ _ _).mono ?_; rintro e wf ⟨rfl, rfl⟩)
    have bz := (below2 wT (Obj.cells #[.int .i64 2, .int .i64 0] 27) (Obj.cells #[.int .i64 0, .slice none 0 0] 24)).alloc (by simp; omega) (Obj.cells #[.int .i64 2, .int .i64 0] 27)
    have rz := two_row (wT.alloc (Obj.cells #[.int .i64 2, .int .i64 0] 27)) (.int .i64 0) (.slice none 0 0) 24
    have ru := two_row ((wT.alloc (Obj.cells #[.int .i64 2, .int .i64 0] 27)).alloc (Obj.cells #[.int .i64 0, .slice none 0 0] 24)) (.int .i64 2) (.int .i64 0) 27
    have rz := rz.alloc (Obj.cells #[.int .i64 2, .int .i64 0] 27)
    rw [World.size_alloc] at rz
    rw [World.size_alloc, World.size_alloc] at ru
    generalize ((wT.alloc (Obj.cells #[.int .i64 2, .int .i64 0] 27)).alloc (Obj.cells #[.int .i64 0, .slice none 0 0] 24)).alloc (Obj.cells #[.int .i64 2, .int .i64 0] 27) = w13 at *
    have E13 := Lib.hid (E12.out.below bz)
    have BZ := Lib.hid bz
    have RZ := Lib.hid rz
    have RU := Lib.hid ru
    have cn := E13.out.ts.cn
    have dm := E13.out.ts.dm
    have lz := bz.size
    clear bz rz ru
    go_upto_if 93 with fail
    go_cut [] from 93 to 103 (fun wx => ZCut wT (wT.heap.size + 1) (wT.heap.size + 1 + 1) N1 L1 c1 d1 wx)
    case first =>
      by_cases hfew : N + M ≤ 100
      · obtain ⟨hr, hd1⟩ := Hj.out.ok rfl (by omega)
        simp only [Int.toNat_natCast] at hr
        have Hr := Lib.hid hr
        have Hd1 := Lib.hid hd1
        clear hr hd1
        go_wp2_with (go_at_call 19; refine (small_is Hr.out 20 #[.pointer (some ⟨w.heap.size, 0, none⟩), .pointer (some ⟨TX, 0, none⟩), .pointer (some ⟨TY, 0, none⟩)] w13 eg_puts1 (by omega) (fun W i j hij hj hbW => puts1_any W (below_cell hbW E13.out.ts.cn) (below_cell (upbw BZ.out hbW) SX.out) (below_cell (upbw BZ.out hbW) SY.out) (SG.out.below (upbw BZ.out hbW)) (SH.out.below (upbw BZ.out hbW)) hij hj (by omega))).mono ?_; rintro e w14 ⟨v14, ho14, hb14, rfl⟩; obtain ⟨a14, c14, rfl⟩ := ho14.form; have Rz := Lib.hid (RZ.out.of_block (hb14.block _ RZ.out.lt)); have Ru := Lib.hid (RU.out.of_block (hb14.block _ RU.out.lt)); obtain ⟨z0, z1, f0, f1, l0⟩ := row_facts Rz.out; obtain ⟨y0, y1, g0, g1, l1⟩ := row_facts Ru.out; have Ho := Lib.hid ho14; have Hb := Lib.hid (upbw BZ.out hb14); clear ho14 hb14)
        go_meet
        rw [Hd1.out]
        exact ZCut.put Rz.out Ru.out (by omega) Ho.out RZ.out.lt RU.out.lt Hb.out (by omega) (by omega)
      · have Hm := Lib.hid (Hj.out.many rfl (by omega))
        go_wp2
        go_meet
        obtain ⟨e1, e2, e3, e4⟩ := Hm.out
        rw [e1, e2, e3, e4]
        exact ⟨none, 0, RZ.out, IsEdges.nil _, RU.out, BZ.out⟩
    case rest =>
    obtain ⟨wz, rfl⟩ : ∃ wz : World, wz = wc := ⟨_, rfl⟩
    obtain ⟨az, cz, hz, hze, hu, hbz⟩ := hcut
    have E14 := Lib.hid (E12.out.below hbz)
    have X14 := Lib.hid (X12.out.below hbz)
    have F14 := Lib.hid (F12.out.below hbz)
    obtain ⟨z0, z1, f0, f1, l0⟩ := row_facts hz
    obtain ⟨y0, y1, g0, g1, l1⟩ := row_facts hu
    have x0 := X14.out.c0
    have x1 := X14.out.c1
    have w0 := F14.out.c0
    have w1' := F14.out.c1
    have Hz := Lib.hid hz
    have Hze := Lib.hid hze
    have Hu := Lib.hid hu
    have Hbz := Lib.hid hbz
    clear hz hze hu hbz cn dm
    go_wp2_with fail
    refine (same_any L1 L1 N1 N1 _ _ _ X14.out.he Hze.out).mono ?_
    rintro e w15 ⟨rfl, hb15⟩
    rw [decide_eq_true (show N1 = N1 ∧ L1 = L1 from ⟨rfl, rfl⟩)]
    clear z0 z1 f0 f1 l0 y0 y1 g0 g1 l1 x0 x1 w0 w1'
    have Rz := Hz.out.of_block (hb15.block _ Hz.out.lt)
    have Ru := Hu.out.of_block (hb15.block _ Hu.out.lt)
    obtain ⟨z0, z1, f0, f1, l0⟩ := row_facts Rz
    obtain ⟨y0, y1, g0, g1, l1⟩ := row_facts Ru
    have hb15' := upb Hbz.out hb15
    have R0 := (((Rz.set 0 (.int .i64 0)).set 1 (.slice none 0 0)).setOther (a := ⟨wT.heap.size + 1 + 1, 0, none⟩) (show wT.heap.size + 1 ≠ wT.heap.size + 1 + 1 by omega) (.int .i64 2)).setOther (a := ⟨wT.heap.size + 1 + 1, 1, none⟩) (show wT.heap.size + 1 ≠ wT.heap.size + 1 + 1 by omega) (.int .i64 0)
    have R1 := ((((Ru.setOther (a := ⟨wT.heap.size + 1, 0, none⟩) (show wT.heap.size + 1 + 1 ≠ wT.heap.size + 1 by omega) (.int .i64 0)).setOther (a := ⟨wT.heap.size + 1, 1, none⟩) (show wT.heap.size + 1 + 1 ≠ wT.heap.size + 1 by omega) (.slice none 0 0)).set 0 (.int .i64 2)).set 1 (.int .i64 0))
    have hfour := four_below hb15' (show wT.heap.size ≤ wT.heap.size + 1 by omega) (show wT.heap.size ≤ wT.heap.size + 1 + 1 by omega) (.int .i64 0) (.slice none 0 0) (.int .i64 2) (.int .i64 0)
    have hfour := hfour.alloc hfour.size (Obj.cells #[.int .i64 2, .int .i64 0] 27)
    have R0 := Lib.hid (R0.alloc (Obj.cells #[.int .i64 2, .int .i64 0] 27))
    have R1 := Lib.hid (R1.alloc (Obj.cells #[.int .i64 2, .int .i64 0] 27))
    have HF := Lib.hid hfour
    clear hfour Rz Ru hb15' hb15
    go_upto_region 18 with (go_at_call 18; refine (F_any _ _ _).mono ?_; rintro e wf ⟨rfl, rfl⟩)
    clear z0 z1 f0 f1 l0 y0 y1 g0 g1 l1
    generalize ((((w15.setCell ⟨wT.heap.size + 1, 0, none⟩ (.int .i64 0)).setCell ⟨wT.heap.size + 1, 1, none⟩ (.slice none 0 0)).setCell ⟨wT.heap.size + 1 + 1, 0, none⟩ (.int .i64 2)).setCell ⟨wT.heap.size + 1 + 1, 1, none⟩ (.int .i64 0)).alloc (Obj.cells #[.int .i64 2, .int .i64 0] 27) = w16 at *
    have RZ2 : w16.rowIs (wT.heap.size + 1) 24 2 (fun i => if i = 0 then .int .i64 0 else .slice none 0 0) := R0.out.congr fun i hi => by
      match i, hi with
      | 0, _ => rfl
      | 1, _ => rfl
    have RU2 : w16.rowIs (wT.heap.size + 1 + 1) 27 2 (fun i => if i = 0 then .int .i64 2 else .int .i64 0) := R1.out.congr fun i hi => by
      match i, hi with
      | 0, _ => rfl
      | 1, _ => rfl
    have RZ2 := Lib.hid RZ2
    have RU2 := Lib.hid RU2
    have E16 := Lib.hid (E12.out.below HF.out)
    have cn := E16.out.ts.cn
    have dm := E16.out.ts.dm
    have p1 : (0 : Int) ≤ (N : Int) * (M : Int) := Int.mul_nonneg (by omega) (by omega)
    have p2 : (N : Int) * (M : Int) ≤ 10000 := by
      have h1 : N * M ≤ 100 * 100 := Nat.mul_le_mul b2 b4
      have h2 : ((N * M : Nat) : Int) ≤ 10000 := by omega
      rwa [Int.natCast_mul] at h2
    clear R0 R1 E14 X14 F14 Hz Hze Hu Hbz RZ RU E13 BZ
    go_upto_if 120 with fail
    go_cut [] from 120 to 130 (fun wx => ZCut wT (wT.heap.size + 1) (wT.heap.size + 1 + 1) N2 L2 c2 d2 wx)
    case first =>
      by_cases hfew : N * M ≤ 100
      · have hfewI := mul_few hfew
        obtain ⟨hr, hd1⟩ := Hp.out.ok rfl hfewI
        simp only [Int.toNat_natCast] at hr
        have Hr := Lib.hid hr
        have Hd1 := Lib.hid hd1
        clear hr hd1
        go_wp2_with (go_at_call 19; refine (small_is Hr.out 22 #[.pointer (some ⟨w.heap.size + 1, 0, none⟩), .pointer (some ⟨TY, 0, none⟩), .pointer (some ⟨TX, 0, none⟩)] w16 eg_puts2 (by omega) (fun W i j hij hj hbW => puts2_any W (below_cell hbW E16.out.ts.dm) (below_cell (upbw HF.out hbW) SX.out) (below_cell (upbw HF.out hbW) SY.out) (SG.out.below (upbw HF.out hbW)) (SH.out.below (upbw HF.out hbW)) hij hj hfew)).mono ?_; rintro e w17 ⟨v17, ho17, hb17, rfl⟩; obtain ⟨a17, c17, rfl⟩ := ho17.form; have Rz := Lib.hid (RZ2.out.of_block (hb17.block _ RZ2.out.lt)); have Ru := Lib.hid (RU2.out.of_block (hb17.block _ RU2.out.lt)); obtain ⟨z0, z1, f0, f1, l0⟩ := row_facts Rz.out; obtain ⟨y0, y1, g0, g1, l1⟩ := row_facts Ru.out; have Ho := Lib.hid ho17; have Hb := Lib.hid (upbw HF.out hb17); clear ho17 hb17)
        go_meet
        rw [Hd1.out]
        exact ZCut.put Rz.out Ru.out (by omega) Ho.out RZ2.out.lt RU2.out.lt Hb.out (by omega) (by omega)
      · have hmanyI := mul_many hfew
        have Hm := Lib.hid (Hp.out.many rfl hmanyI)
        go_wp2
        go_meet
        obtain ⟨e1, e2, e3, e4⟩ := Hm.out
        rw [e1, e2, e3, e4]
        exact ⟨none, 0, RZ2.out, IsEdges.nil _, RU2.out, HF.out⟩
    case rest =>
    obtain ⟨wy, rfl⟩ : ∃ wy : World, wy = wc := ⟨_, rfl⟩
    obtain ⟨ay2, cy2, hz, hze, hu, hbz⟩ := hcut
    have E18 := Lib.hid (E12.out.below hbz)
    have Y18 := Lib.hid (Y12.out.below hbz)
    have G18 := Lib.hid (G12.out.below hbz)
    obtain ⟨z0, z1, f0, f1, l0⟩ := row_facts hz
    obtain ⟨y0, y1, g0, g1, l1⟩ := row_facts hu
    have x0 := Y18.out.c0
    have x1 := Y18.out.c1
    have w0 := G18.out.c0
    have w1' := G18.out.c1
    have Hze := Lib.hid hze
    clear hz hze hu hbz cn dm
    go_wp2_with fail
    refine (same_any L2 L2 N2 N2 _ _ _ Y18.out.he Hze.out).mono ?_
    rintro e w19 ⟨rfl, hb19⟩
    rw [decide_eq_true (show N2 = N2 ∧ L2 = L2 from ⟨rfl, rfl⟩)]
    go_wp2
    go_ret
    exact ⟨rfl, upb E18.out.ts.hb hb19⟩
  · obtain ⟨X, Y, ap, cp, aq, cq, rfl, rfl, hX, hY, hbc⟩ := hcut
    obtain ⟨wO, rfl⟩ : ∃ wO : World, wO = wc := ⟨_, rfl⟩
    have E2 := Lib.hid (PEnv.mk (St.out.below hbc) hX hY)
    clear hX hY q0 hd hbc hl3
    obtain ⟨u0, u1, u2, u3, u4, u5, u6, u7, u8, u9, u10, u11⟩ := E2.out.facts
    go_wp2_with fail
    refine (rcheck_is H0.out _ _ E2.out.ts.he).mono ?_
    rintro e w2 ⟨rfl, hb2⟩
    clear u0 u1 u2 u3 u4 u5 u6 u7 u8 u9 u10 u11
    have E3 := Lib.hid (E2.out.below hb2)
    obtain ⟨u0, u1, u2, u3, u4, u5, u6, u7, u8, u9, u10, u11⟩ := E3.out.facts
    clear hb2
    have B3 := Lib.hid (below1 w2 (Obj.cells #[.int .i64 cf, .int .i64 af] 27))
    have V3 := Lib.hid (VarF.new w2 cf af 27)
    have hF := V3.out.c0
    go_upto_if 24 with fail
    go_cut [] from 24 to 26 (fun wx => FCut w2 w2.heap.size c a wx)
    case first =>
      by_cases hz : cf = 0
      · have Hm := Lib.hid (Hsp.out.1 hz)
        have q : (cf == 0) = true := by simp [hz]
        clear hz
        go_wp2_with fail
        refine (rcheck_is Hm.out _ _ (E3.out.ts.hf.below B3.out)).mono ?_
        rintro e w3 ⟨rfl, hb3⟩
        have R3 := VarF.pair hb3
        obtain ⟨hF, hF', gF, gF', lF⟩ := row_facts R3
        have b4 : Below w2.heap.size w2 ((w3.setCell ⟨w2.heap.size, 0, none⟩ (.int .i64 c)).setCell ⟨w2.heap.size, 1, none⟩ (.int .i64 a)) := ((upb (below1 w2 _) hb3).setCell (Nat.le_refl _) _).setCell (Nat.le_refl _) _
        have F4 : VarF ((w3.setCell ⟨w2.heap.size, 0, none⟩ (.int .i64 c)).setCell ⟨w2.heap.size, 1, none⟩ (.int .i64 a)) w2.heap.size c a := ⟨((R3.set 0 (.int .i64 c)).set 1 (.int .i64 a)).cell (show 0 < 2 by omega), ((R3.set 0 (.int .i64 c)).set 1 (.int .i64 a)).cell (show 1 < 2 by omega)⟩
        have B4 := Lib.hid b4
        have F4' := Lib.hid F4
        clear b4 F4 R3 hb3
        go_wp2
        go_meet
        exact ⟨F4'.out, B4.out⟩
      · have Hm := Lib.hid (Hsp.out.2 hz)
        have q : (cf == 0) = false := by simp [hz]
        clear hz
        go_wp2
        go_meet
        obtain ⟨e1, e2⟩ := Hm.out
        rw [e1, e2]
        exact ⟨V3.out, B3.out⟩
    case rest =>
    obtain ⟨w4, rfl⟩ : ∃ w4 : World, w4 = wc := ⟨_, rfl⟩
    obtain ⟨hz, hbz⟩ := hcut
    have Fz := Lib.hid hz
    clear u0 u1 u2 u3 u4 u5 u6 u7 u8 u9 u10 u11 hz hF
    have E4 := Lib.hid (E3.out.below hbz)
    obtain ⟨u0, u1, u2, u3, u4, u5, u6, u7, u8, u9, u10, u11⟩ := E4.out.facts
    go_wp2_with fail
    refine (join_bad Hs.out hc _ _ _ E4.out.hx.he E4.out.hy.he).mono ?_
    rintro e w5 ⟨v5, ho5, hb5, rfl⟩
    obtain ⟨a5, c5, rfl⟩ := ho5.form
    have b6 := below2 w5 (Obj.cells #[.int .i64 0, .slice a5 ([] : List (Int × Int)).length c5] 24) (Obj.cells #[.int .i64 c, .int .i64 a] 27)
    have X6 := Lib.hid ((VarG.new (n := 0) 24 ho5.edges).below (below1 _ (Obj.cells #[.int .i64 c, .int .i64 a] 27)))
    have f6 := VarF.new (w5.alloc (Obj.cells #[.int .i64 0, .slice a5 ([] : List (Int × Int)).length c5] 24)) c a 27
    rw [World.size_alloc] at f6
    have F6 := Lib.hid f6
    have E6 := Lib.hid (E4.out.below (upb hb5 b6))
    have V6 := Lib.hid (Fz.out.below (upb hb5 b6))
    clear u0 u1 u2 u3 u4 u5 u6 u7 u8 u9 u10 u11 f6 b6 hb5 ho5
    go_upto_region 6 with fail
    generalize (w5.alloc (Obj.cells #[.int .i64 0, .slice a5 ([] : List (Int × Int)).length c5] 24)).alloc (Obj.cells #[.int .i64 c, .int .i64 a] 27) = w6 at *
    obtain ⟨u0, u1, u2, u3, u4, u5, u6, u7, u8, u9, u10, u11⟩ := E6.out.facts
    go_wp2_with fail
    refine (product_bad Hs.out hc _ _ _ E6.out.hx.he E6.out.hy.he).mono ?_
    rintro e w7 ⟨v7, ho7, hb7, rfl⟩
    obtain ⟨a7, c7, rfl⟩ := ho7.form
    have b8 := below2 w7 (Obj.cells #[.int .i64 0, .slice a7 ([] : List (Int × Int)).length c7] 24) (Obj.cells #[.int .i64 c, .int .i64 a] 27)
    have Y8 := Lib.hid ((VarG.new (n := 0) 24 ho7.edges).below (below1 _ (Obj.cells #[.int .i64 c, .int .i64 a] 27)))
    have f8 := VarF.new (w7.alloc (Obj.cells #[.int .i64 0, .slice a7 ([] : List (Int × Int)).length c7] 24)) c a 27
    rw [World.size_alloc] at f8
    have G8 := Lib.hid f8
    have E8 := Lib.hid (E6.out.below (upb hb7 b8))
    have V8 := Lib.hid (V6.out.below (upb hb7 b8))
    have X8 := Lib.hid (X6.out.below (upb hb7 b8))
    have F8 := Lib.hid (F6.out.below (upb hb7 b8))
    clear u0 u1 u2 u3 u4 u5 u6 u7 u8 u9 u10 u11 f8 b8 hb7 ho7
    go_upto_region 7 with fail
    generalize (w7.alloc (Obj.cells #[.int .i64 0, .slice a7 ([] : List (Int × Int)).length c7] 24)).alloc (Obj.cells #[.int .i64 c, .int .i64 a] 27) = w8 at *
    generalize w7.heap.size = PY at *
    generalize w5.heap.size = PX at *
    generalize w2.heap.size = PF at *
    go_wp2_with fail
    refine (begun_any _).mono ?_
    rintro e w9 ⟨rfl, hb9⟩
    have E9 := Lib.hid (E8.out.below hb9)
    have B9 := Lib.hid hb9
    clear hb9
    obtain ⟨u0, u1, u2, u3, u4, u5, u6, u7, u8, u9, u10, u11⟩ := E9.out.facts
    go_wp2_with fail
    refine (kept_is (decide_eq_true ⟨rfl, rfl⟩) _ _ _ E9.out.hx.he E9.out.ts.he).mono ?_
    rintro e w10 ⟨rfl, hb10⟩
    clear u0 u1 u2 u3 u4 u5 u6 u7 u8 u9 u10 u11
    have E10 := Lib.hid (E9.out.below hb10)
    have B10 := Lib.hid (upb B9.out hb10)
    clear hb10
    obtain ⟨u0, u1, u2, u3, u4, u5, u6, u7, u8, u9, u10, u11⟩ := E10.out.facts
    go_wp2_with fail
    refine (kept_is (decide_eq_true ⟨rfl, rfl⟩) _ _ _ E10.out.hy.he E10.out.ts.hf).mono ?_
    rintro e w11 ⟨rfl, hb11⟩
    clear u0 u1 u2 u3 u4 u5 u6 u7 u8 u9 u10 u11
    have b11 := upb B10.out hb11
    have E11 := Lib.hid (E8.out.below b11)
    have V11 := Lib.hid (V8.out.below b11)
    have X11 := Lib.hid (X8.out.below b11)
    have F11 := Lib.hid (F8.out.below b11)
    have Y11 := Lib.hid (Y8.out.below b11)
    have G11 := Lib.hid (G8.out.below b11)
    clear b11 hb11
    have hF := V11.out.c0
    have hF' := V11.out.c1
    have x0 := X11.out.c0
    have x1 := X11.out.c1
    have y0 := Y11.out.c0
    have y1 := Y11.out.c1
    have f0 := F11.out.c0
    have f1 := F11.out.c1
    have g0 := G11.out.c0
    have g1 := G11.out.c1
    have q : (c != 0) = true := by simpa using hc
    clear hbz
    go_wp2
    go_ret
    exact ⟨rfl, E11.out.ts.hb⟩

end Go.Proofs.Ytfflnpcbpcldeaa
