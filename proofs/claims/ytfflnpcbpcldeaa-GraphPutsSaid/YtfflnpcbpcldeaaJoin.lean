/- graph.Join. -/
import Derived.Test.YtfflnpcbpcldeaaTwoCalls
import Derived.Deep.RegionHeld3
namespace Go.Proofs.Ytfflnpcbpcldeaa
open Go.RowKit

/-- What Join tells: a graph and a fault. -/
structure JoinSpec (n m : Int) (l k : List (Int × Int)) (c a : Int) (N' : Int) (L' : List (Int × Int)) (c' a' : Int) : Prop where
  bad : c ≠ 0 → N' = 0 ∧ L' = [] ∧ c' = c ∧ a' = a
  many : c = 0 → 100 < n + m → N' = 0 ∧ L' = [] ∧ c' = 2 ∧ a' = 0
  ok : c = 0 → n + m ≤ 100 → PairsRes (n.toNat + m.toNat) (joinP (adj l) (adj k) n.toNat) N' L' c' ∧ a' = 0
theorem JoinSpec.ex (n m : Int) (l k : List (Int × Int)) (c a : Int) : ∃ N' L' c' a', JoinSpec n m l k c a N' L' c' a' := by
  by_cases h : c = 0
  · by_cases h2 : n + m ≤ 100
    · obtain ⟨N', L', c', hr⟩ := PairsRes.ex (n.toNat + m.toNat) (joinP (adj l) (adj k) n.toNat)
      exact ⟨N', L', c', 0, fun e => absurd h e, fun _ e => absurd h2 (by omega), fun _ _ => ⟨hr, rfl⟩⟩
    · exact ⟨0, [], 2, 0, fun e => absurd h e, fun _ _ => ⟨rfl, rfl, rfl, rfl⟩, fun _ e => absurd e h2⟩
  · exact ⟨0, [], c, a, fun _ => ⟨rfl, rfl, rfl, rfl⟩, fun e => absurd e h, fun e => absurd e h⟩

theorem eg_join : ∀ args w, (callFunc 59 args).run Try.prog w = .ok (.enter 59 args) w := enters_of Try.func59 (by kernel_rfl) rfl

set_option maxHeartbeats 3200000 in
set_option maxRecDepth 100000 in
theorem join_bad {n : Int} {l : List (Int × Int)} {m : Int} {k : List (Int × Int)} {c a : Int} (hs : BothSpec n l m k c a) (hc : c ≠ 0) (s t : Value) (w : World) (h : IsEdges w s l) (h' : IsEdges w t k) :
    Calls Try.prog 13 #[.agg #[.int .i64 n, s], .agg #[.int .i64 m, t]] w (TwoPost 0 [] c a w) := by
  obtain ⟨ad, cap, rfl⟩ := h.form
  obtain ⟨ad', cap', rfl⟩ := h'.form
  have Hs := Lib.hid hs
  have q : (c != 0) = true := by simpa using hc
  have St := Lib.hid (JSt.start (n := n) (m := m) h h')
  clear hs hc h h'
  go_enter Try.func13, Try.ntmps13
  go_upto_region 1 with fail
  generalize (((w.alloc (Obj.cells #[.int .i64 n, .slice ad l.length cap] 24)).alloc (Obj.cells #[.int .i64 m, .slice ad' k.length cap'] 24)).alloc (Obj.cells #[.int .i64 0, .slice none 0 0] 24)).alloc (Obj.cells #[.int .i64 0, .int .i64 0] 27) = w1 at *
  have cn := St.out.ts.cn
  have cs := St.out.ts.cs
  have dm := St.out.ts.dm
  have dt := St.out.ts.dt
  have hl1 := St.out.ts.lt
  have hl0 : w.heap.size < w1.heap.size := by omega
  go_wp2_with fail
  refine (both_is Hs.out _ _ _ St.out.ts.he St.out.ts.hf).mono ?_
  rintro e w2 ⟨rfl, hb2⟩
  have e01 := two_cells w2 (.int .i64 c) (.int .i64 a) 27
  have S3' := (St.out.below hb2).below (below1 w2 (Obj.cells #[.int .i64 c, .int .i64 a] 27))
  have hl2 := (St.out.below hb2).r1.lt
  clear hb2 cn cs dm dt
  go_wp2_with fail
  have S3 := Lib.hid S3'
  obtain ⟨z0, z1, f0, f1, l0⟩ := row_facts S3.out.r0
  obtain ⟨y0, y1, g0, g1, l1⟩ := row_facts S3.out.r1
  clear S3'
  generalize w2.alloc (Obj.cells #[.int .i64 c, .int .i64 a] 27) = w3 at *
  obtain ⟨e0, e1⟩ := e01
  have n1 : w.heap.size + 1 + 1 ≠ w2.heap.size := by omega
  have n2 : w.heap.size + 1 + 1 + 1 ≠ w2.heap.size := by omega
  have n3 : w.heap.size + 1 + 1 ≠ w.heap.size + 1 + 1 + 1 := by omega
  generalize w2.heap.size = E at *
  go_region_held3 (fun w' => w'.cell? ⟨E, 0, none⟩ = some (.int .i64 c) ∧ w'.cell? ⟨E, 1, none⟩ = some (.int .i64 a)) (go_keep) (fail)
  all_goals have SD := S3.out
  all_goals obtain ⟨c0, c1, c2, c3⟩ := four_set SD.r0 SD.r1 (show w.heap.size + 1 + 1 ≠ w.heap.size + 1 + 1 + 1 by omega) (.int .i64 0) (.slice none 0 0) (.int .i64 c) (.int .i64 a)
  all_goals have hfin := four_below SD.ts.hb (show w.heap.size ≤ w.heap.size + 1 + 1 by omega) (show w.heap.size ≤ w.heap.size + 1 + 1 + 1 by omega) (.int .i64 0) (.slice none 0 0) (.int .i64 c) (.int .i64 a)
  all_goals
    go_wp2
    exact bodyPost_ret (v := .tuple #[.agg #[.int .i64 0, .slice none 0 0], .agg #[.int .i64 c, .int .i64 a]]) (by simp [results, Try.results13, go_sem, c0, c1, c2, c3]) rfl ⟨_, OwnE.nil _ _, hfin.drew, rfl⟩

set_option maxHeartbeats 3200000 in
set_option maxRecDepth 100000 in
theorem join_many {n : Int} {l : List (Int × Int)} {m : Int} {k : List (Int × Int)} (hs : GoodGraph n l) (hs' : GoodGraph m k) (hmany : 100 < n + m) (s t : Value) (w : World) (h : IsEdges w s l) (h' : IsEdges w t k) :
    Calls Try.prog 13 #[.agg #[.int .i64 n, s], .agg #[.int .i64 m, t]] w (TwoPost 0 [] 2 0 w) := by
  obtain ⟨ad, cap, rfl⟩ := h.form
  obtain ⟨ad', cap', rfl⟩ := h'.form
  have Hs : Hid (BothSpec n l m k 0 0) := Lib.hid (Or.inr ⟨hs, hs'.spec⟩)
  have b1 := hs.lo
  have b2 := hs.hi
  have b3 := hs'.lo
  have b4 := hs'.hi
  have St := Lib.hid (JSt.start (n := n) (m := m) h h')
  clear hs hs' h h'
  go_enter Try.func13, Try.ntmps13
  go_upto_region 1 with fail
  generalize (((w.alloc (Obj.cells #[.int .i64 n, .slice ad l.length cap] 24)).alloc (Obj.cells #[.int .i64 m, .slice ad' k.length cap'] 24)).alloc (Obj.cells #[.int .i64 0, .slice none 0 0] 24)).alloc (Obj.cells #[.int .i64 0, .int .i64 0] 27) = w1 at *
  have cn := St.out.ts.cn
  have cs := St.out.ts.cs
  have dm := St.out.ts.dm
  have dt := St.out.ts.dt
  have hl1 := St.out.ts.lt
  have hl0 : w.heap.size < w1.heap.size := by omega
  go_wp2_with fail
  refine (both_is Hs.out _ _ _ St.out.ts.he St.out.ts.hf).mono ?_
  rintro e w2 ⟨rfl, hb2⟩
  have e01 := two_cells w2 (.int .i64 0) (.int .i64 0) 27
  have S3' := (St.out.below hb2).below (below1 w2 (Obj.cells #[.int .i64 0, .int .i64 0] 27))
  have hl2 := (St.out.below hb2).r1.lt
  clear hb2 cn cs dm dt
  go_upto_region 4 with fail
  have S3 := Lib.hid S3'
  have cn := S3.out.ts.cn
  have cs := S3.out.ts.cs
  have dm := S3.out.ts.dm
  have dt := S3.out.ts.dt
  have hl3 := S3.out.ts.lt
  obtain ⟨z0, z1, f0, f1, l0⟩ := row_facts S3.out.r0
  obtain ⟨y0, y1, g0, g1, l1⟩ := row_facts S3.out.r1
  clear S3'
  generalize w2.alloc (Obj.cells #[.int .i64 0, .int .i64 0] 27) = w3 at *
  obtain ⟨e0, e1⟩ := e01
  generalize w2.heap.size = E at *
  go_wp2_with (go_at_call 56; refine (gfault_any _ _ _).mono ?_; rintro e wf ⟨rfl, rfl⟩)
  obtain ⟨e0, e1, e2, e3⟩ := four_set S3.out.r0 S3.out.r1 (show w.heap.size + 1 + 1 ≠ w.heap.size + 1 + 1 + 1 by omega) (.int .i64 0) (.slice none 0 0) (.int .i64 2) (.int .i64 0)
  have hfin := four_below S3.out.ts.hb (show w.heap.size ≤ w.heap.size + 1 + 1 by omega) (show w.heap.size ≤ w.heap.size + 1 + 1 + 1 by omega) (.int .i64 0) (.slice none 0 0) (.int .i64 2) (.int .i64 0)
  have c0 := below_cell (below1 _ (Obj.cells #[Value.int .i64 2, .int .i64 0] 27)) e0
  have c1 := below_cell (below1 _ (Obj.cells #[Value.int .i64 2, .int .i64 0] 27)) e1
  have c2 := below_cell (below1 _ (Obj.cells #[Value.int .i64 2, .int .i64 0] 27)) e2
  have c3 := below_cell (below1 _ (Obj.cells #[Value.int .i64 2, .int .i64 0] 27)) e3
  exact bodyPost_ret (v := .tuple #[.agg #[.int .i64 0, .slice none 0 0], .agg #[.int .i64 2, .int .i64 0]]) (by simp [results, Try.results13, go_sem, c0, c1, c2, c3]) rfl ⟨_, OwnE.nil _ _, hfin.alloc hfin.size _, rfl⟩

set_option maxHeartbeats 6400000 in
set_option maxRecDepth 100000 in
theorem join_ok {N M : Nat} {l : List (Int × Int)} {k : List (Int × Int)} (hs : GoodGraph N l) (hs' : GoodGraph M k) (hfew : N + M ≤ 100) {N' : Int} {L' : List (Int × Int)} {c' : Int} (hr : PairsRes (N + M) (joinP (adj l) (adj k) N) N' L' c')
    (s t : Value) (w : World) (h : IsEdges w s l) (h' : IsEdges w t k) :
    Calls Try.prog 13 #[.agg #[.int .i64 (N : Int), s], .agg #[.int .i64 (M : Int), t]] w (TwoPost N' L' c' 0 w) := by
  obtain ⟨ad, cap, rfl⟩ := h.form
  obtain ⟨ad', cap', rfl⟩ := h'.form
  have Hs : Hid (BothSpec N l M k 0 0) := Lib.hid (Or.inr ⟨hs, hs'.spec⟩)
  have b2 : N ≤ 100 := by have := hs.hi; omega
  have b4 : M ≤ 100 := by have := hs'.hi; omega
  have hok : ∀ j, j < l.length → EndsOk (N : Int) (l.getD j (0, 0)) ∧ (l.getD j (0, 0)).1 ≠ (l.getD j (0, 0)).2 := fun j hj => ⟨(hs.fine j hj).1, (hs.fine j hj).2.1⟩
  have hok' : ∀ j, j < k.length → EndsOk (M : Int) (k.getD j (0, 0)) ∧ (k.getD j (0, 0)).1 ≠ (k.getD j (0, 0)).2 := fun j hj => ⟨(hs'.fine j hj).1, (hs'.fine j hj).2.1⟩
  have Hok := Lib.hid hok
  have Hok' := Lib.hid hok'
  have Hr := Lib.hid hr
  have St := Lib.hid (JSt.start (n := (N : Int)) (m := (M : Int)) h h')
  clear hs hs' h h' hok hok' hr
  go_enter Try.func13, Try.ntmps13
  go_upto_region 1 with fail
  generalize (((w.alloc (Obj.cells #[.int .i64 (N : Int), .slice ad l.length cap] 24)).alloc (Obj.cells #[.int .i64 (M : Int), .slice ad' k.length cap'] 24)).alloc (Obj.cells #[.int .i64 0, .slice none 0 0] 24)).alloc (Obj.cells #[.int .i64 0, .int .i64 0] 27) = w1 at *
  have cn := St.out.ts.cn
  have cs := St.out.ts.cs
  have dm := St.out.ts.dm
  have dt := St.out.ts.dt
  have hl1 := St.out.ts.lt
  have hl0 : w.heap.size < w1.heap.size := by omega
  go_wp2_with fail
  refine (both_is Hs.out _ _ _ St.out.ts.he St.out.ts.hf).mono ?_
  rintro e w2 ⟨rfl, hb2⟩
  have e01 := two_cells w2 (.int .i64 0) (.int .i64 0) 27
  have S3' := (St.out.below hb2).below (below1 w2 (Obj.cells #[.int .i64 0, .int .i64 0] 27))
  have hl2 := (St.out.below hb2).r1.lt
  clear hb2 cn cs dm dt
  go_upto_region 4 with fail
  have S3 := Lib.hid S3'
  have cn := S3.out.ts.cn
  have cs := S3.out.ts.cs
  have dm := S3.out.ts.dm
  have dt := S3.out.ts.dt
  have hl3 := S3.out.ts.lt
  have hl3' : w.heap.size < (w2.alloc (Obj.cells #[.int .i64 0, .int .i64 0] 27)).heap.size := by omega
  clear S3'
  generalize w2.alloc (Obj.cells #[.int .i64 0, .int .i64 0] 27) = w3 at *
  obtain ⟨e0, e1⟩ := e01
  generalize w2.heap.size = E at *
  go_wp2_with fail
  have q0 : Own4 w.heap.size (N : Int) (.slice ad l.length cap) (M : Int) (.slice ad' k.length cap') w3.drew := S3.out.ts.own4
  have hd : Below w3.heap.size w3 w3.drew := (Below.refl _ _).drew
  go_cut [7, 8] from 25 to 28 (fun s7 s8 wx => TabCut w3 N M (adj l) (adj k) s7 s8 wx)
  case first =>
    go_region_held3 (fun w' => w'.cell? ⟨w.heap.size, 0, none⟩ = some (.int .i64 (N : Int)) ∧ w'.cell? ⟨w.heap.size, 1, none⟩ = some (.slice ad l.length cap) ∧ w'.cell? ⟨w.heap.size + 1, 0, none⟩ = some (.int .i64 (M : Int)) ∧ w'.cell? ⟨w.heap.size + 1, 1, none⟩ = some (.slice ad' k.length cap'))
      (first | exact q0 | exact q0.below (below1 _ _) | exact q0.below (below2 _ _ _) | exact q1 | exact q1.below (below1 _ _) | exact q1.below (below2 _ _ _) | exact q2 | exact q2.below (below1 _ _) | exact q2.below (below2 _ _ _) | exact q2.set (by omega) _ | exact (q2.set (by omega) _).below (below1 _ _) | exact (q2.set (by omega) _).set (by omega) _ | exact ((q2.set (by omega) _).set (by omega) _).below (below1 _ _))
      (first
        | (go_at_call_of 57 (Value.slice ad l.length cap); (refine (table_any l N (.slice ad l.length cap) _ (S3.out.ts.he.below (by first | exact hd | exact upb hd (below1 _ _) | exact upb hd (below2 _ _ _))) b2 Hok.out).mono ?_; rintro e wp ⟨v1, rfl, hg1, hb1⟩; obtain ⟨a1, c1, rfl⟩ := HasGrid.form ⟨_, hg1⟩; have h01 : Below w3.heap.size w3 wp := (by first | exact upb hd hb1 | exact upb (upb hd (below1 _ _)) hb1 | exact upb (upb hd (below2 _ _ _)) hb1); have q1 := Own4.below S3.out.ts.own4 h01; obtain ⟨rc1, rf1⟩ := bcell hb1; have hs1 := h01.size; have G1 := Lib.hid hg1.inside; have hz1 := hb1.size; (try simp only [World.size_alloc, Nat.add_one_le_iff, World.size_drew] at hz1); (try (have hz1b := Nat.lt_of_succ_lt hz1))))
        | (go_at_call_of 57 (Value.slice ad' k.length cap'); refine (table_any k M (.slice ad' k.length cap') _ (S3.out.ts.hf.below (by first | exact h01 | exact upb h01 (below1 _ _) | exact upb h01 (below2 _ _ _))) b4 Hok'.out).mono ?_; rintro e wq ⟨v2, rfl, hg2, hb2⟩; obtain ⟨a2, c2, rfl⟩ := HasGrid.form ⟨_, hg2⟩; have h12 : Below wp.heap.size wp wq := (by first | exact hb2 | exact upb (below1 _ _) hb2 | exact upb (below2 _ _ _) hb2); have q2 := Own4.below q1 h12; obtain ⟨rc2, rf2⟩ := bcell hb2; have hs2 := h12.size; have G2 := Lib.hid hg2.inside; have hz2 := hb2.size; (try simp only [World.size_alloc, Nat.add_one_le_iff, World.size_drew] at hz2); (try (have hz2b := Nat.lt_of_succ_lt hz2)); (try (have hz3 := Nat.lt_of_lt_of_le hz1 hs2)); (try (have hz3b := Nat.lt_of_lt_of_le hz1b hs2))))
    all_goals
      go_wp2_with fail
      go_meet
      have hq := upb h01 h12
      have g1 := G1.out.below h12
      have g2 := G2.out
      refine ⟨_, _, a1, c1, a2, c2, rfl, rfl, ?_, ?_, ?_, ?_, ?_⟩
      · first | (go_simp; done) | exact (World.cell?_setCell_far _ _ _ _ (by dsimp only; first | omega | (simp only [World.size_alloc, World.size_drew]; omega))).trans (World.cell?_setCell_same' _ _ _ (by go_simp))
      · first | exact ((g1.set (by first | omega | (simp only [World.size_alloc, World.size_drew]; omega)) 0 _).set (by first | omega | (simp only [World.size_alloc, World.size_drew]; omega)) 0 _).has | exact ((g1.set (by first | omega | (simp only [World.size_alloc, World.size_drew]; omega)) 0 _).below (below1 _ _)).has | exact (g1.below (below2 _ _ _)).has
      · first | (go_simp; done) | exact World.cell?_setCell_same' _ _ _ (by first | (go_simp; done) | (rw [World.cell?_setCell_far _ _ _ _ (by dsimp only; first | omega | (simp only [World.size_alloc, World.size_drew]; omega))]; go_simp))
      · first | exact ((g2.set (by first | omega | (simp only [World.size_alloc, World.size_drew]; omega)) 0 _).set (by first | omega | (simp only [World.size_alloc, World.size_drew]; omega)) 0 _).has | exact ((g2.set (by first | omega | (simp only [World.size_alloc, World.size_drew]; omega)) 0 _).below (below1 _ _)).has | exact (g2.below (below2 _ _ _)).has
      · first | exact (hq.setCell (by first | omega | (simp only [World.size_alloc, World.size_drew]; omega)) _).setCell (by first | omega | (simp only [World.size_alloc, World.size_drew]; omega)) _ | exact upb hq (below2 _ _ _) | exact upb (hq.setCell (by first | omega | (simp only [World.size_alloc, World.size_drew]; omega)) _) (below1 _ _)
  case rest =>
  obtain ⟨X, Y, a1, c1, a2, c2, rfl, rfl, hX, hG, hY, hH, hbc⟩ := hcut
  have S4 := Lib.hid (S3.out.below hbc)
  have cn4 := S4.out.ts.cn
  have dm4 := S4.out.ts.dm
  have HX := Lib.hid hX
  have HY := Lib.hid hY
  have HG := Lib.hid hG
  have HH := Lib.hid hH
  clear cn cs dm dt hX hY hG hH q0 hd
  go_wp2_with (go_at_call 58; refine (from_is Hr.out 59 #[.pointer (some ⟨w.heap.size, 0, none⟩), .pointer (some ⟨X, 0, none⟩), .pointer (some ⟨Y, 0, none⟩)] wc eg_join (by omega) (fun W i j hij hj hbW => join1_any W (below_cell hbW S4.out.ts.cn) (below_cell hbW HX.out) (below_cell hbW HY.out) (HG.out.below hbW) (HH.out.below hbW) hij hj (by omega))).mono ?_; rintro e w4 ⟨v4, ho4, hb4, rfl⟩; obtain ⟨a4, c4, rfl⟩ := ho4.form; have S5 := Lib.hid (S4.out.below hb4); obtain ⟨z0, z1, f0, f1, l0⟩ := row_facts S5.out.r0; obtain ⟨y0, y1, g0, g1, l1⟩ := row_facts S5.out.r1; have Ho4 := Lib.hid ho4; clear hb4 ho4)
  obtain ⟨e0, e1, e2, e3⟩ := four_set S5.out.r0 S5.out.r1 (show w.heap.size + 1 + 1 ≠ w.heap.size + 1 + 1 + 1 by omega) (.int .i64 N') (.slice a4 L'.length c4) (.int .i64 c') (.int .i64 0)
  have hfin := four_below S5.out.ts.hb (show w.heap.size ≤ w.heap.size + 1 + 1 by omega) (show w.heap.size ≤ w.heap.size + 1 + 1 + 1 by omega) (.int .i64 N') (.slice a4 L'.length c4) (.int .i64 c') (.int .i64 0)
  have hlow := S4.out.r1.lt
  have hoe := ((((Ho4.out.set (show w.heap.size + 1 + 1 < _ from Nat.lt_trans (by omega) hlow) 0 (.int .i64 N')).set (show w.heap.size + 1 + 1 < _ from Nat.lt_trans (by omega) hlow) 1 (.slice a4 L'.length c4)).set hlow 0 (.int .i64 c')).set hlow 1 (.int .i64 0)).low (show w.heap.size ≤ _ by omega)
  exact bodyPost_ret (v := .tuple #[.agg #[.int .i64 N', .slice a4 L'.length c4], .agg #[.int .i64 c', .int .i64 0]]) (by simp [results, Try.results13, go_sem, e0, e1, e2, e3]) rfl ⟨_, hoe, hfin, rfl⟩

end Go.Proofs.Ytfflnpcbpcldeaa
