/- minor.look, arborlaw.twoFault: what is wrong with two graphs of few nodes. -/
import Derived.Test.YtfflnpcbpcldeaaBoth
namespace Go.Proofs.Ytfflnpcbpcldeaa
open Go.RowKit

/-- What is wrong with two graphs of few nodes. -/
def FewSpec (n : Int) (l : List (Int × Int)) (m : Int) (k : List (Int × Int)) (c a : Int) : Prop :=
  (GraphSpec n l c a ∧ c ≠ 0) ∨ (GoodGraph n l ∧ GraphSpec m k c a ∧ c ≠ 0) ∨ (GoodGraph n l ∧ GoodGraph m k ∧ (10 < n ∨ 6 < m) ∧ c = 2 ∧ a = 0) ∨ (GoodGraph n l ∧ GoodGraph m k ∧ n ≤ 10 ∧ m ≤ 6 ∧ c = 0 ∧ a = 0)
theorem FewSpec.ex (n : Int) (l : List (Int × Int)) (m : Int) (k : List (Int × Int)) : ∃ c a, FewSpec n l m k c a := by
  obtain ⟨c, a, h⟩ := GraphSpec.ex n l
  by_cases e : c = 0
  · subst e
    obtain ⟨c', a', h'⟩ := GraphSpec.ex m k
    by_cases e' : c' = 0
    · subst e'
      by_cases hb : 10 < n ∨ 6 < m
      · exact ⟨2, 0, Or.inr (Or.inr (Or.inl ⟨h.good.1, h'.good.1, hb, rfl, rfl⟩))⟩
      · exact ⟨0, 0, Or.inr (Or.inr (Or.inr ⟨h.good.1, h'.good.1, by omega, by omega, rfl, rfl⟩))⟩
    · exact ⟨c', a', Or.inr (Or.inl ⟨h.good.1, h', e'⟩)⟩
  · exact ⟨c, a, Or.inl ⟨h, e⟩⟩
theorem FewSpec.good {n : Int} {l : List (Int × Int)} {m : Int} {k : List (Int × Int)} {a : Int} (h : FewSpec n l m k 0 a) : GoodGraph n l ∧ GoodGraph m k ∧ n ≤ 10 ∧ m ≤ 6 ∧ a = 0 := by
  rcases h with ⟨_, h⟩ | ⟨_, _, h⟩ | ⟨_, _, _, h, _⟩ | ⟨h1, h2, h3, h4, _, h5⟩
  · exact absurd rfl h
  · exact absurd rfl h
  · exact absurd h (by omega)
  · exact ⟨h1, h2, h3, h4, h5⟩

theorem mfault_any (c a : Int) (w : World) :
    Calls Try.prog 103 #[.int .i64 c, .int .i64 a] w fun e w' => e = .returned (.agg #[.int .i64 c, .int .i64 a]) ∧ w.alloc (.cells #[.int .i64 c, .int .i64 a] 27) = w' := by
  go_enter Try.func103, Try.ntmps103
  go_wp2
  exact bodyPost_ret (v := .agg #[.int .i64 c, .int .i64 a]) (by simp [results, Try.results103, go_sem]) rfl ⟨rfl, rfl⟩

/-- Two graphs' variables, and a fault's. -/
structure LookSt (w wr : World) (n : Int) (s : Value) (l : List (Int × Int)) (m : Int) (t : Value) (k : List (Int × Int)) : Prop where
  ts : TwoSt w wr n s l m t k
  r : wr.rowIs (w.heap.size + 1 + 1) 27 2 (fun i => if i = 0 then .int .i64 0 else .int .i64 0)
theorem LookSt.below {w wr w' : World} {n : Int} {s : Value} {l : List (Int × Int)} {m : Int} {t : Value} {k : List (Int × Int)} (h : LookSt w wr n s l m t k) (hb : Below wr.heap.size wr w') : LookSt w w' n s l m t k :=
  ⟨h.ts.below hb, h.r.of_block (hb.block _ h.r.lt)⟩
theorem LookSt.fin {w wr : World} {n : Int} {s : Value} {l : List (Int × Int)} {m : Int} {t : Value} {k : List (Int × Int)} (h : LookSt w wr n s l m t k) (c a : Int) :
    (((wr.setCell ⟨w.heap.size + 1 + 1, 0, none⟩ (.int .i64 c)).setCell ⟨w.heap.size + 1 + 1, 1, none⟩ (.int .i64 a)).cell? ⟨w.heap.size + 1 + 1, 0, none⟩ = some (.int .i64 c)) ∧
    (((wr.setCell ⟨w.heap.size + 1 + 1, 0, none⟩ (.int .i64 c)).setCell ⟨w.heap.size + 1 + 1, 1, none⟩ (.int .i64 a)).cell? ⟨w.heap.size + 1 + 1, 1, none⟩ = some (.int .i64 a)) ∧
    Below w.heap.size w ((wr.setCell ⟨w.heap.size + 1 + 1, 0, none⟩ (.int .i64 c)).setCell ⟨w.heap.size + 1 + 1, 1, none⟩ (.int .i64 a)) := by
  have e0 := (((h.r.set 0 (.int .i64 c)).set 1 (.int .i64 a)).cell (show 0 < 2 by omega))
  have e1 := (((h.r.set 0 (.int .i64 c)).set 1 (.int .i64 a)).cell (show 1 < 2 by omega))
  simp only [if_true, show ¬ (1 : Nat) = 0 by omega, show ¬ (0 : Nat) = 1 by omega, if_false] at e0 e1
  exact ⟨e0, e1, ((h.ts.hb.setCell (p := ⟨w.heap.size + 1 + 1, 0, none⟩) (show w.heap.size ≤ w.heap.size + 1 + 1 by omega) (.int .i64 c)).setCell (p := ⟨w.heap.size + 1 + 1, 1, none⟩) (show w.heap.size ≤ w.heap.size + 1 + 1 by omega) (.int .i64 a))⟩

set_option maxHeartbeats 3200000 in
set_option maxRecDepth 100000 in
theorem look_is {n : Int} {l : List (Int × Int)} {m : Int} {k : List (Int × Int)} {c a : Int} (hs : FewSpec n l m k c a) (s t : Value) (w : World) (h : IsEdges w s l) (h' : IsEdges w t k) :
    Calls Try.prog 74 #[.agg #[.int .i64 n, s], .agg #[.int .i64 m, t]] w (FaultIs c a w) := by
  obtain ⟨ad, cap, rfl⟩ := h.form
  obtain ⟨ad', cap', rfl⟩ := h'.form
  have st := TwoSt.start (n := n) (m := m) h h'
  have hz := two_row ((w.alloc (Obj.cells #[.int .i64 n, .slice ad l.length cap] 24)).alloc (Obj.cells #[.int .i64 m, .slice ad' k.length cap'] 24)) (.int .i64 0) (.int .i64 0) 27
  rw [World.size_alloc, World.size_alloc] at hz
  have St := Lib.hid (LookSt.mk (st.below (below1 _ (Obj.cells #[.int .i64 0, .int .i64 0] 27))) hz)
  have Hs := Lib.hid hs
  clear hs h h' st hz
  go_enter Try.func74, Try.ntmps74
  go_upto_region 1 with fail
  generalize ((w.alloc (Obj.cells #[.int .i64 n, .slice ad l.length cap] 24)).alloc (Obj.cells #[.int .i64 m, .slice ad' k.length cap'] 24)).alloc (Obj.cells #[.int .i64 0, .int .i64 0] 27) = w1 at *
  have cn := St.out.ts.cn
  have cs := St.out.ts.cs
  have hl1 := St.out.ts.lt
  have hl0 : w.heap.size < w1.heap.size := by omega
  rcases Hs.out with ⟨h1, h2⟩ | ⟨h1, h2, h3⟩ | ⟨h1, h2, h3, rfl, rfl⟩ | ⟨h1, h2, h3, h4, rfl, rfl⟩
  · have q : (c != 0) = true := by simpa using h2
    have H1 := Lib.hid h1
    clear h1 h2 Hs
    go_wp2_with (go_at_call 63; refine (gcheck_is H1.out _ _ St.out.ts.he).mono ?_; rintro e w2 ⟨rfl, hb2⟩; have S2 := Lib.hid (St.out.below hb2); obtain ⟨z0, z1, f0, f1, l0⟩ := row_facts S2.out.r; clear hb2)
    obtain ⟨e0, e1, hfin⟩ := S2.out.fin c a
    have e0 := below_cell (below1 _ (Obj.cells #[.int .i64 c, .int .i64 a] 27)) e0
    have e1 := below_cell (below1 _ (Obj.cells #[.int .i64 c, .int .i64 a] 27)) e1
    exact bodyPost_ret (v := .agg #[.int .i64 c, .int .i64 a]) (by simp [results, Try.results74, go_sem, e0, e1]) rfl ⟨rfl, hfin.alloc hfin.size _⟩
  · have q : (c != 0) = true := by simpa using h3
    have H1 := Lib.hid h1
    have H2 := Lib.hid h2
    clear h1 h2 h3 Hs
    go_wp2_with fail
    refine (gcheck_is H1.out.spec _ _ St.out.ts.he).mono ?_
    rintro e w2 ⟨rfl, hb2⟩
    have S2 := Lib.hid ((St.out.below hb2).below (below1 w2 (Obj.cells #[.int .i64 0, .int .i64 0] 27)))
    have S2' := St.out.below hb2
    have dm2 := S2'.ts.dm
    have dt2 := S2'.ts.dt
    have hl2 := S2'.ts.lt
    clear hb2 S2'
    go_wp2_with fail
    refine (gcheck_is H2.out _ _ S2.out.ts.hf).mono ?_
    rintro e w3 ⟨rfl, hb3⟩
    have S3 := Lib.hid (S2.out.below hb3)
    obtain ⟨z0, z1, f0, f1, l0⟩ := row_facts S3.out.r
    clear hb3
    go_wp2
    obtain ⟨e0, e1, hfin⟩ := S3.out.fin c a
    have e0 := below_cell (below1 _ (Obj.cells #[.int .i64 c, .int .i64 a] 27)) e0
    have e1 := below_cell (below1 _ (Obj.cells #[.int .i64 c, .int .i64 a] 27)) e1
    exact bodyPost_ret (v := .agg #[.int .i64 c, .int .i64 a]) (by simp [results, Try.results74, go_sem, e0, e1]) rfl ⟨rfl, hfin.alloc hfin.size _⟩
  all_goals
    have H1 := Lib.hid h1
    have H2 := Lib.hid h2
    clear h1 h2 Hs
    go_wp2_with fail
    refine (gcheck_is H1.out.spec _ _ St.out.ts.he).mono ?_
    rintro e w2 ⟨rfl, hb2⟩
    have S2 := Lib.hid ((St.out.below hb2).below (below1 w2 (Obj.cells #[.int .i64 0, .int .i64 0] 27)))
    have S2' := St.out.below hb2
    have dm2 := S2'.ts.dm
    have dt2 := S2'.ts.dt
    have hl2 := S2'.ts.lt
    clear hb2 S2'
    go_wp2_with fail
    refine (gcheck_is H2.out.spec _ _ S2.out.ts.hf).mono ?_
    rintro e w3 ⟨rfl, hb3⟩
    have S3 := Lib.hid (S2.out.below hb3)
    have cn3 := S3.out.ts.cn
    have dm3 := S3.out.ts.dm
    have hl3 := S3.out.ts.lt
    have hl4 : w.heap.size < w3.heap.size := by omega
    obtain ⟨z0, z1, f0, f1, l0⟩ := row_facts S3.out.r
    clear hb3
  · obtain ⟨e0, e1, hfin⟩ := S3.out.fin 2 0
    have e0 := below_cell (below2 _ (Obj.cells #[.int .i64 0, .int .i64 0] 27) (Obj.cells #[.int .i64 2, .int .i64 0] 27)) e0
    have e1 := below_cell (below2 _ (Obj.cells #[.int .i64 0, .int .i64 0] 27) (Obj.cells #[.int .i64 2, .int .i64 0] 27)) e1
    have fin := Lib.hid (And.intro e0 (And.intro e1 (upb hfin (below2 _ (Obj.cells #[.int .i64 0, .int .i64 0] 27) (Obj.cells #[.int .i64 2, .int .i64 0] 27)))))
    clear e0 e1 hfin
    by_cases h10 : 10 < n
    all_goals
      try (have h6 : 6 < m := by omega)
      clear h3
      go_wp2_with (go_at_call 103; refine (mfault_any _ _ _).mono ?_; rintro e w4 ⟨rfl, rfl⟩)
      obtain ⟨e0, e1, hfin⟩ := fin.out
      exact bodyPost_ret (v := .agg #[.int .i64 2, .int .i64 0]) (by simp [results, Try.results74, go_sem, e0, e1]) rfl ⟨rfl, hfin⟩
  · obtain ⟨e0, e1, hfin⟩ := S3.out.fin 0 0
    have e0 := below_cell (below1 _ (Obj.cells #[.int .i64 0, .int .i64 0] 27)) e0
    have e1 := below_cell (below1 _ (Obj.cells #[.int .i64 0, .int .i64 0] 27)) e1
    have fin := Lib.hid (And.intro e0 (And.intro e1 (upb hfin (below1 _ (Obj.cells #[.int .i64 0, .int .i64 0] 27)))))
    clear e0 e1 hfin
    go_wp2
    obtain ⟨e0, e1, hfin⟩ := fin.out
    exact bodyPost_ret (v := .agg #[.int .i64 0, .int .i64 0]) (by simp [results, Try.results74, go_sem, e0, e1]) rfl ⟨rfl, hfin⟩

end Go.Proofs.Ytfflnpcbpcldeaa
