/- arborlaw.twoFault. -/
import Derived.Test.YtfflnpcbpcldeaaLook
import Derived.Test.YtfflnpcbpcldeaaPutsMem
namespace Go.Proofs.Ytfflnpcbpcldeaa
open Go.RowKit

/-- A row of two cells is stored anew. -/
theorem row_put {w : World} {b : Nat} {t : TypeId} {x y : Value} (h : w.rowIs b t 2 (fun i => if i = 0 then x else y)) (c a : Value) :
    ((w.setCell ⟨b, 0, none⟩ c).setCell ⟨b, 1, none⟩ a).rowIs b t 2 (fun i => if i = 0 then c else a) :=
  ((h.set 0 c).set 1 a).congr fun i hi => by
    match i, hi with
    | 0, _ => rfl
    | 1, _ => rfl

set_option maxHeartbeats 3200000 in
set_option maxRecDepth 100000 in
theorem twoFault_is {n : Int} {l : List (Int × Int)} {m : Int} {k : List (Int × Int)} {c a : Int} (hs : FewSpec n l m k c a) (s t : Value) (w : World) (h : IsEdges w s l) (h' : IsEdges w t k) :
    Calls Try.prog 33 #[.agg #[.int .i64 n, s], .agg #[.int .i64 m, t]] w (FaultIs c a w) := by
  obtain ⟨ad, cap, rfl⟩ := h.form
  obtain ⟨ad', cap', rfl⟩ := h'.form
  have st := TwoSt.start (n := n) (m := m) h h'
  have hz := two_row ((w.alloc (Obj.cells #[.int .i64 n, .slice ad l.length cap] 24)).alloc (Obj.cells #[.int .i64 m, .slice ad' k.length cap'] 24)) (.int .i64 0) (.int .i64 0) 27
  rw [World.size_alloc, World.size_alloc] at hz
  have St := Lib.hid (LookSt.mk (st.below (below1 _ (Obj.cells #[.int .i64 0, .int .i64 0] 27))) hz)
  have Hs := Lib.hid hs
  clear hs h h' st hz
  go_enter Try.func33, Try.ntmps33
  go_upto_region 1 with fail
  generalize ((w.alloc (Obj.cells #[.int .i64 n, .slice ad l.length cap] 24)).alloc (Obj.cells #[.int .i64 m, .slice ad' k.length cap'] 24)).alloc (Obj.cells #[.int .i64 0, .int .i64 0] 27) = w1 at *
  have cn := St.out.ts.cn
  have cs := St.out.ts.cs
  have hl1 := St.out.ts.lt
  have hl0 : w.heap.size < w1.heap.size := by omega
  have key : ∀ w4 : World, LookSt w w4 n (.slice ad l.length cap) l m (.slice ad' k.length cap') k → w4.frozen? ⟨w.heap.size + 1 + 1, 0, none⟩ = false ∧ w4.frozen? ⟨w.heap.size + 1 + 1, 1, none⟩ = false ∧ (w4.cell? ⟨w.heap.size + 1 + 1, 0, none⟩ = some (.int .i64 0)) ∧ w4.cell? ⟨w.heap.size + 1 + 1, 1, none⟩ = some (.int .i64 0) ∧ w.heap.size + 1 + 1 < w4.heap.size := fun w4 h => by
    obtain ⟨z0, z1, f0, f1, l0⟩ := row_facts h.r
    exact ⟨f0, f1, z0, z1, l0⟩
  have Key := Lib.hid key
  clear key
  rcases Hs.out with ⟨h1, h2⟩ | ⟨h1, h2, h3⟩ | ⟨h1, h2, h3, rfl, rfl⟩ | ⟨h1, h2, h3, h4, rfl, rfl⟩
  · have q : (c == 0) = false := by simpa using h2
    have H1 := Lib.hid h1
    clear h1 h2 Hs
    go_wp2_with fail
    refine (rcheck_is H1.out _ _ St.out.ts.he).mono ?_
    rintro e w2 ⟨rfl, hb2⟩
    have S2 := Lib.hid (St.out.below hb2)
    obtain ⟨f0, f1, z0, z1, l0⟩ := Key.out _ S2.out
    clear hb2
    go_wp2
    obtain ⟨e0, e1, hfin⟩ := S2.out.fin c a
    have e0 := below_cell (below1 _ (Obj.cells #[.int .i64 c, .int .i64 a] 27)) e0
    have e1 := below_cell (below1 _ (Obj.cells #[.int .i64 c, .int .i64 a] 27)) e1
    exact bodyPost_ret (v := .agg #[.int .i64 c, .int .i64 a]) (by simp [results, Try.results33, go_sem, e0, e1]) rfl ⟨rfl, upb hfin (below1 _ _)⟩
  · have q : (c == 0) = false := by simpa using h3
    have H1 := Lib.hid h1
    have H2 := Lib.hid h2
    clear h1 h2 h3 Hs
    go_wp2_with fail
    refine (rcheck_is H1.out.spec _ _ St.out.ts.he).mono ?_
    rintro e w2 ⟨rfl, hb2⟩
    have S2' := St.out.below hb2
    have S2 := Lib.hid (S2'.below (below1 w2 (Obj.cells #[.int .i64 0, .int .i64 0] 27)))
    have dm2 := S2'.ts.dm
    have dt2 := S2'.ts.dt
    have hl2 := S2'.ts.lt
    have hs2 := S2'.r.lt
    have S2 := Lib.hid S2'
    have S3 := Lib.hid (S2'.below (below1 w2 (Obj.cells #[.int .i64 0, .int .i64 0] 27)))
    clear hb2 S2'
    go_wp2_with fail
    refine (rcheck_is H2.out _ _ S3.out.ts.hf).mono ?_
    rintro e w3 ⟨rfl, hb3⟩
    have R4 := Lib.hid (row_put (VarF.pair hb3) (.int .i64 c) (.int .i64 a))
    obtain ⟨hF, hF', gF, gF', lF⟩ := row_facts (VarF.pair hb3)
    have b4 : Below w2.heap.size w2 ((w3.setCell ⟨w2.heap.size, 0, none⟩ (.int .i64 c)).setCell ⟨w2.heap.size, 1, none⟩ (.int .i64 a)) := ((upb (below1 w2 _) hb3).setCell (Nat.le_refl _) _).setCell (Nat.le_refl _) _
    have S4 := Lib.hid (S2.out.below b4)
    clear b4 hb3 S3
    go_upto_region 4 with fail
    clear hF hF' gF gF' lF dm2 dt2 hl2
    generalize (w3.setCell ⟨w2.heap.size, 0, none⟩ (.int .i64 c)).setCell ⟨w2.heap.size, 1, none⟩ (.int .i64 a) = w4 at *
    generalize w2.heap.size = F at *
    obtain ⟨f0, f1, z0, z1, l0⟩ := Key.out _ S4.out
    obtain ⟨hF, hF', gF, gF', lF⟩ := row_facts R4.out
    have cn4 := S4.out.ts.cn
    have dm4 := S4.out.ts.dm
    have nF : F ≠ w.heap.size + 1 + 1 := by omega
    have nF' : w.heap.size + 1 + 1 ≠ F := by omega
    go_wp2
    obtain ⟨e0, e1, hfin⟩ := S4.out.fin c a
    exact bodyPost_ret (v := .agg #[.int .i64 c, .int .i64 a]) (by simp [results, Try.results33, go_sem, e0, e1]) rfl ⟨rfl, hfin⟩
  all_goals
    have H1 := Lib.hid h1
    have H2 := Lib.hid h2
    clear h1 h2 Hs
    go_wp2_with fail
    refine (rcheck_is H1.out.spec _ _ St.out.ts.he).mono ?_
    rintro e w2 ⟨rfl, hb2⟩
    have S2' := St.out.below hb2
    have S2 := Lib.hid (S2'.below (below1 w2 (Obj.cells #[.int .i64 0, .int .i64 0] 27)))
    have dm2 := S2'.ts.dm
    have dt2 := S2'.ts.dt
    have hl2 := S2'.ts.lt
    have hs2 := S2'.r.lt
    have S2 := Lib.hid S2'
    have S3 := Lib.hid (S2'.below (below1 w2 (Obj.cells #[.int .i64 0, .int .i64 0] 27)))
    clear hb2 S2'
    go_wp2_with fail
    refine (rcheck_is H2.out.spec _ _ S3.out.ts.hf).mono ?_
    rintro e w3 ⟨rfl, hb3⟩
    have R4 := Lib.hid (row_put (VarF.pair hb3) (.int .i64 0) (.int .i64 0))
    obtain ⟨hF, hF', gF, gF', lF⟩ := row_facts (VarF.pair hb3)
    have b4 : Below w2.heap.size w2 ((w3.setCell ⟨w2.heap.size, 0, none⟩ (.int .i64 0)).setCell ⟨w2.heap.size, 1, none⟩ (.int .i64 0)) := ((upb (below1 w2 _) hb3).setCell (Nat.le_refl _) _).setCell (Nat.le_refl _) _
    have S4 := Lib.hid (S2.out.below b4)
    have b5 := ((b4.setCell (p := ⟨w2.heap.size, 0, none⟩) (Nat.le_refl _) (.int .i64 2)).setCell (p := ⟨w2.heap.size, 1, none⟩) (Nat.le_refl _) (.int .i64 0))
    have b5 := b5.alloc b5.size (Obj.cells #[.int .i64 2, .int .i64 0] 27)
    have S5 := Lib.hid (S2.out.below b5)
    have R5 := Lib.hid ((row_put R4.out (.int .i64 2) (.int .i64 0)).alloc (Obj.cells #[.int .i64 2, .int .i64 0] 27))
    clear b4 b5 hb3 S3
    go_upto_region 4 with fail
    clear hF hF' gF gF' lF dm2 dt2 hl2
    generalize (w3.setCell ⟨w2.heap.size, 0, none⟩ (.int .i64 0)).setCell ⟨w2.heap.size, 1, none⟩ (.int .i64 0) = w4 at *
    generalize w2.heap.size = F at *
    obtain ⟨f0, f1, z0, z1, l0⟩ := Key.out _ S4.out
    obtain ⟨hF, hF', gF, gF', lF⟩ := row_facts R4.out
    have cn4 := S4.out.ts.cn
    have dm4 := S4.out.ts.dm
    have nF : F ≠ w.heap.size + 1 + 1 := by omega
    have nF' : w.heap.size + 1 + 1 ≠ F := by omega
  · by_cases h10 : 10 < n
    all_goals
      try (have h6 : 6 < m := by omega)
      clear h3
      go_upto_region 6 with (go_at_call 18; refine (F_any _ _ _).mono ?_; rintro e wf ⟨rfl, rfl⟩)
      clear f0 f1 z0 z1 l0 hF hF' gF gF' lF
      generalize ((w4.setCell ⟨F, 0, none⟩ (.int .i64 2)).setCell ⟨F, 1, none⟩ (.int .i64 0)).alloc (Obj.cells #[.int .i64 2, .int .i64 0] 27) = w5 at *
      obtain ⟨f0, f1, z0, z1, l0⟩ := Key.out _ S5.out
      obtain ⟨hF, hF', gF, gF', lF⟩ := row_facts R5.out
      go_wp2
      obtain ⟨e0, e1, hfin⟩ := S5.out.fin 2 0
      exact bodyPost_ret (v := .agg #[.int .i64 2, .int .i64 0]) (by simp [results, Try.results33, go_sem, e0, e1]) rfl ⟨rfl, hfin⟩
  · go_wp2
    obtain ⟨e0, e1, hfin⟩ := S4.out.fin 0 0
    exact bodyPost_ret (v := .agg #[.int .i64 0, .int .i64 0]) (by simp [results, Try.results33, go_sem, e0, e1]) rfl ⟨rfl, hfin⟩

end Go.Proofs.Ytfflnpcbpcldeaa
