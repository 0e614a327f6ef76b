/- graph.Line. (Printed by tools/genline.py.) -/
import Derived.Test.YtbnbhjeknocboaaLine1
namespace Go.Proofs.Ytbnbhjeknocboaa
open Go.RowKit

set_option maxHeartbeats 3200000 in
set_option maxRecDepth 100000 in
theorem line_bad {n : Int} {l : List (Int × Int)} {c a : Int} (hs : GraphSpec n l c a) (hc : c ≠ 0) (s : Value) (w : World) (h : IsEdges w s l) :
    Calls Try.prog 10 #[.agg #[.int .i64 n, s]] w (TwoPost 0 [] c a w) := by
  obtain ⟨ad, cap, rfl⟩ := h.form
  have Hs := Lib.hid hs
  have Hc := Lib.hid hc
  have q : (c != 0) = true := by simpa using hc
  have St := Lib.hid (CSt.start (n := n) h)
  clear hs hc h
  go_enter Try.func10, Try.ntmps10
  go_upto_region 1 with fail
  generalize ((w.alloc (Obj.cells #[.int .i64 n, .slice ad l.length cap] 24)).alloc (Obj.cells #[.int .i64 0, .slice none 0 0] 24)).alloc (Obj.cells #[.int .i64 0, .int .i64 0] 28) = w1 at *
  have cn := St.out.cn
  have cs := St.out.cs
  have hl1 := St.out.r1.lt
  have hl0 : w.heap.size < w1.heap.size := by omega
  go_wp2_with fail
  refine (form_bad Hs.out Hc.out _ _ St.out.he).mono ?_
  rintro e w2 ⟨v2, ho2, hb2, rfl⟩
  obtain ⟨a2, c2, rfl⟩ := ho2.form
  have e01 := two_cells (w2.alloc (Obj.cells #[.int .i64 0, .slice a2 ([] : List (Int × Int)).length c2] 24)) (.int .i64 c) (.int .i64 a) 28
  rw [World.size_alloc] at e01
  have S3' := (St.out.below hb2).below (below2 w2 (Obj.cells #[.int .i64 0, .slice a2 ([] : List (Int × Int)).length c2] 24) (Obj.cells #[.int .i64 c, .int .i64 a] 28))
  have hl2 := (St.out.below hb2).r1.lt
  clear hb2 cn cs ho2
  go_upto_region 3 with fail
  have S3 := Lib.hid S3'
  obtain ⟨z0, z1, f0, f1, l0⟩ := row_facts S3.out.r0
  obtain ⟨y0, y1, g0, g1, l1⟩ := row_facts S3.out.r1
  clear S3'
  simp only [List.length_nil] at *
  generalize (w2.alloc (Obj.cells #[.int .i64 0, .slice a2 0 c2] 24)).alloc (Obj.cells #[.int .i64 c, .int .i64 a] 28) = w3 at *
  obtain ⟨e0, e1⟩ := e01
  have n1 : w.heap.size + 1 ≠ w2.heap.size + 1 := by omega
  have n2 : w.heap.size + 1 + 1 ≠ w2.heap.size + 1 := by omega
  have n3 : w.heap.size + 1 ≠ w.heap.size + 1 + 1 := by omega
  generalize w2.heap.size + 1 = E at *
  go_region_held3 (fun w' => w'.cell? ⟨E, 0, none⟩ = some (.int .i64 c) ∧ w'.cell? ⟨E, 1, none⟩ = some (.int .i64 a)) (go_keep) (fail)
  all_goals have SD := S3.out
  all_goals obtain ⟨c0, c1, c2, c3⟩ := four_set SD.r0 SD.r1 (show w.heap.size + 1 ≠ w.heap.size + 1 + 1 by omega) (.int .i64 0) (.slice none 0 0) (.int .i64 c) (.int .i64 a)
  all_goals have hfin := four_below SD.hb (show w.heap.size ≤ w.heap.size + 1 by omega) (show w.heap.size ≤ w.heap.size + 1 + 1 by omega) (.int .i64 0) (.slice none 0 0) (.int .i64 c) (.int .i64 a)
  all_goals
    go_wp2
    exact bodyPost_ret (v := .tuple #[.agg #[.int .i64 0, .slice none 0 0], .agg #[.int .i64 c, .int .i64 a]]) (by simp [results, Try.results10, go_sem, c0, c1, c2, c3]) rfl ⟨_, OwnE.nil _ _, hfin.drew, rfl⟩

set_option maxHeartbeats 3200000 in
set_option maxRecDepth 100000 in
theorem line_many {l : List (Int × Int)} {N : Nat} (hgood : GoodGraph N l) (hmany : 100 < (formL N l).length) (s : Value) (w : World) (h : IsEdges w s l) :
    Calls Try.prog 10 #[.agg #[.int .i64 (N : Int), s]] w (TwoPost 0 [] 2 0 w) := by
  obtain ⟨ad, cap, rfl⟩ := h.form
  have Hgood := Lib.hid hgood
  have hlen : (formL N l).length ≤ 1000 := by have := form_length hgood; have := hgood.len; unfold formL; omega
  have St := Lib.hid (CSt.start (n := (N : Int)) h)
  clear hgood h
  go_enter Try.func10, Try.ntmps10
  go_upto_region 1 with fail
  generalize ((w.alloc (Obj.cells #[.int .i64 (N : Int), .slice ad l.length cap] 24)).alloc (Obj.cells #[.int .i64 0, .slice none 0 0] 24)).alloc (Obj.cells #[.int .i64 0, .int .i64 0] 28) = w1 at *
  have cn := St.out.cn
  have cs := St.out.cs
  have hl1 := St.out.r1.lt
  have hl0 : w.heap.size < w1.heap.size := by omega
  go_wp2_with fail
  refine (form_ok Hgood.out _ _ St.out.he).mono ?_
  rintro e w2 ⟨v2, ho2, hb2, rfl⟩
  generalize hL : formL N l = L at *
  obtain ⟨a2, c2, rfl⟩ := ho2.form
  have S3' := (St.out.below hb2).below (below2 w2 (Obj.cells #[.int .i64 (N : Int), .slice a2 L.length c2] 24) (Obj.cells #[.int .i64 0, .int .i64 0] 28))
  have he3 := ho2.edges.below (below2 w2 (Obj.cells #[.int .i64 (N : Int), .slice a2 L.length c2] 24) (Obj.cells #[.int .i64 0, .int .i64 0] 28))
  have e01 := two_cells w2 (.int .i64 (N : Int)) (.slice a2 L.length c2) 24
  have x1 := below_cell (below1 (w2.alloc (Obj.cells #[.int .i64 (N : Int), .slice a2 L.length c2] 24)) (Obj.cells #[.int .i64 0, .int .i64 0] 28)) e01.2
  have hzE : w2.heap.size < ((w2.alloc (Obj.cells #[.int .i64 (N : Int), .slice a2 L.length c2] 24)).alloc (Obj.cells #[.int .i64 0, .int .i64 0] 28)).heap.size := by simp; omega
  have hl2 := (St.out.below hb2).r1.lt
  clear hb2 cn cs ho2 e01
  go_upto_region 4 with fail
  have S3 := Lib.hid S3'
  have He3 := Lib.hid he3
  obtain ⟨z0, z1, f0, f1, l0⟩ := row_facts S3.out.r0
  obtain ⟨y0, y1, g0, g1, l1⟩ := row_facts S3.out.r1
  clear S3' he3
  generalize (w2.alloc (Obj.cells #[.int .i64 (N : Int), .slice a2 L.length c2] 24)).alloc (Obj.cells #[.int .i64 0, .int .i64 0] 28) = w3 at *
  generalize w2.heap.size = E at *
  go_wp2_with (go_at_call 37; refine (gfault_any _ _ _).mono ?_; rintro e wf ⟨rfl, rfl⟩)
  obtain ⟨e0, e1, e2, e3⟩ := four_set S3.out.r0 S3.out.r1 (show w.heap.size + 1 ≠ w.heap.size + 1 + 1 by omega) (.int .i64 0) (.slice none 0 0) (.int .i64 2) (.int .i64 0)
  have hfin := four_below S3.out.hb (show w.heap.size ≤ w.heap.size + 1 by omega) (show w.heap.size ≤ w.heap.size + 1 + 1 by omega) (.int .i64 0) (.slice none 0 0) (.int .i64 2) (.int .i64 0)
  have c0 := below_cell (below1 _ (Obj.cells #[Value.int .i64 2, .int .i64 0] 28)) e0
  have c1 := below_cell (below1 _ (Obj.cells #[Value.int .i64 2, .int .i64 0] 28)) e1
  have c2 := below_cell (below1 _ (Obj.cells #[Value.int .i64 2, .int .i64 0] 28)) e2
  have c3 := below_cell (below1 _ (Obj.cells #[Value.int .i64 2, .int .i64 0] 28)) e3
  exact bodyPost_ret (v := .tuple #[.agg #[.int .i64 0, .slice none 0 0], .agg #[.int .i64 2, .int .i64 0]]) (by simp [results, Try.results10, go_sem, c0, c1, c2, c3]) rfl ⟨_, OwnE.nil _ _, hfin.alloc hfin.size _, rfl⟩

theorem eg_line : ∀ args w, (callFunc 38 args).run Try.prog w = .ok (.enter 38 args) w := enters_of Try.func38 (by kernel_rfl) rfl

set_option maxHeartbeats 3200000 in
set_option maxRecDepth 100000 in
theorem line_ok {l : List (Int × Int)} {N : Nat} (hgood : GoodGraph N l) (hfew : (formL N l).length ≤ 100) {N' : Int} {L' : List (Int × Int)} {c' : Int} (hr : PairsRes (formL N l).length (share (formL N l)) N' L' c') (s : Value) (w : World) (h : IsEdges w s l) :
    Calls Try.prog 10 #[.agg #[.int .i64 (N : Int), s]] w (TwoPost N' L' c' 0 w) := by
  obtain ⟨ad, cap, rfl⟩ := h.form
  have Hgood := Lib.hid hgood
  have Hr := Lib.hid hr
  have St := Lib.hid (CSt.start (n := (N : Int)) h)
  clear hgood h hr
  go_enter Try.func10, Try.ntmps10
  go_upto_region 1 with fail
  generalize ((w.alloc (Obj.cells #[.int .i64 (N : Int), .slice ad l.length cap] 24)).alloc (Obj.cells #[.int .i64 0, .slice none 0 0] 24)).alloc (Obj.cells #[.int .i64 0, .int .i64 0] 28) = w1 at *
  have cn := St.out.cn
  have cs := St.out.cs
  have hl1 := St.out.r1.lt
  have hl0 : w.heap.size < w1.heap.size := by omega
  go_wp2_with fail
  refine (form_ok Hgood.out _ _ St.out.he).mono ?_
  rintro e w2 ⟨v2, ho2, hb2, rfl⟩
  generalize hL : formL N l = L at *
  obtain ⟨a2, c2, rfl⟩ := ho2.form
  have S3' := (St.out.below hb2).below (below2 w2 (Obj.cells #[.int .i64 (N : Int), .slice a2 L.length c2] 24) (Obj.cells #[.int .i64 0, .int .i64 0] 28))
  have he3 := ho2.edges.below (below2 w2 (Obj.cells #[.int .i64 (N : Int), .slice a2 L.length c2] 24) (Obj.cells #[.int .i64 0, .int .i64 0] 28))
  have e01 := two_cells w2 (.int .i64 (N : Int)) (.slice a2 L.length c2) 24
  have x1 := below_cell (below1 (w2.alloc (Obj.cells #[.int .i64 (N : Int), .slice a2 L.length c2] 24)) (Obj.cells #[.int .i64 0, .int .i64 0] 28)) e01.2
  have hzE : w2.heap.size < ((w2.alloc (Obj.cells #[.int .i64 (N : Int), .slice a2 L.length c2] 24)).alloc (Obj.cells #[.int .i64 0, .int .i64 0] 28)).heap.size := by simp; omega
  have hl2 := (St.out.below hb2).r1.lt
  clear hb2 cn cs ho2 e01
  go_upto_region 4 with fail
  have S3 := Lib.hid S3'
  have He3 := Lib.hid he3
  obtain ⟨z0, z1, f0, f1, l0⟩ := row_facts S3.out.r0
  obtain ⟨y0, y1, g0, g1, l1⟩ := row_facts S3.out.r1
  clear S3' he3
  generalize (w2.alloc (Obj.cells #[.int .i64 (N : Int), .slice a2 L.length c2] 24)).alloc (Obj.cells #[.int .i64 0, .int .i64 0] 28) = w3 at *
  generalize w2.heap.size = E at *
  go_wp2_with (go_at_call 35; refine (from_is Hr.out 38 #[.pointer (some ⟨E, 0, none⟩)] _ eg_line hfew (fun W i j hij hj hbW => line1_any W (below_cell hbW x1) (He3.out.below hbW) (by omega) hj)).mono ?_; rintro e w4 ⟨v4, ho4, hb4, rfl⟩; obtain ⟨a4, c4, rfl⟩ := ho4.form; have S4 := Lib.hid (S3.out.below hb4); obtain ⟨p0, p1, pf0, pf1, pl0⟩ := row_facts S4.out.r0; obtain ⟨r0, r1, rg0, rg1, rl1⟩ := row_facts S4.out.r1; have Ho4 := Lib.hid ho4; clear hb4 ho4)
  obtain ⟨e0, e1, e2, e3⟩ := four_set S4.out.r0 S4.out.r1 (show w.heap.size + 1 ≠ w.heap.size + 1 + 1 by omega) (.int .i64 N') (.slice a4 L'.length c4) (.int .i64 c') (.int .i64 0)
  have hfin := four_below S4.out.hb (show w.heap.size ≤ w.heap.size + 1 by omega) (show w.heap.size ≤ w.heap.size + 1 + 1 by omega) (.int .i64 N') (.slice a4 L'.length c4) (.int .i64 c') (.int .i64 0)
  have hoe := ((((Ho4.out.set (show w.heap.size + 1 < _ from l0) 0 (.int .i64 N')).set (show w.heap.size + 1 < _ from l0) 1 (.slice a4 L'.length c4)).set l1 0 (.int .i64 c')).set l1 1 (.int .i64 0)).low (show w.heap.size ≤ _ by omega)
  exact bodyPost_ret (v := .tuple #[.agg #[.int .i64 N', .slice a4 L'.length c4], .agg #[.int .i64 c', .int .i64 0]]) (by simp [results, Try.results10, go_sem, e0, e1, e2, e3]) rfl ⟨_, hoe, hfin, rfl⟩

end Go.Proofs.Ytbnbhjeknocboaa
