/- graph.Form. (Printed by tools/genform.py, and split.) -/
import Derived.Test.YtnhhohhhpaejmaaMake
import Derived.Test.YtnhhohhhpaejmaaPD
import Derived.Deep.RegionHeld3
namespace Go.Proofs.Ytnhhohhhpaejmaa
open Go.RowKit

set_option maxHeartbeats 3200000 in
set_option maxRecDepth 100000 in
theorem form_bad {n : Int} {l : List (Int × Int)} {c a : Int} (hs : GraphSpec n l c a) (hc : c ≠ 0) (s : Value) (w : World) (h : IsEdges w s l) :
    Calls Try.prog 42 #[.agg #[.int .i64 n, s]] w (TwoPost 0 [] c a w) := by
  obtain ⟨ad, cap, rfl⟩ := h.form
  have Hs := Lib.hid hs
  have q : (c != 0) = true := by simpa using hc
  have St := Lib.hid (CSt.start (n := n) h)
  clear hs hc h
  go_enter Try.func42, Try.ntmps42
  go_upto_region 1 with fail
  generalize ((w.alloc (Obj.cells #[.int .i64 n, .slice ad l.length cap] 24)).alloc (Obj.cells #[.int .i64 0, .slice none 0 0] 24)).alloc (Obj.cells #[.int .i64 0, .int .i64 0] 27) = w1 at *
  have cn := St.out.cn
  have cs := St.out.cs
  have hl1 := St.out.r1.lt
  have hl0 : w.heap.size < w1.heap.size := by omega
  go_wp2_with fail
  refine (gcheck_is Hs.out _ _ St.out.he).mono ?_
  rintro e w2 ⟨rfl, hb2⟩
  have e01 := two_cells w2 (.int .i64 c) (.int .i64 a) 27
  have S3' := (St.out.below hb2).below (below1 w2 (Obj.cells #[.int .i64 c, .int .i64 a] 27))
  have hl2 := (St.out.below hb2).r1.lt
  clear hb2 cn cs
  go_wp2_with fail
  have S3 := Lib.hid S3'
  obtain ⟨z0, z1, f0, f1, l0⟩ := row_facts S3.out.r0
  obtain ⟨y0, y1, g0, g1, l1⟩ := row_facts S3.out.r1
  clear S3'
  generalize w2.alloc (Obj.cells #[.int .i64 c, .int .i64 a] 27) = w3 at *
  obtain ⟨e0, e1⟩ := e01
  have n1 : w.heap.size + 1 ≠ w2.heap.size := by omega
  have n2 : w.heap.size + 1 + 1 ≠ w2.heap.size := by omega
  have n3 : w.heap.size + 1 ≠ w.heap.size + 1 + 1 := by omega
  generalize w2.heap.size = E at *
  go_region_held3 (fun w' => w'.cell? ⟨E, 0, none⟩ = some (.int .i64 c) ∧ w'.cell? ⟨E, 1, none⟩ = some (.int .i64 a)) (go_keep) (fail)
  all_goals have SD := S3.out
  all_goals obtain ⟨c0, c1, c2, c3⟩ := four_set SD.r0 SD.r1 (show w.heap.size + 1 ≠ w.heap.size + 1 + 1 by omega) (.int .i64 0) (.slice none 0 0) (.int .i64 c) (.int .i64 a)
  all_goals have hfin := four_below SD.hb (show w.heap.size ≤ w.heap.size + 1 by omega) (show w.heap.size ≤ w.heap.size + 1 + 1 by omega) (.int .i64 0) (.slice none 0 0) (.int .i64 c) (.int .i64 a)
  all_goals
    go_wp2
    exact bodyPost_ret (v := .tuple #[.agg #[.int .i64 0, .slice none 0 0], .agg #[.int .i64 c, .int .i64 a]]) (by simp [results, Try.results42, go_sem, c0, c1, c2, c3]) rfl ⟨_, OwnE.nil _ _, hfin.drew, rfl⟩

/-- A graph in form. -/
abbrev formL (N : Nat) (l : List (Int × Int)) : List (Int × Int) := prsTo N (adj l) N

set_option maxHeartbeats 3200000 in
set_option maxRecDepth 100000 in
theorem form_ok {l : List (Int × Int)} {N : Nat} (hgood : GoodGraph N l) (s : Value) (w : World) (h : IsEdges w s l) :
    Calls Try.prog 42 #[.agg #[.int .i64 (N : Int), s]] w (TwoPost N (formL N l) 0 0 w) := by
  unfold formL
  obtain ⟨ad, cap, rfl⟩ := h.form
  have Hgood := Lib.hid hgood
  have hlen := hgood.len
  have St := Lib.hid (CSt.start (n := (N : Int)) h)
  clear hgood h
  go_enter Try.func42, Try.ntmps42
  go_upto_region 1 with fail
  generalize ((w.alloc (Obj.cells #[.int .i64 (N : Int), .slice ad l.length cap] 24)).alloc (Obj.cells #[.int .i64 0, .slice none 0 0] 24)).alloc (Obj.cells #[.int .i64 0, .int .i64 0] 27) = w1 at *
  have cn := St.out.cn
  have cs := St.out.cs
  have hA := St.out.r1.lt
  have hB : w.heap.size < w1.heap.size := by omega
  go_wp2_with (first
    | (go_at_call 29; (refine (gcheck_is Hgood.out.spec _ _ St.out.he).mono ?_; rintro e w2 ⟨rfl, hb2⟩; have S2 := Lib.hid (St.out.below hb2); have cn2 := S2.out.cn; have cs2 := S2.out.cs; have hA2 := S2.out.r1.lt; have hB2 := Nat.lt_trans (Nat.lt_trans (Nat.lt_succ_self _) (Nat.lt_succ_self _)) hA2; clear hb2))
    | (go_at_call 61; refine (make_any l (N : Int) _ _ (S2.out.he.below (below1 _ _)) (Nat.le_trans hlen (by decide))).mono ?_; rintro e w4 ⟨v4, L4, ho4, hb4, rfl, hp4, hr4⟩; obtain rfl := form_is_prs Hgood.out hp4 hr4; obtain ⟨a4, c4, rfl⟩ := ho4.form; have S4 := Lib.hid ((S2.out.below (below1 _ _)).below hb4); obtain ⟨z0, z1, f0, f1, l0⟩ := row_facts S4.out.r0; obtain ⟨y0, y1, g0, g1, l1⟩ := row_facts S4.out.r1; have Ho4 := Lib.hid ho4; have Hb4 := Lib.hid hb4; clear hb4 ho4 hp4 hr4))
  generalize prsTo N (adj l) N = L' at *
  obtain ⟨e0, e1, e2, e3⟩ := four_set S4.out.r0 S4.out.r1 (show w.heap.size + 1 ≠ w.heap.size + 1 + 1 by omega) (.int .i64 N) (.slice a4 L'.length c4) (.int .i64 0) (.int .i64 0)
  have hfin := four_below S4.out.hb (show w.heap.size ≤ w.heap.size + 1 by omega) (show w.heap.size ≤ w.heap.size + 1 + 1 by omega) (.int .i64 N) (.slice a4 L'.length c4) (.int .i64 0) (.int .i64 0)
  have hlow : w.heap.size + 1 + 1 < (w2.alloc (Obj.cells #[.int .i64 0, .int .i64 0] 27)).heap.size := by rw [World.size_alloc]; omega
  have hoe := ((((Ho4.out.set (show w.heap.size + 1 < _ from Nat.lt_trans (by omega) hlow) 0 (.int .i64 N)).set (show w.heap.size + 1 < _ from Nat.lt_trans (by omega) hlow) 1 (.slice a4 L'.length c4)).set hlow 0 (.int .i64 0)).set hlow 1 (.int .i64 0)).low (show w.heap.size ≤ _ by omega)
  exact bodyPost_ret (v := .tuple #[.agg #[.int .i64 N, .slice a4 L'.length c4], .agg #[.int .i64 0, .int .i64 0]]) (by simp [results, Try.results42, go_sem, e0, e1, e2, e3]) rfl ⟨_, hoe, hfin, rfl⟩

end Go.Proofs.Ytnhhohhhpaejmaa
