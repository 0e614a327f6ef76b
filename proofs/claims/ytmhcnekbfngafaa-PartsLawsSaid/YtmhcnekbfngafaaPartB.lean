/- parts.Blocks, Cuts, Bridges and Components where the graph has a fault. -/
import Derived.Test.YtmhcnekbfngafaaPartP
namespace Go.Proofs.Ytmhcnekbfngafaa
open Go.RowKit

set_option maxHeartbeats 3200000 in
set_option maxRecDepth 100000 in
theorem pblocks_bad {l : List (Int × Int)} {n c a : Int} (hs : GraphSpec n l c a) (hc : c ≠ 0) (s : Value) (w : World) (h : IsEdges w s l) :
    Calls Try.prog 27 #[.agg #[.int .i64 n, s]] w fun e w' => e = .returned (.tuple #[.slice none 0 0, .agg #[.int .i64 c, .int .i64 a]]) ∧ Below w.heap.size w w' := by
  obtain ⟨ad, cap, rfl⟩ := h.form
  have Hs := Lib.hid hs
  have q : (c != 0) = true := by simpa using hc
  have St := Lib.hid (PSt.start (n := n) h)
  clear hs h hc
  go_enter Try.func27, Try.ntmps27
  go_upto_region 1 with fail
  generalize (w.alloc (Obj.cells #[.int .i64 n, .slice ad l.length cap] 24)).alloc (Obj.cells #[.int .i64 0, .int .i64 0] 27) = w1 at *
  have cn := St.out.cn
  have cs := St.out.cs
  have hl := St.out.r.lt
  go_upto_region 2 with (go_at_call 47; refine (gcheck_is Hs.out _ _ St.out.he).mono ?_; rintro e w2 ⟨rfl, hb2⟩; have hz2 := hb2.size; have S2 := Lib.hid (St.out.below (hb2.trans ((below1 w2 (Obj.cells #[.int .i64 c, .int .i64 a] 27)).mono hb2.size))); have e01 := two_cells w2 (.int .i64 c) (.int .i64 a) 27; clear hb2)
  generalize w2.alloc (Obj.cells #[.int .i64 c, .int .i64 a] 27) = w3 at *
  obtain ⟨e0, e1⟩ := e01
  clear cn cs St
  obtain ⟨z0, z1, f0, f1, l0⟩ := row_facts S2.out.r
  have n1 : w.heap.size + 1 ≠ w2.heap.size := by omega
  generalize w2.heap.size = E at *
  go_upto_region 3 with fail
  go_region_held3 (fun w' => w'.cell? ⟨E, 0, none⟩ = some (.int .i64 c) ∧ w'.cell? ⟨E, 1, none⟩ = some (.int .i64 a)) (go_keep) (fail)
  all_goals
    go_wp2
    have d0 := (S2.out.r.set 0 (.int .i64 c)).cell (show 0 < 2 by omega)
    simp only [if_true] at d0
    have e := (S2.out.r.set 0 (.int .i64 c)).set 1 (.int .i64 a)
    have e0 := e.cell (show 0 < 2 by omega)
    have e1 := e.cell (show 1 < 2 by omega)
    simp only [if_true, show ¬ (1 : Nat) = 0 by omega, show ¬ (0 : Nat) = 1 by omega, if_false] at e0 e1
    have hfin := ((S2.out.hb).setCell (p := ⟨w.heap.size + 1, 0, none⟩) (by show w.heap.size ≤ w.heap.size + 1; omega) (.int .i64 c)).setCell (p := ⟨w.heap.size + 1, 1, none⟩) (by show w.heap.size ≤ w.heap.size + 1; omega) (.int .i64 a)
    exact bodyPost_ret (v := .tuple #[.slice none 0 0, .agg #[.int .i64 c, .int .i64 a]]) (by simp [results, Try.results27, go_sem, d0, e0, e1]) rfl ⟨rfl, hfin.drew⟩

set_option maxHeartbeats 3200000 in
set_option maxRecDepth 100000 in
theorem pcuts_bad {l : List (Int × Int)} {n c a : Int} (hs : GraphSpec n l c a) (hc : c ≠ 0) (s : Value) (w : World) (h : IsEdges w s l) :
    Calls Try.prog 33 #[.agg #[.int .i64 n, s]] w fun e w' => e = .returned (.tuple #[.slice none 0 0, .agg #[.int .i64 c, .int .i64 a]]) ∧ Below w.heap.size w w' := by
  obtain ⟨ad, cap, rfl⟩ := h.form
  have Hs := Lib.hid hs
  have q : (c != 0) = true := by simpa using hc
  have St := Lib.hid (PSt.start (n := n) h)
  clear hs h hc
  go_enter Try.func33, Try.ntmps33
  go_upto_region 1 with fail
  generalize (w.alloc (Obj.cells #[.int .i64 n, .slice ad l.length cap] 24)).alloc (Obj.cells #[.int .i64 0, .int .i64 0] 27) = w1 at *
  have cn := St.out.cn
  have cs := St.out.cs
  have hl := St.out.r.lt
  go_upto_region 2 with (go_at_call 47; refine (gcheck_is Hs.out _ _ St.out.he).mono ?_; rintro e w2 ⟨rfl, hb2⟩; have hz2 := hb2.size; have S2 := Lib.hid (St.out.below (hb2.trans ((below1 w2 (Obj.cells #[.int .i64 c, .int .i64 a] 27)).mono hb2.size))); have e01 := two_cells w2 (.int .i64 c) (.int .i64 a) 27; clear hb2)
  generalize w2.alloc (Obj.cells #[.int .i64 c, .int .i64 a] 27) = w3 at *
  obtain ⟨e0, e1⟩ := e01
  clear cn cs St
  obtain ⟨z0, z1, f0, f1, l0⟩ := row_facts S2.out.r
  have n1 : w.heap.size + 1 ≠ w2.heap.size := by omega
  generalize w2.heap.size = E at *
  go_upto_region 3 with fail
  go_region_held3 (fun w' => w'.cell? ⟨E, 0, none⟩ = some (.int .i64 c) ∧ w'.cell? ⟨E, 1, none⟩ = some (.int .i64 a)) (go_keep) (fail)
  all_goals
    go_wp2
    have d0 := (S2.out.r.set 0 (.int .i64 c)).cell (show 0 < 2 by omega)
    simp only [if_true] at d0
    have e := (S2.out.r.set 0 (.int .i64 c)).set 1 (.int .i64 a)
    have e0 := e.cell (show 0 < 2 by omega)
    have e1 := e.cell (show 1 < 2 by omega)
    simp only [if_true, show ¬ (1 : Nat) = 0 by omega, show ¬ (0 : Nat) = 1 by omega, if_false] at e0 e1
    have hfin := ((S2.out.hb).setCell (p := ⟨w.heap.size + 1, 0, none⟩) (by show w.heap.size ≤ w.heap.size + 1; omega) (.int .i64 c)).setCell (p := ⟨w.heap.size + 1, 1, none⟩) (by show w.heap.size ≤ w.heap.size + 1; omega) (.int .i64 a)
    exact bodyPost_ret (v := .tuple #[.slice none 0 0, .agg #[.int .i64 c, .int .i64 a]]) (by simp [results, Try.results33, go_sem, d0, e0, e1]) rfl ⟨rfl, hfin.drew⟩

set_option maxHeartbeats 3200000 in
set_option maxRecDepth 100000 in
theorem pbridges_bad {l : List (Int × Int)} {n c a : Int} (hs : GraphSpec n l c a) (hc : c ≠ 0) (s : Value) (w : World) (h : IsEdges w s l) :
    Calls Try.prog 32 #[.agg #[.int .i64 n, s]] w fun e w' => e = .returned (.tuple #[.slice none 0 0, .agg #[.int .i64 c, .int .i64 a]]) ∧ Below w.heap.size w w' := by
  obtain ⟨ad, cap, rfl⟩ := h.form
  have Hs := Lib.hid hs
  have q : (c != 0) = true := by simpa using hc
  have St := Lib.hid (PSt.start (n := n) h)
  clear hs h hc
  go_enter Try.func32, Try.ntmps32
  go_upto_region 1 with fail
  generalize (w.alloc (Obj.cells #[.int .i64 n, .slice ad l.length cap] 24)).alloc (Obj.cells #[.int .i64 0, .int .i64 0] 27) = w1 at *
  have cn := St.out.cn
  have cs := St.out.cs
  have hl := St.out.r.lt
  go_upto_region 2 with (go_at_call 47; refine (gcheck_is Hs.out _ _ St.out.he).mono ?_; rintro e w2 ⟨rfl, hb2⟩; have hz2 := hb2.size; have S2 := Lib.hid (St.out.below (hb2.trans ((below1 w2 (Obj.cells #[.int .i64 c, .int .i64 a] 27)).mono hb2.size))); have e01 := two_cells w2 (.int .i64 c) (.int .i64 a) 27; clear hb2)
  generalize w2.alloc (Obj.cells #[.int .i64 c, .int .i64 a] 27) = w3 at *
  obtain ⟨e0, e1⟩ := e01
  clear cn cs St
  obtain ⟨z0, z1, f0, f1, l0⟩ := row_facts S2.out.r
  have n1 : w.heap.size + 1 ≠ w2.heap.size := by omega
  generalize w2.heap.size = E at *
  go_upto_region 3 with fail
  go_region_held3 (fun w' => w'.cell? ⟨E, 0, none⟩ = some (.int .i64 c) ∧ w'.cell? ⟨E, 1, none⟩ = some (.int .i64 a)) (go_keep) (fail)
  all_goals
    go_wp2
    have d0 := (S2.out.r.set 0 (.int .i64 c)).cell (show 0 < 2 by omega)
    simp only [if_true] at d0
    have e := (S2.out.r.set 0 (.int .i64 c)).set 1 (.int .i64 a)
    have e0 := e.cell (show 0 < 2 by omega)
    have e1 := e.cell (show 1 < 2 by omega)
    simp only [if_true, show ¬ (1 : Nat) = 0 by omega, show ¬ (0 : Nat) = 1 by omega, if_false] at e0 e1
    have hfin := ((S2.out.hb).setCell (p := ⟨w.heap.size + 1, 0, none⟩) (by show w.heap.size ≤ w.heap.size + 1; omega) (.int .i64 c)).setCell (p := ⟨w.heap.size + 1, 1, none⟩) (by show w.heap.size ≤ w.heap.size + 1; omega) (.int .i64 a)
    exact bodyPost_ret (v := .tuple #[.slice none 0 0, .agg #[.int .i64 c, .int .i64 a]]) (by simp [results, Try.results32, go_sem, d0, e0, e1]) rfl ⟨rfl, hfin.drew⟩

set_option maxHeartbeats 3200000 in
set_option maxRecDepth 100000 in
theorem pcomponents_bad {l : List (Int × Int)} {n c a : Int} (hs : GraphSpec n l c a) (hc : c ≠ 0) (s : Value) (w : World) (h : IsEdges w s l) :
    Calls Try.prog 31 #[.agg #[.int .i64 n, s]] w fun e w' => e = .returned (.tuple #[.slice none 0 0, .agg #[.int .i64 c, .int .i64 a]]) ∧ Below w.heap.size w w' := by
  obtain ⟨ad, cap, rfl⟩ := h.form
  have Hs := Lib.hid hs
  have q : (c != 0) = true := by simpa using hc
  have St := Lib.hid (PSt.start (n := n) h)
  clear hs h hc
  go_enter Try.func31, Try.ntmps31
  go_upto_region 1 with fail
  generalize (w.alloc (Obj.cells #[.int .i64 n, .slice ad l.length cap] 24)).alloc (Obj.cells #[.int .i64 0, .int .i64 0] 27) = w1 at *
  have cn := St.out.cn
  have cs := St.out.cs
  have hl := St.out.r.lt
  go_upto_region 2 with (go_at_call 47; refine (gcheck_is Hs.out _ _ St.out.he).mono ?_; rintro e w2 ⟨rfl, hb2⟩; have hz2 := hb2.size; have S2 := Lib.hid (St.out.below (hb2.trans ((below1 w2 (Obj.cells #[.int .i64 c, .int .i64 a] 27)).mono hb2.size))); have e01 := two_cells w2 (.int .i64 c) (.int .i64 a) 27; clear hb2)
  generalize w2.alloc (Obj.cells #[.int .i64 c, .int .i64 a] 27) = w3 at *
  obtain ⟨e0, e1⟩ := e01
  clear cn cs St
  obtain ⟨z0, z1, f0, f1, l0⟩ := row_facts S2.out.r
  have n1 : w.heap.size + 1 ≠ w2.heap.size := by omega
  generalize w2.heap.size = E at *
  go_upto_region 3 with fail
  go_region_held3 (fun w' => w'.cell? ⟨E, 0, none⟩ = some (.int .i64 c) ∧ w'.cell? ⟨E, 1, none⟩ = some (.int .i64 a)) (go_keep) (fail)
  all_goals
    go_wp2
    have d0 := (S2.out.r.set 0 (.int .i64 c)).cell (show 0 < 2 by omega)
    simp only [if_true] at d0
    have e := (S2.out.r.set 0 (.int .i64 c)).set 1 (.int .i64 a)
    have e0 := e.cell (show 0 < 2 by omega)
    have e1 := e.cell (show 1 < 2 by omega)
    simp only [if_true, show ¬ (1 : Nat) = 0 by omega, show ¬ (0 : Nat) = 1 by omega, if_false] at e0 e1
    have hfin := ((S2.out.hb).setCell (p := ⟨w.heap.size + 1, 0, none⟩) (by show w.heap.size ≤ w.heap.size + 1; omega) (.int .i64 c)).setCell (p := ⟨w.heap.size + 1, 1, none⟩) (by show w.heap.size ≤ w.heap.size + 1; omega) (.int .i64 a)
    exact bodyPost_ret (v := .tuple #[.slice none 0 0, .agg #[.int .i64 c, .int .i64 a]]) (by simp [results, Try.results31, go_sem, d0, e0, e1]) rfl ⟨rfl, hfin.drew⟩

end Go.Proofs.Ytmhcnekbfngafaa
