/- arborlaw.smallFault: is it a graph, and a small one? -/
import Derived.Test.YtnhhohhhpaejmaaPF
namespace Go.Proofs.Ytnhhohhhpaejmaa
open Go.RowKit

set_option maxHeartbeats 3200000 in
set_option maxRecDepth 100000 in
theorem smallFault_any (n m : Int) (l : List (Int × Int)) (sv : Value) (w : World) (h : IsEdges w sv l) :
    Calls Try.prog 15 #[.agg #[.int .i64 n, sv], .int .i64 m] w (Faulty (SmallSpec n l m) w) := by
  obtain ⟨ad, cap, rfl⟩ : ∃ ad cap, sv = .slice ad l.length cap := by
    obtain ⟨a, c, _, _, rfl, _⟩ := h
    exact ⟨a, c, rfl⟩
  have hg := GRes.start w n (.slice ad l.length cap)
  have He := Lib.hid h; have Hg := Lib.hid hg
  have cn := hg.cn
  have cs := hg.cs
  clear h hg
  go_enter Try.func15, Try.ntmps15
  go_upto_region 1 with fail
  generalize (w.alloc (Obj.cells #[.int .i64 n, .slice ad l.length cap] 24)).alloc (Obj.cells #[Value.int IntKind.i64 0, Value.int IntKind.i64 0] 27) = w1 at *
  go_upto_region 2 with (go_at_call 8; refine (rcheck_any l n _ w1 (He.out.below Hg.out.hb)).mono ?_; rintro e w2 ⟨c, a, hsp, rfl, hb2⟩; have Hsp := Lib.hid hsp; have H3 := Lib.hid (Hg.out.below (upc hb2 (below1 w2 (Obj.cells #[.int .i64 c, .int .i64 a] 27)))); have F3 := Lib.hid (FV.new w2 c a); have lF := (Hg.out.below hb2).hz.lt; clear hsp hb2)
  generalize w2.alloc (Obj.cells #[.int .i64 c, .int .i64 a] 27) = w3 at *
  generalize w2.heap.size = F at *
  clear cn cs Hg
  have cn := H3.out.cn
  have b0 := H3.out.hz.cell (show 0 < 2 by omega)
  have b1 := H3.out.hz.cell (show 1 < 2 by omega)
  have d0 := H3.out.hz.frozen 0
  have d1 := H3.out.hz.frozen 1
  have hBl := H3.out.hz.lt
  have hAB := H3.out.hA
  obtain ⟨f0, f1, g0, g1, lf⟩ := F3.out.facts
  by_cases hc : c = 0
  · subst hc
    obtain rfl := spec_zero Hsp.out
    by_cases hn : m < n
    · have Hn := Lib.hid hn
      go_wp2_with (go_at_call 21; refine (F_any _ _ _).mono ?_; rintro e wf ⟨rfl, rfl⟩)
      have H5 := (H3.out.setOff lF 0 (.int .i64 2)).setOff lF 1 (.int .i64 0)
      obtain ⟨e0, e1, e2⟩ := H5.putA (.int .i64 2) (.int .i64 0) (Obj.cells #[Value.int .i64 2, .int .i64 0] 27)
      exact bodyPost_ret (v := .agg #[.int .i64 2, .int .i64 0]) (by simp [results, Try.results15, go_sem, e0, e1]) rfl ⟨2, 0, Or.inr ⟨Hsp.out, Or.inl ⟨Hn.out, rfl, rfl⟩⟩, rfl, e2⟩
    · have hn2 : n ≤ m := by omega
      have Hn := Lib.hid hn2
      clear hn
      go_wp2
      obtain ⟨e0, e1, e2⟩ := H3.out.put (.int .i64 0) (.int .i64 0)
      exact bodyPost_ret (v := .agg #[.int .i64 0, .int .i64 0]) (by simp [results, Try.results15, go_sem, e0, e1]) rfl ⟨0, 0, Or.inr ⟨Hsp.out, Or.inr ⟨Hn.out, rfl, rfl⟩⟩, rfl, e2⟩
  · have q : (c == 0) = false := by simp [hc]
    have Hc := Lib.hid hc
    clear hc
    go_wp2
    obtain ⟨e0, e1, e2⟩ := H3.out.put (.int .i64 c) (.int .i64 a)
    exact bodyPost_ret (v := .agg #[.int .i64 c, .int .i64 a]) (by simp [results, Try.results15, go_sem, e0, e1]) rfl ⟨c, a, Or.inl ⟨Hsp.out, Hc.out⟩, rfl, e2⟩

end Go.Proofs.Ytnhhohhhpaejmaa
