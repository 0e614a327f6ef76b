/- flow.look: is it a graph, and are these two of its nodes? -/
import Derived.Test.YtbnbhjeknocboaaTreeM
import Derived.Test.YtbnbhjeknocboaaEnds
namespace Go.Proofs.Ytbnbhjeknocboaa
open Go.RowKit

/-- What is wrong with a graph and two nodes. -/
def LookSpec (n : Int) (l : List (Int × Int)) (s t : Int) (c a : Int) : Prop := (GraphSpec n l c a ∧ c ≠ 0) ∨ (GraphSpec n l 0 0 ∧ EndsSpec n s t c a)
theorem LookSpec.uniq {n : Int} {l : List (Int × Int)} {s t c a c' a' : Int} (h : LookSpec n l s t c a) (h' : LookSpec n l s t c' a') : c = c' ∧ a = a' := by
  rcases h with ⟨h1, h2⟩ | ⟨h1, h2⟩ <;> rcases h' with ⟨h1', h2'⟩ | ⟨h1', h2'⟩
  · exact h1.uniq h1'
  · exact absurd (h1.uniq h1').1 h2
  · exact absurd (h1'.uniq h1).1 h2'
  · exact h2.uniq h2'

set_option maxHeartbeats 3200000 in
set_option maxRecDepth 100000 in
theorem lookF_any (n s t : Int) (l : List (Int × Int)) (sv : Value) (w : World) (h : IsEdges w sv l) :
    Calls Try.prog 41 #[.agg #[.int .i64 n, sv], .int .i64 s, .int .i64 t] w (Faulty (LookSpec n l s t) w) := by
  obtain ⟨ad, cap, rfl⟩ : ∃ ad cap, sv = .slice ad l.length cap := by
    obtain ⟨a, c, _, _, rfl, _⟩ := h
    exact ⟨a, c, rfl⟩
  have hg := (GRes.start w n (.slice ad l.length cap)).zero
  have He := Lib.hid h; have Hg := Lib.hid hg
  obtain ⟨cn, cs, b0, b1, d0, d1, hBl, hAB⟩ := hg.facts
  clear h hg
  go_enter Try.func41, Try.ntmps41
  go_upto_region 1 with fail
  generalize (w.alloc (Obj.cells #[.int .i64 n, .slice ad l.length cap] 24)).alloc (Obj.cells #[Value.int IntKind.i64 0, Value.int IntKind.i64 0] 28) = w1 at *
  go_upto_region 2 with (go_at_call 32; refine (gcheck_any l n _ w1 (He.out.below Hg.out.hb)).mono ?_; rintro e w2 ⟨c, a, hsp, rfl, hb2⟩; have Hsp := Lib.hid hsp; have H3 := Lib.hid (Hg.out.below (upt hb2 (below1 w2 (Obj.cells #[.int .i64 c, .int .i64 a] 28)))); have F3 := Lib.hid (FV.new w2 c a); clear hsp hb2)
  generalize w2.alloc (Obj.cells #[.int .i64 c, .int .i64 a] 28) = w3 at *
  generalize w2.heap.size = F at *
  clear cn cs b0 b1 d0 d1 hBl hAB Hg
  obtain ⟨cn, cs, b0, b1, d0, d1, hBl, hAB⟩ := H3.out.facts
  obtain ⟨f0, f1, -, -, -⟩ := F3.out.facts
  by_cases hc : c = 0
  · subst hc
    obtain ⟨rfl, -⟩ := tree_good Hsp.out
    go_upto_region 4 with fail
    clear f0 f1 F3
    go_wp2_with (go_at_call 52; refine (fends_any n s t _).mono ?_; rintro e w4 ⟨c, a, hsp2, rfl, hb4⟩; have Hsp2 := Lib.hid hsp2; have H4 := Lib.hid (H3.out.below hb4); obtain ⟨cn, cs, b0, b1, d0, d1, hBl, hAB⟩ := (H3.out.below hb4).facts; clear hsp2 hb4)
    obtain ⟨e0, e1, e2⟩ := H4.out.res c a
    exact bodyPost_ret (v := .agg #[.int .i64 c, .int .i64 a]) (by simp [results, Try.results41, go_sem, e0, e1]) rfl ⟨c, a, Or.inr ⟨Hsp.out, Hsp2.out⟩, rfl, e2⟩
  · have q : (c != 0) = true := by simp [hc]
    have Hc := Lib.hid hc
    clear hc
    go_wp2
    obtain ⟨e0, e1, e2⟩ := H3.out.res c a
    exact bodyPost_ret (v := .agg #[.int .i64 c, .int .i64 a]) (by simp [results, Try.results41, go_sem, e0, e1]) rfl ⟨c, a, Or.inl ⟨Hsp.out, Hc.out⟩, rfl, e2⟩

end Go.Proofs.Ytbnbhjeknocboaa
