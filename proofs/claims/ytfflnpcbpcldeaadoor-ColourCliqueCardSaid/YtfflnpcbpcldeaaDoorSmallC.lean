/- colour.small, arborlaw.smallFault: is it a graph, and a small one? -/
import Derived.Test.YtfflnpcbpcldeaaDoorFVar
import Derived.Test.YtfflnpcbpcldeaaDoorGCheck
import Derived.Test.YtfflnpcbpcldeaaDoorFree
import Derived.WalkArith
namespace Go.Proofs.YtfflnpcbpcldeaaDoor
open Go.RowKit

/-- What is wrong with a graph that has to be small. -/
def SmallSpec (n : Int) (l : List (Int × Int)) (m : Int) (c a : Int) : Prop := (GraphSpec n l c a ∧ c ≠ 0) ∨ (GraphSpec n l 0 0 ∧ ((m < n ∧ c = 2 ∧ a = 0) ∨ (n ≤ m ∧ c = 0 ∧ a = 0)))
theorem SmallSpec.uniq {n : Int} {l : List (Int × Int)} {m c a c' a' : Int} (h : SmallSpec n l m c a) (h' : SmallSpec n l m c' a') : c = c' ∧ a = a' := by
  rcases h with ⟨h1, h2⟩ | ⟨h1, h2⟩ <;> rcases h' with ⟨h1', h2'⟩ | ⟨h1', h2'⟩
  · exact h1.uniq h1'
  · exact absurd (h1.uniq h1').1 h2
  · exact absurd (h1'.uniq h1).1 h2'
  · omega
theorem spec_zero {n : Int} {l : List (Int × Int)} {a : Int} (h : GraphSpec n l 0 a) : a = 0 := by
  rcases h with ⟨_, h, _⟩ | ⟨_, ⟨_, _, _, hw, _⟩ | ⟨_, _, h⟩⟩
  · cases h
  · exact absurd rfl hw.ne0
  · exact h
theorem upc {a b c : World} (h : Below a.heap.size a b) (k : Below b.heap.size b c) : Below a.heap.size a c := h.trans (k.mono h.size)
theorem GRes.setOff {w wr : World} {A B F : Nat} {n : Int} {s : Value} (h : GRes w wr A B n s) (hF : B < F) (k : Nat) (x : Value) : GRes w (wr.setCell ⟨F, k, none⟩ x) A B n s := by
  have hA := h.hA
  have hB := h.hB
  refine ⟨h.hb.setCell (show w.heap.size ≤ F by omega) _, ?_, ?_, h.hz.setOther (a := ⟨F, k, none⟩) (show B ≠ F by omega) x, h.hB, h.hA⟩
  · rw [World.cell?_setCell_far _ _ _ _ (show F ≠ A by omega)]; exact h.cn
  · rw [World.cell?_setCell_far _ _ _ _ (show F ≠ A by omega)]; exact h.cs
theorem cfault_any (c a : Int) (w : World) :
    Calls Tryd.prog 31 #[.int .i64 c, .int .i64 a] w fun e w' => e = .returned (.agg #[.int .i64 c, .int .i64 a]) ∧ w.alloc (.cells #[.int .i64 c, .int .i64 a] 27) = w' := by
  go_enter Tryd.func31, Tryd.ntmps31
  go_wp2
  exact bodyPost_ret (v := .agg #[.int .i64 c, .int .i64 a]) (by simp [results, Tryd.results31, go_sem]) rfl ⟨rfl, rfl⟩

set_option maxHeartbeats 3200000 in
set_option maxRecDepth 100000 in
theorem small_c (n : Int) (l : List (Int × Int)) (sv : Value) (w : World) (h : IsEdges w sv l) :
    Calls Tryd.prog 23 #[.agg #[.int .i64 n, sv]] w (Faulty (SmallSpec n l 12) w) := by
  obtain ⟨ad, cap, rfl⟩ : ∃ ad cap, sv = .slice ad l.length cap := by
    obtain ⟨a, c, _, _, rfl, _⟩ := h
    exact ⟨a, c, rfl⟩
  have hg := GRes.start w n (.slice ad l.length cap)
  have He := Lib.hid h; have Hg := Lib.hid hg
  have cn := hg.cn
  have cs := hg.cs
  clear h hg
  go_enter Tryd.func23, Tryd.ntmps23
  go_upto_region 1 with fail
  generalize (w.alloc (Obj.cells #[.int .i64 n, .slice ad l.length cap] 24)).alloc (Obj.cells #[Value.int IntKind.i64 0, Value.int IntKind.i64 0] 27) = w1 at *
  go_upto_region 2 with (go_at_call 30; refine (gcheck_any l n _ w1 (He.out.below Hg.out.hb)).mono ?_; rintro e w2 ⟨c, a, hsp, rfl, hb2⟩; have Hsp := Lib.hid hsp; have H3 := Lib.hid (Hg.out.below (upc hb2 (below1 w2 (Obj.cells #[.int .i64 c, .int .i64 a] 27)))); have F3 := Lib.hid (FV.new w2 c a); clear hsp hb2)
  generalize w2.alloc (Obj.cells #[.int .i64 c, .int .i64 a] 27) = w3 at *
  generalize w2.heap.size = F at *
  clear cn cs Hg
  have cn := H3.out.cn
  have b0 := H3.out.hz.cell (show 0 < 2 by omega)
  have b1 := H3.out.hz.cell (show 1 < 2 by omega)
  have d0 := H3.out.hz.frozen 0
  have d1 := H3.out.hz.frozen 1
  have hBl := H3.out.hz.lt
  have hAB := H3.out.hA
  obtain ⟨f0, f1, -, -, -⟩ := F3.out.facts
  by_cases hc : c = 0
  · subst hc
    obtain rfl := spec_zero Hsp.out
    by_cases hn : 12 < n
    · have Hn := Lib.hid hn
      go_wp2_with (go_at_call 31; refine (cfault_any _ _ _).mono ?_; rintro e wf ⟨rfl, rfl⟩)
      obtain ⟨e0, e1, e2⟩ := H3.out.putA (.int .i64 2) (.int .i64 0) (Obj.cells #[Value.int .i64 2, .int .i64 0] 27)
      exact bodyPost_ret (v := .agg #[.int .i64 2, .int .i64 0]) (by simp [results, Tryd.results23, go_sem, e0, e1]) rfl ⟨2, 0, Or.inr ⟨Hsp.out, Or.inl ⟨Hn.out, rfl, rfl⟩⟩, rfl, e2⟩
    · have hn2 : n ≤ 12 := by omega
      have Hn := Lib.hid hn2
      clear hn
      go_wp2
      obtain ⟨e0, e1, e2⟩ := H3.out.put (.int .i64 0) (.int .i64 0)
      exact bodyPost_ret (v := .agg #[.int .i64 0, .int .i64 0]) (by simp [results, Tryd.results23, go_sem, e0, e1]) rfl ⟨0, 0, Or.inr ⟨Hsp.out, Or.inr ⟨Hn.out, rfl, rfl⟩⟩, rfl, e2⟩
  · have q : (c != 0) = true := by simp [hc]
    have Hc := Lib.hid hc
    clear hc
    go_wp2
    obtain ⟨e0, e1, e2⟩ := H3.out.put (.int .i64 c) (.int .i64 a)
    exact bodyPost_ret (v := .agg #[.int .i64 c, .int .i64 a]) (by simp [results, Tryd.results23, go_sem, e0, e1]) rfl ⟨c, a, Or.inl ⟨Hsp.out, Hc.out⟩, rfl, e2⟩

set_option maxHeartbeats 3200000 in
set_option maxRecDepth 100000 in
theorem smallFault_any (n m : Int) (l : List (Int × Int)) (sv : Value) (w : World) (h : IsEdges w sv l) :
    Calls Tryd.prog 7 #[.agg #[.int .i64 n, sv], .int .i64 m] w (Faulty (SmallSpec n l m) w) := by
  obtain ⟨ad, cap, rfl⟩ : ∃ ad cap, sv = .slice ad l.length cap := by
    obtain ⟨a, c, _, _, rfl, _⟩ := h
    exact ⟨a, c, rfl⟩
  have hg := GRes.start w n (.slice ad l.length cap)
  have He := Lib.hid h; have Hg := Lib.hid hg
  have cn := hg.cn
  have cs := hg.cs
  clear h hg
  go_enter Tryd.func7, Tryd.ntmps7
  go_upto_region 1 with fail
  generalize (w.alloc (Obj.cells #[.int .i64 n, .slice ad l.length cap] 24)).alloc (Obj.cells #[Value.int IntKind.i64 0, Value.int IntKind.i64 0] 27) = w1 at *
  go_upto_region 2 with (go_at_call 21; refine (rcheck_any l n _ w1 (He.out.below Hg.out.hb)).mono ?_; rintro e w2 ⟨c, a, hsp, rfl, hb2⟩; have Hsp := Lib.hid hsp; have H3 := Lib.hid (Hg.out.below (upc hb2 (below1 w2 (Obj.cells #[.int .i64 c, .int .i64 a] 27)))); have F3 := Lib.hid (FV.new w2 c a); have lF := (Hg.out.below hb2).hz.lt; clear hsp hb2)
  generalize w2.alloc (Obj.cells #[.int .i64 c, .int .i64 a] 27) = w3 at *
  generalize w2.heap.size = F at *
  clear cn cs Hg
  have cn := H3.out.cn
  have b0 := H3.out.hz.cell (show 0 < 2 by omega)
  have b1 := H3.out.hz.cell (show 1 < 2 by omega)
  have d0 := H3.out.hz.frozen 0
  have d1 := H3.out.hz.frozen 1
  have hBl := H3.out.hz.lt
  have hAB := H3.out.hA
  obtain ⟨f0, f1, g0, g1, lf⟩ := F3.out.facts
  by_cases hc : c = 0
  · subst hc
    obtain rfl := spec_zero Hsp.out
    by_cases hn : m < n
    · have Hn := Lib.hid hn
      go_wp2_with (go_at_call 22; refine (F_any _ _ _).mono ?_; rintro e wf ⟨rfl, rfl⟩)
      have H5 := (H3.out.setOff lF 0 (.int .i64 2)).setOff lF 1 (.int .i64 0)
      obtain ⟨e0, e1, e2⟩ := H5.putA (.int .i64 2) (.int .i64 0) (Obj.cells #[Value.int .i64 2, .int .i64 0] 27)
      exact bodyPost_ret (v := .agg #[.int .i64 2, .int .i64 0]) (by simp [results, Tryd.results7, go_sem, e0, e1]) rfl ⟨2, 0, Or.inr ⟨Hsp.out, Or.inl ⟨Hn.out, rfl, rfl⟩⟩, rfl, e2⟩
    · have hn2 : n ≤ m := by omega
      have Hn := Lib.hid hn2
      clear hn
      go_wp2
      obtain ⟨e0, e1, e2⟩ := H3.out.put (.int .i64 0) (.int .i64 0)
      exact bodyPost_ret (v := .agg #[.int .i64 0, .int .i64 0]) (by simp [results, Tryd.results7, go_sem, e0, e1]) rfl ⟨0, 0, Or.inr ⟨Hsp.out, Or.inr ⟨Hn.out, rfl, rfl⟩⟩, rfl, e2⟩
  · have q : (c == 0) = false := by simp [hc]
    have Hc := Lib.hid hc
    clear hc
    go_wp2
    obtain ⟨e0, e1, e2⟩ := H3.out.put (.int .i64 c) (.int .i64 a)
    exact bodyPost_ret (v := .agg #[.int .i64 c, .int .i64 a]) (by simp [results, Tryd.results7, go_sem, e0, e1]) rfl ⟨c, a, Or.inl ⟨Hsp.out, Hc.out⟩, rfl, e2⟩

theorem small_good {n : Int} {l : List (Int × Int)} {a : Int} (h : SmallSpec n l 12 0 a) : a = 0 ∧ 0 ≤ n ∧ n ≤ 12 ∧ l.length ≤ 1000 ∧ ∀ j, j < l.length → EndsOk n (l.getD j (0, 0)) ∧ (l.getD j (0, 0)).1 ≠ (l.getD j (0, 0)).2 := by
  rcases h with ⟨_, h⟩ | ⟨h, ⟨_, h2, _⟩ | ⟨h1, _, h2⟩⟩
  · exact absurd rfl h
  · cases h2
  · rcases h with ⟨_, h, _⟩ | ⟨hb, ⟨_, _, _, hw, _⟩ | ⟨h, _, _⟩⟩
    · cases h
    · exact absurd rfl hw.ne0
    · unfold TooBig at hb
      exact ⟨h2, by omega, h1, by omega, fun j hj => ⟨(h j hj).1, (h j hj).2.1⟩⟩

end Go.Proofs.YtfflnpcbpcldeaaDoor
