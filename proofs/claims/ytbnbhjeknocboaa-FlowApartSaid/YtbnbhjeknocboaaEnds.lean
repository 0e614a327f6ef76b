/- arborref.EndsFault, flow.ends. Printed by genends.py. -/
import Derived.Test.YtbnbhjeknocboaaNets
namespace Go.Proofs.Ytbnbhjeknocboaa
open Go.RowKit

/-- What is wrong with two nodes. -/
def EndsSpec (n s t : Int) (c a : Int) : Prop :=
  ((s < 0 ∨ n ≤ s) ∧ c = 3 ∧ a = 0) ∨ (0 ≤ s ∧ s < n ∧ (t < 0 ∨ n ≤ t) ∧ c = 3 ∧ a = 1) ∨ (0 ≤ s ∧ s < n ∧ 0 ≤ t ∧ t < n ∧ s = t ∧ c = 5 ∧ a = 1) ∨ (0 ≤ s ∧ s < n ∧ 0 ≤ t ∧ t < n ∧ s ≠ t ∧ c = 0 ∧ a = 0)
theorem EndsSpec.uniq {n s t c a c' a' : Int} (h : EndsSpec n s t c a) (h' : EndsSpec n s t c' a') : c = c' ∧ a = a' := by
  unfold EndsSpec at h h'
  omega

/-- The result's own cell. -/
structure ResF (w wr : World) (B : Nat) : Prop where
  hb : Below w.heap.size w wr
  hz : wr.rowIs B 28 2 (fun _ => .int .i64 0)
  hB : w.heap.size ≤ B
theorem ResF.begin (w : World) : ResF w (w.alloc (Obj.cells #[Value.int IntKind.i64 0, Value.int IntKind.i64 0] 28)) w.heap.size :=
  ⟨below1 _ _, World.rowIs_alloc w #[Value.int IntKind.i64 0, Value.int IntKind.i64 0] 28 (fun _ => .int .i64 0) (fun i hi => by
    match i, hi with
    | 0, _ => rfl
    | 1, _ => rfl), Nat.le_refl _⟩
theorem ResF.below {w wr w' : World} {B : Nat} (h : ResF w wr B) (hb : Below wr.heap.size wr w') : ResF w w' B :=
  ⟨h.hb.trans (hb.mono h.hb.size), h.hz.of_block (hb.block _ h.hz.lt), h.hB⟩
theorem ResF.put {w wr : World} {B : Nat} (h : ResF w wr B) (c a : Value) :
    ((wr.setCell ⟨B, 0, none⟩ c).setCell ⟨B, 1, none⟩ a).cell? ⟨B, 0, none⟩ = some c ∧ ((wr.setCell ⟨B, 0, none⟩ c).setCell ⟨B, 1, none⟩ a).cell? ⟨B, 1, none⟩ = some a ∧ Below w.heap.size w ((wr.setCell ⟨B, 0, none⟩ c).setCell ⟨B, 1, none⟩ a) :=
  ⟨((h.hz.set 0 c).set 1 a).cell (show 0 < 2 by omega), ((h.hz.set 0 c).set 1 a).cell (show 1 < 2 by omega), (h.hb.setCell h.hB _).setCell h.hB _⟩
theorem ResF.putA {w wr : World} {B : Nat} (h : ResF w wr B) (c a : Value) (o : Obj) :
    (((wr.setCell ⟨B, 0, none⟩ c).setCell ⟨B, 1, none⟩ a).alloc o).cell? ⟨B, 0, none⟩ = some c ∧ (((wr.setCell ⟨B, 0, none⟩ c).setCell ⟨B, 1, none⟩ a).alloc o).cell? ⟨B, 1, none⟩ = some a ∧ Below w.heap.size w (((wr.setCell ⟨B, 0, none⟩ c).setCell ⟨B, 1, none⟩ a).alloc o) := by
  obtain ⟨e0, e1, e2⟩ := h.put c a
  exact ⟨below_cell (below1 _ _) e0, below_cell (below1 _ _) e1, e2.alloc e2.size _⟩

set_option maxHeartbeats 3200000 in
set_option maxRecDepth 100000 in
theorem rends_any (n s t : Int) (w : World) : Calls Try.prog 24 #[.int .i64 n, .int .i64 s, .int .i64 t] w (Faulty (EndsSpec n s t) w) := by
  have hg := ResF.begin w
  have cz0 := hg.hz.cell (show 0 < 2 by omega)
  have cz1 := hg.hz.cell (show 1 < 2 by omega)
  have zz0 := hg.hz.frozen 0
  have zz1 := hg.hz.frozen 1
  have hBl := hg.hz.lt
  have Hg := Lib.hid hg
  clear hg
  go_enter Try.func24, Try.ntmps24
  go_upto_region 1 with fail
  generalize w.alloc (Obj.cells #[Value.int IntKind.i64 0, Value.int IntKind.i64 0] 28) = w1 at *
  by_cases b1 : s < 0
  · go_wp2_with (go_at_call 20; refine (F_any _ _ _).mono ?_; rintro e wf ⟨rfl, rfl⟩)
    obtain ⟨e0, e1, e2⟩ := Hg.out.putA (.int .i64 3) (.int .i64 0) (Obj.cells #[Value.int .i64 3, .int .i64 0] 28)
    exact bodyPost_ret (v := .agg #[.int .i64 3, .int .i64 0]) (by simp [results, Try.results24, go_sem, e0, e1]) rfl ⟨3, 0, by unfold EndsSpec; omega, rfl, e2⟩
  by_cases b2 : n ≤ s
  · go_wp2_with (go_at_call 20; refine (F_any _ _ _).mono ?_; rintro e wf ⟨rfl, rfl⟩)
    obtain ⟨e0, e1, e2⟩ := Hg.out.putA (.int .i64 3) (.int .i64 0) (Obj.cells #[Value.int .i64 3, .int .i64 0] 28)
    exact bodyPost_ret (v := .agg #[.int .i64 3, .int .i64 0]) (by simp [results, Try.results24, go_sem, e0, e1]) rfl ⟨3, 0, by unfold EndsSpec; omega, rfl, e2⟩
  by_cases b3 : t < 0
  · go_wp2_with (go_at_call 20; refine (F_any _ _ _).mono ?_; rintro e wf ⟨rfl, rfl⟩)
    obtain ⟨e0, e1, e2⟩ := Hg.out.putA (.int .i64 3) (.int .i64 1) (Obj.cells #[Value.int .i64 3, .int .i64 1] 28)
    exact bodyPost_ret (v := .agg #[.int .i64 3, .int .i64 1]) (by simp [results, Try.results24, go_sem, e0, e1]) rfl ⟨3, 1, by unfold EndsSpec; omega, rfl, e2⟩
  by_cases b4 : n ≤ t
  · go_wp2_with (go_at_call 20; refine (F_any _ _ _).mono ?_; rintro e wf ⟨rfl, rfl⟩)
    obtain ⟨e0, e1, e2⟩ := Hg.out.putA (.int .i64 3) (.int .i64 1) (Obj.cells #[Value.int .i64 3, .int .i64 1] 28)
    exact bodyPost_ret (v := .agg #[.int .i64 3, .int .i64 1]) (by simp [results, Try.results24, go_sem, e0, e1]) rfl ⟨3, 1, by unfold EndsSpec; omega, rfl, e2⟩
  by_cases b5 : s = t
  · have q : (s == t) = true := by simp [b5]
    have B5 := Lib.hid b5; clear b5
    go_wp2_with (go_at_call 20; refine (F_any _ _ _).mono ?_; rintro e wf ⟨rfl, rfl⟩)
    obtain ⟨e0, e1, e2⟩ := Hg.out.putA (.int .i64 5) (.int .i64 1) (Obj.cells #[Value.int .i64 5, .int .i64 1] 28)
    exact bodyPost_ret (v := .agg #[.int .i64 5, .int .i64 1]) (by simp [results, Try.results24, go_sem, e0, e1]) rfl ⟨5, 1, by have := B5.out; unfold EndsSpec; omega, rfl, e2⟩
  have q : (s == t) = false := by simp [b5]
  go_wp2
  obtain ⟨e0, e1, e2⟩ := Hg.out.put (.int .i64 0) (.int .i64 0)
  exact bodyPost_ret (v := .agg #[.int .i64 0, .int .i64 0]) (by simp [results, Try.results24, go_sem, e0, e1]) rfl ⟨0, 0, by unfold EndsSpec; omega, rfl, e2⟩

set_option maxHeartbeats 3200000 in
set_option maxRecDepth 100000 in
theorem fends_any (n s t : Int) (w : World) : Calls Try.prog 52 #[.int .i64 n, .int .i64 s, .int .i64 t] w (Faulty (EndsSpec n s t) w) := by
  have hg := ResF.begin w
  have cz0 := hg.hz.cell (show 0 < 2 by omega)
  have cz1 := hg.hz.cell (show 1 < 2 by omega)
  have zz0 := hg.hz.frozen 0
  have zz1 := hg.hz.frozen 1
  have hBl := hg.hz.lt
  have Hg := Lib.hid hg
  clear hg
  go_enter Try.func52, Try.ntmps52
  go_upto_region 1 with fail
  generalize w.alloc (Obj.cells #[Value.int IntKind.i64 0, Value.int IntKind.i64 0] 28) = w1 at *
  by_cases b1 : s < 0
  · go_wp2_with (go_at_call 61; refine (ffault_any _ _ _).mono ?_; rintro e wf ⟨rfl, rfl⟩)
    obtain ⟨e0, e1, e2⟩ := Hg.out.putA (.int .i64 3) (.int .i64 0) (Obj.cells #[Value.int .i64 3, .int .i64 0] 28)
    exact bodyPost_ret (v := .agg #[.int .i64 3, .int .i64 0]) (by simp [results, Try.results52, go_sem, e0, e1]) rfl ⟨3, 0, by unfold EndsSpec; omega, rfl, e2⟩
  by_cases b2 : n ≤ s
  · go_wp2_with (go_at_call 61; refine (ffault_any _ _ _).mono ?_; rintro e wf ⟨rfl, rfl⟩)
    obtain ⟨e0, e1, e2⟩ := Hg.out.putA (.int .i64 3) (.int .i64 0) (Obj.cells #[Value.int .i64 3, .int .i64 0] 28)
    exact bodyPost_ret (v := .agg #[.int .i64 3, .int .i64 0]) (by simp [results, Try.results52, go_sem, e0, e1]) rfl ⟨3, 0, by unfold EndsSpec; omega, rfl, e2⟩
  by_cases b3 : t < 0
  · go_wp2_with (go_at_call 61; refine (ffault_any _ _ _).mono ?_; rintro e wf ⟨rfl, rfl⟩)
    obtain ⟨e0, e1, e2⟩ := Hg.out.putA (.int .i64 3) (.int .i64 1) (Obj.cells #[Value.int .i64 3, .int .i64 1] 28)
    exact bodyPost_ret (v := .agg #[.int .i64 3, .int .i64 1]) (by simp [results, Try.results52, go_sem, e0, e1]) rfl ⟨3, 1, by unfold EndsSpec; omega, rfl, e2⟩
  by_cases b4 : n ≤ t
  · go_wp2_with (go_at_call 61; refine (ffault_any _ _ _).mono ?_; rintro e wf ⟨rfl, rfl⟩)
    obtain ⟨e0, e1, e2⟩ := Hg.out.putA (.int .i64 3) (.int .i64 1) (Obj.cells #[Value.int .i64 3, .int .i64 1] 28)
    exact bodyPost_ret (v := .agg #[.int .i64 3, .int .i64 1]) (by simp [results, Try.results52, go_sem, e0, e1]) rfl ⟨3, 1, by unfold EndsSpec; omega, rfl, e2⟩
  by_cases b5 : s = t
  · have q : (s == t) = true := by simp [b5]
    have B5 := Lib.hid b5; clear b5
    go_wp2_with (go_at_call 61; refine (ffault_any _ _ _).mono ?_; rintro e wf ⟨rfl, rfl⟩)
    obtain ⟨e0, e1, e2⟩ := Hg.out.putA (.int .i64 5) (.int .i64 1) (Obj.cells #[Value.int .i64 5, .int .i64 1] 28)
    exact bodyPost_ret (v := .agg #[.int .i64 5, .int .i64 1]) (by simp [results, Try.results52, go_sem, e0, e1]) rfl ⟨5, 1, by have := B5.out; unfold EndsSpec; omega, rfl, e2⟩
  have q : (s == t) = false := by simp [b5]
  go_wp2
  obtain ⟨e0, e1, e2⟩ := Hg.out.put (.int .i64 0) (.int .i64 0)
  exact bodyPost_ret (v := .agg #[.int .i64 0, .int .i64 0]) (by simp [results, Try.results52, go_sem, e0, e1]) rfl ⟨0, 0, by unfold EndsSpec; omega, rfl, e2⟩

end Go.Proofs.Ytbnbhjeknocboaa
