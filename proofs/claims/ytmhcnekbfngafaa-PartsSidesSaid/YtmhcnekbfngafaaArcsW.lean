/- parts.arcs, arborref.ArcsFault: what is wrong with arcs. (Printed by tools/genarcs.py.) -/
import Derived.Test.YtmhcnekbfngafaaRCheck
namespace Go.Proofs.Ytmhcnekbfngafaa
open Go.RowKit

/-- What is wrong with arcs: a code, and where. -/
def ArcSpec (n : Int) (l : List (Int × Int)) (c a : Int) : Prop :=
  (TooBig n l ∧ c = 2 ∧ a = 0) ∨ (¬ TooBig n l ∧ ((∃ i, i < l.length ∧ (∀ j, j < i → EndsOk n (l.getD j (0, 0))) ∧ ¬ EndsOk n (l.getD i (0, 0)) ∧ c = 3 ∧ a = i) ∨ ((∀ j, j < l.length → EndsOk n (l.getD j (0, 0))) ∧ c = 0 ∧ a = 0)))
theorem ArcSpec.uniq {n : Int} {l : List (Int × Int)} {c a c' a' : Int} (h : ArcSpec n l c a) (h' : ArcSpec n l c' a') : c = c' ∧ a = a' := by
  rcases h with ⟨h1, rfl, rfl⟩ | ⟨h1, h⟩ <;> rcases h' with ⟨h1', rfl, rfl⟩ | ⟨h1', h'⟩
  · exact ⟨rfl, rfl⟩
  · exact absurd h1 h1'
  · exact absurd h1' h1
  · rcases h with ⟨i, hi, hr, hb, rfl, rfl⟩ | ⟨hr, rfl, rfl⟩ <;> rcases h' with ⟨i', hi', hr', hb', rfl, rfl⟩ | ⟨hr', rfl, rfl⟩
    · have e : i = i' := by
        rcases Nat.lt_trichotomy i i' with h | h | h
        · exact absurd (hr' i h) hb
        · exact h
        · exact absurd (hr i' h) hb'
      subst e
      exact ⟨rfl, rfl⟩
    · exact absurd (hr' i hi) hb
    · exact absurd (hr i' hi') hb'
    · exact ⟨rfl, rfl⟩
/-- Arcs without a fault. -/
structure GoodArcs (n : Int) (l : List (Int × Int)) : Prop where
  lo : 0 ≤ n
  hi : n ≤ 100
  len : l.length ≤ 1000
  ends : ∀ j, j < l.length → EndsOk n (l.getD j (0, 0))
theorem ArcSpec.good {n : Int} {l : List (Int × Int)} {a : Int} (h : ArcSpec n l 0 a) : GoodArcs n l ∧ a = 0 := by
  rcases h with ⟨_, h, _⟩ | ⟨h1, ⟨i, _, _, _, h, _⟩ | ⟨h2, _, h3⟩⟩
  · omega
  · omega
  · unfold TooBig at h1
    exact ⟨⟨by omega, by omega, by omega, h2⟩, h3⟩
theorem GoodArcs.spec {n : Int} {l : List (Int × Int)} (h : GoodArcs n l) : ArcSpec n l 0 0 := Or.inr ⟨by unfold TooBig; have := h.lo; have := h.hi; have := h.len; omega, Or.inr ⟨h.ends, rfl, rfl⟩⟩

/-- The result's own cell. -/
structure FRes (w wr : World) (B : Nat) : Prop where
  hb : Below w.heap.size w wr
  hz : wr.rowIs B 27 2 (fun _ => .int .i64 0)
  hB : w.heap.size ≤ B
section
variable {w wr w' : World} {B : Nat}
theorem FRes.start (w : World) : FRes w (w.alloc (Obj.cells #[Value.int IntKind.i64 0, Value.int IntKind.i64 0] 27)) w.heap.size := by
  refine ⟨below1 _ _, World.rowIs_alloc w #[Value.int IntKind.i64 0, Value.int IntKind.i64 0] 27 (fun _ => .int .i64 0) (fun i hi => by
      match i, hi with
      | 0, _ => rfl
      | 1, _ => rfl), Nat.le_refl _⟩
theorem FRes.below (h : FRes w wr B) (hb : Below wr.heap.size wr w') : FRes w w' B := ⟨h.hb.trans (hb.mono h.hb.size), h.hz.of_block (hb.block _ h.hz.lt), h.hB⟩
theorem FRes.alloc (h : FRes w wr B) (o : Obj) : FRes w (wr.alloc o) B := h.below (below1 _ _)
theorem FRes.put (h : FRes w wr B) (c a : Value) :
    ((wr.setCell ⟨B, 0, none⟩ c).setCell ⟨B, 1, none⟩ a).cell? ⟨B, 0, none⟩ = some c ∧ ((wr.setCell ⟨B, 0, none⟩ c).setCell ⟨B, 1, none⟩ a).cell? ⟨B, 1, none⟩ = some a ∧ Below w.heap.size w ((wr.setCell ⟨B, 0, none⟩ c).setCell ⟨B, 1, none⟩ a) :=
  ⟨((h.hz.set 0 c).set 1 a).cell (show 0 < 2 by omega), ((h.hz.set 0 c).set 1 a).cell (show 1 < 2 by omega), (h.hb.setCell h.hB _).setCell h.hB _⟩
theorem FRes.putA (h : FRes w wr B) (c a : Value) (o : Obj) :
    (((wr.setCell ⟨B, 0, none⟩ c).setCell ⟨B, 1, none⟩ a).alloc o).cell? ⟨B, 0, none⟩ = some c ∧ (((wr.setCell ⟨B, 0, none⟩ c).setCell ⟨B, 1, none⟩ a).alloc o).cell? ⟨B, 1, none⟩ = some a ∧ Below w.heap.size w (((wr.setCell ⟨B, 0, none⟩ c).setCell ⟨B, 1, none⟩ a).alloc o) := by
  obtain ⟨e0, e1, e2⟩ := h.put c a
  exact ⟨below_cell (below1 _ _) e0, below_cell (below1 _ _) e1, e2.alloc e2.size _⟩
theorem FRes.putAA (h : FRes w wr B) (c a : Value) (o o' : Obj) :
    ((((wr.setCell ⟨B, 0, none⟩ c).setCell ⟨B, 1, none⟩ a).alloc o).alloc o').cell? ⟨B, 0, none⟩ = some c ∧ ((((wr.setCell ⟨B, 0, none⟩ c).setCell ⟨B, 1, none⟩ a).alloc o).alloc o').cell? ⟨B, 1, none⟩ = some a ∧ Below w.heap.size w ((((wr.setCell ⟨B, 0, none⟩ c).setCell ⟨B, 1, none⟩ a).alloc o).alloc o') := by
  obtain ⟨e0, e1, e2⟩ := h.putA c a o
  exact ⟨below_cell (below1 _ _) e0, below_cell (below1 _ _) e1, e2.alloc e2.size _⟩
end

theorem pfault_any (c a : Int) (w : World) :
    Calls Try.prog 87 #[.int .i64 c, .int .i64 a] w fun e w' => e = .returned (.agg #[.int .i64 c, .int .i64 a]) ∧ w.alloc (.cells #[.int .i64 c, .int .i64 a] 27) = w' := by
  go_enter Try.func87, Try.ntmps87
  go_wp2
  exact bodyPost_ret (v := .agg #[.int .i64 c, .int .i64 a]) (by simp [results, Try.results87, go_sem]) rfl ⟨rfl, rfl⟩

set_option maxHeartbeats 3200000 in
set_option maxRecDepth 100000 in
theorem parcs_any (l : List (Int × Int)) (n : Int) (s : Value) (w : World) (h : IsEdges w s l) :
    Calls Try.prog 68 #[.int .i64 n, s] w (Faulty (ArcSpec n l) w) := by
  obtain ⟨ad, cap, bb, o, rfl, hcap, hmax, hadr, -, hcell⟩ := h
  have hg := FRes.start w
  have cz0 := hg.hz.cell (show 0 < 2 by omega)
  have cz1 := hg.hz.cell (show 1 < 2 by omega)
  have zz0 := hg.hz.frozen 0
  have zz1 := hg.hz.frozen 1
  have hBl := hg.hz.lt
  have Hg := Lib.hid hg
  clear hg
  go_enter Try.func68, Try.ntmps68
  go_upto_region 1 with fail
  generalize w.alloc (Obj.cells #[Value.int IntKind.i64 0, Value.int IntKind.i64 0] 27) = w1 at *
  by_cases b1 : n < 0
  · go_wp2_with (go_at_call 87; refine (pfault_any _ _ _).mono ?_; rintro e wf ⟨rfl, rfl⟩)
    obtain ⟨e0, e1, e2⟩ := Hg.out.putA (.int .i64 2) (.int .i64 0) (Obj.cells #[Value.int .i64 2, .int .i64 0] 27)
    exact bodyPost_ret (v := .agg #[.int .i64 2, .int .i64 0]) (by simp [results, Try.results68, go_sem, e0, e1]) rfl ⟨2, 0, Or.inl ⟨Or.inl b1, rfl, rfl⟩, rfl, e2⟩
  by_cases b2 : 100 < n
  · go_wp2_with (go_at_call 87; refine (pfault_any _ _ _).mono ?_; rintro e wf ⟨rfl, rfl⟩)
    obtain ⟨e0, e1, e2⟩ := Hg.out.putA (.int .i64 2) (.int .i64 0) (Obj.cells #[Value.int .i64 2, .int .i64 0] 27)
    exact bodyPost_ret (v := .agg #[.int .i64 2, .int .i64 0]) (by simp [results, Try.results68, go_sem, e0, e1]) rfl ⟨2, 0, Or.inl ⟨Or.inr (Or.inl b2), rfl, rfl⟩, rfl, e2⟩
  by_cases b3 : 1000 < l.length
  · have b3' : (1000 : Int) < (l.length : Int) := by omega
    go_wp2_with (go_at_call 87; refine (pfault_any _ _ _).mono ?_; rintro e wf ⟨rfl, rfl⟩)
    obtain ⟨e0, e1, e2⟩ := Hg.out.putA (.int .i64 2) (.int .i64 0) (Obj.cells #[Value.int .i64 2, .int .i64 0] 27)
    exact bodyPost_ret (v := .agg #[.int .i64 2, .int .i64 0]) (by simp [results, Try.results68, go_sem, e0, e1]) rfl ⟨2, 0, Or.inl ⟨Or.inr (Or.inr b3), rfl, rfl⟩, rfl, e2⟩
  have b3' : ¬ (1000 : Int) < (l.length : Int) := by omega
  have hbig : ¬ TooBig n l := by unfold TooBig; omega
  have Hbig := Lib.hid hbig
  clear hbig
  go_wp2
  generalize w.heap.size = A at *
  clear cz0 cz1 zz0 zz1 hBl
  go_loopg [21] l.length (fun g s3 wr => ∃ k : Nat, k ≤ l.length ∧ g = l.length - k ∧ s3 = .int .i64 k ∧ FRes w wr A ∧ ∀ j, j < k → EndsOk n (l.getD j (0, 0)))
  case atStart => exact ⟨0, Nat.zero_le _, rfl, rfl, Hg.out, fun _ h => absurd h (Nat.not_lt_zero _)⟩
  case round =>
    obtain ⟨k, hk, rfl, rfl, hg, hok⟩ := hrel
    have Hok := Lib.hid hok; clear hok
    have cz0 := hg.hz.cell (show 0 < 2 by omega)
    have cz1 := hg.hz.cell (show 1 < 2 by omega)
    have zz0 := hg.hz.frozen 0
    have zz1 := hg.hz.frozen 1
    have hBl := hg.hz.lt
    by_cases hlt : k < l.length
    · obtain rfl := hadr (by omega)
      obtain ⟨x, y, He, cx, cy⟩ := edges_at hcell hg.hb hlt
      have Hg1 := Lib.hid hg
      clear hg hcell hadr
      by_cases x1 : x < 0
      · go_wp2_with (go_at_call 87; refine (pfault_any _ _ _).mono ?_; rintro e wf ⟨rfl, rfl⟩)
        obtain ⟨e0, e1, e2⟩ := Hg1.out.putAA (.int .i64 3) (.int .i64 k) (Obj.cells #[.int .i64 x, .int .i64 y] 61) (Obj.cells #[Value.int .i64 3, .int .i64 k] 27)
        exact bodyPost_ret (v := .agg #[.int .i64 3, .int .i64 k]) (by simp [results, Try.results68, go_sem, e0, e1]) rfl ⟨3, k, Or.inr ⟨Hbig.out, Or.inl ⟨k, hlt, Hok.out, by rw [He.out]; unfold EndsOk; simp only; omega, rfl, rfl⟩⟩, rfl, e2⟩
      by_cases y1 : y < 0
      · by_cases x2 : n ≤ x
        · go_wp2_with (go_at_call 87; refine (pfault_any _ _ _).mono ?_; rintro e wf ⟨rfl, rfl⟩)
          obtain ⟨e0, e1, e2⟩ := Hg1.out.putAA (.int .i64 3) (.int .i64 k) (Obj.cells #[.int .i64 x, .int .i64 y] 61) (Obj.cells #[Value.int .i64 3, .int .i64 k] 27)
          exact bodyPost_ret (v := .agg #[.int .i64 3, .int .i64 k]) (by simp [results, Try.results68, go_sem, e0, e1]) rfl ⟨3, k, Or.inr ⟨Hbig.out, Or.inl ⟨k, hlt, Hok.out, by rw [He.out]; unfold EndsOk; simp only; omega, rfl, rfl⟩⟩, rfl, e2⟩
        · go_wp2_with (go_at_call 87; refine (pfault_any _ _ _).mono ?_; rintro e wf ⟨rfl, rfl⟩)
          obtain ⟨e0, e1, e2⟩ := Hg1.out.putAA (.int .i64 3) (.int .i64 k) (Obj.cells #[.int .i64 x, .int .i64 y] 61) (Obj.cells #[Value.int .i64 3, .int .i64 k] 27)
          exact bodyPost_ret (v := .agg #[.int .i64 3, .int .i64 k]) (by simp [results, Try.results68, go_sem, e0, e1]) rfl ⟨3, k, Or.inr ⟨Hbig.out, Or.inl ⟨k, hlt, Hok.out, by rw [He.out]; unfold EndsOk; simp only; omega, rfl, rfl⟩⟩, rfl, e2⟩
      by_cases x2 : n ≤ x
      · go_wp2_with (go_at_call 87; refine (pfault_any _ _ _).mono ?_; rintro e wf ⟨rfl, rfl⟩)
        obtain ⟨e0, e1, e2⟩ := Hg1.out.putAA (.int .i64 3) (.int .i64 k) (Obj.cells #[.int .i64 x, .int .i64 y] 61) (Obj.cells #[Value.int .i64 3, .int .i64 k] 27)
        exact bodyPost_ret (v := .agg #[.int .i64 3, .int .i64 k]) (by simp [results, Try.results68, go_sem, e0, e1]) rfl ⟨3, k, Or.inr ⟨Hbig.out, Or.inl ⟨k, hlt, Hok.out, by rw [He.out]; unfold EndsOk; simp only; omega, rfl, rfl⟩⟩, rfl, e2⟩
      by_cases y2 : n ≤ y
      · go_wp2_with (go_at_call 87; refine (pfault_any _ _ _).mono ?_; rintro e wf ⟨rfl, rfl⟩)
        obtain ⟨e0, e1, e2⟩ := Hg1.out.putAA (.int .i64 3) (.int .i64 k) (Obj.cells #[.int .i64 x, .int .i64 y] 61) (Obj.cells #[Value.int .i64 3, .int .i64 k] 27)
        exact bodyPost_ret (v := .agg #[.int .i64 3, .int .i64 k]) (by simp [results, Try.results68, go_sem, e0, e1]) rfl ⟨3, k, Or.inr ⟨Hbig.out, Or.inl ⟨k, hlt, Hok.out, by rw [He.out]; unfold EndsOk; simp only; omega, rfl, rfl⟩⟩, rfl, e2⟩
      have hends : EndsOk n (l.getD k (0, 0)) := by rw [He.out]; unfold EndsOk; simp only; omega
      have Hends := Lib.hid hends
      clear hends
      go_wp2
      go_roundg (l.length - (k + 1))
      case measure => go_light; omega
      case rel => exact ⟨k + 1, by omega, rfl, by go_num, Hg1.out.alloc _, fun j hj => by
        by_cases e : j = k
        · subst e; exact Hends.out
        · exact Hok.out j (by omega)⟩
    · obtain rfl : k = l.length := by omega
      have Hg1 := Lib.hid hg
      clear hg hcell hadr
      obtain ⟨e0, e1, e2⟩ := Hg1.out.put (.int .i64 0) (.int .i64 0)
      go_wp2
      exact bodyPost_ret (v := .agg #[.int .i64 0, .int .i64 0]) (by simp [results, Try.results68, go_sem, e0, e1]) rfl ⟨0, 0, Or.inr ⟨Hbig.out, Or.inr ⟨Hok.out, rfl, rfl⟩⟩, rfl, e2⟩

set_option maxHeartbeats 3200000 in
set_option maxRecDepth 100000 in
theorem rarcs_any (l : List (Int × Int)) (n : Int) (s : Value) (w : World) (h : IsEdges w s l) :
    Calls Try.prog 43 #[.int .i64 n, s] w (Faulty (ArcSpec n l) w) := by
  obtain ⟨ad, cap, bb, o, rfl, hcap, hmax, hadr, -, hcell⟩ := h
  have hg := FRes.start w
  have cz0 := hg.hz.cell (show 0 < 2 by omega)
  have cz1 := hg.hz.cell (show 1 < 2 by omega)
  have zz0 := hg.hz.frozen 0
  have zz1 := hg.hz.frozen 1
  have hBl := hg.hz.lt
  have Hg := Lib.hid hg
  clear hg
  go_enter Try.func43, Try.ntmps43
  go_upto_region 1 with fail
  generalize w.alloc (Obj.cells #[Value.int IntKind.i64 0, Value.int IntKind.i64 0] 27) = w1 at *
  by_cases b1 : n < 0
  · go_wp2_with (go_at_call 12; refine (F_any _ _ _).mono ?_; rintro e wf ⟨rfl, rfl⟩)
    obtain ⟨e0, e1, e2⟩ := Hg.out.putA (.int .i64 2) (.int .i64 0) (Obj.cells #[Value.int .i64 2, .int .i64 0] 27)
    exact bodyPost_ret (v := .agg #[.int .i64 2, .int .i64 0]) (by simp [results, Try.results43, go_sem, e0, e1]) rfl ⟨2, 0, Or.inl ⟨Or.inl b1, rfl, rfl⟩, rfl, e2⟩
  by_cases b2 : 100 < n
  · go_wp2_with (go_at_call 12; refine (F_any _ _ _).mono ?_; rintro e wf ⟨rfl, rfl⟩)
    obtain ⟨e0, e1, e2⟩ := Hg.out.putA (.int .i64 2) (.int .i64 0) (Obj.cells #[Value.int .i64 2, .int .i64 0] 27)
    exact bodyPost_ret (v := .agg #[.int .i64 2, .int .i64 0]) (by simp [results, Try.results43, go_sem, e0, e1]) rfl ⟨2, 0, Or.inl ⟨Or.inr (Or.inl b2), rfl, rfl⟩, rfl, e2⟩
  by_cases b3 : 1000 < l.length
  · have b3' : (1000 : Int) < (l.length : Int) := by omega
    go_wp2_with (go_at_call 12; refine (F_any _ _ _).mono ?_; rintro e wf ⟨rfl, rfl⟩)
    obtain ⟨e0, e1, e2⟩ := Hg.out.putA (.int .i64 2) (.int .i64 0) (Obj.cells #[Value.int .i64 2, .int .i64 0] 27)
    exact bodyPost_ret (v := .agg #[.int .i64 2, .int .i64 0]) (by simp [results, Try.results43, go_sem, e0, e1]) rfl ⟨2, 0, Or.inl ⟨Or.inr (Or.inr b3), rfl, rfl⟩, rfl, e2⟩
  have b3' : ¬ (1000 : Int) < (l.length : Int) := by omega
  have hbig : ¬ TooBig n l := by unfold TooBig; omega
  have Hbig := Lib.hid hbig
  clear hbig
  go_wp2
  generalize w.heap.size = A at *
  clear cz0 cz1 zz0 zz1 hBl
  go_loopg [5] l.length (fun g s3 wr => ∃ k : Nat, k ≤ l.length ∧ g = l.length - k ∧ s3 = .int .i64 k ∧ FRes w wr A ∧ ∀ j, j < k → EndsOk n (l.getD j (0, 0)))
  case atStart => exact ⟨0, Nat.zero_le _, rfl, rfl, Hg.out, fun _ h => absurd h (Nat.not_lt_zero _)⟩
  case round =>
    obtain ⟨k, hk, rfl, rfl, hg, hok⟩ := hrel
    have Hok := Lib.hid hok; clear hok
    have cz0 := hg.hz.cell (show 0 < 2 by omega)
    have cz1 := hg.hz.cell (show 1 < 2 by omega)
    have zz0 := hg.hz.frozen 0
    have zz1 := hg.hz.frozen 1
    have hBl := hg.hz.lt
    by_cases hlt : k < l.length
    · obtain rfl := hadr (by omega)
      obtain ⟨x, y, He, cx, cy⟩ := edges_at hcell hg.hb hlt
      have Hg1 := Lib.hid hg
      clear hg hcell hadr
      by_cases x1 : x < 0
      · go_wp2_with (go_at_call 12; refine (F_any _ _ _).mono ?_; rintro e wf ⟨rfl, rfl⟩)
        obtain ⟨e0, e1, e2⟩ := Hg1.out.putA (.int .i64 3) (.int .i64 k) (Obj.cells #[Value.int .i64 3, .int .i64 k] 27)
        exact bodyPost_ret (v := .agg #[.int .i64 3, .int .i64 k]) (by simp [results, Try.results43, go_sem, e0, e1]) rfl ⟨3, k, Or.inr ⟨Hbig.out, Or.inl ⟨k, hlt, Hok.out, by rw [He.out]; unfold EndsOk; simp only; omega, rfl, rfl⟩⟩, rfl, e2⟩
      by_cases y1 : y < 0
      · by_cases x2 : n ≤ x
        · go_wp2_with (go_at_call 12; refine (F_any _ _ _).mono ?_; rintro e wf ⟨rfl, rfl⟩)
          obtain ⟨e0, e1, e2⟩ := Hg1.out.putA (.int .i64 3) (.int .i64 k) (Obj.cells #[Value.int .i64 3, .int .i64 k] 27)
          exact bodyPost_ret (v := .agg #[.int .i64 3, .int .i64 k]) (by simp [results, Try.results43, go_sem, e0, e1]) rfl ⟨3, k, Or.inr ⟨Hbig.out, Or.inl ⟨k, hlt, Hok.out, by rw [He.out]; unfold EndsOk; simp only; omega, rfl, rfl⟩⟩, rfl, e2⟩
        · go_wp2_with (go_at_call 12; refine (F_any _ _ _).mono ?_; rintro e wf ⟨rfl, rfl⟩)
          obtain ⟨e0, e1, e2⟩ := Hg1.out.putA (.int .i64 3) (.int .i64 k) (Obj.cells #[Value.int .i64 3, .int .i64 k] 27)
          exact bodyPost_ret (v := .agg #[.int .i64 3, .int .i64 k]) (by simp [results, Try.results43, go_sem, e0, e1]) rfl ⟨3, k, Or.inr ⟨Hbig.out, Or.inl ⟨k, hlt, Hok.out, by rw [He.out]; unfold EndsOk; simp only; omega, rfl, rfl⟩⟩, rfl, e2⟩
      by_cases x2 : n ≤ x
      · go_wp2_with (go_at_call 12; refine (F_any _ _ _).mono ?_; rintro e wf ⟨rfl, rfl⟩)
        obtain ⟨e0, e1, e2⟩ := Hg1.out.putA (.int .i64 3) (.int .i64 k) (Obj.cells #[Value.int .i64 3, .int .i64 k] 27)
        exact bodyPost_ret (v := .agg #[.int .i64 3, .int .i64 k]) (by simp [results, Try.results43, go_sem, e0, e1]) rfl ⟨3, k, Or.inr ⟨Hbig.out, Or.inl ⟨k, hlt, Hok.out, by rw [He.out]; unfold EndsOk; simp only; omega, rfl, rfl⟩⟩, rfl, e2⟩
      by_cases y2 : n ≤ y
      · go_wp2_with (go_at_call 12; refine (F_any _ _ _).mono ?_; rintro e wf ⟨rfl, rfl⟩)
        obtain ⟨e0, e1, e2⟩ := Hg1.out.putA (.int .i64 3) (.int .i64 k) (Obj.cells #[Value.int .i64 3, .int .i64 k] 27)
        exact bodyPost_ret (v := .agg #[.int .i64 3, .int .i64 k]) (by simp [results, Try.results43, go_sem, e0, e1]) rfl ⟨3, k, Or.inr ⟨Hbig.out, Or.inl ⟨k, hlt, Hok.out, by rw [He.out]; unfold EndsOk; simp only; omega, rfl, rfl⟩⟩, rfl, e2⟩
      have hends : EndsOk n (l.getD k (0, 0)) := by rw [He.out]; unfold EndsOk; simp only; omega
      have Hends := Lib.hid hends
      clear hends
      go_wp2
      go_roundg (l.length - (k + 1))
      case measure => go_light; omega
      case rel => exact ⟨k + 1, by omega, rfl, by go_num, Hg1.out, fun j hj => by
        by_cases e : j = k
        · subst e; exact Hends.out
        · exact Hok.out j (by omega)⟩
    · obtain rfl : k = l.length := by omega
      have Hg1 := Lib.hid hg
      clear hg hcell hadr
      obtain ⟨e0, e1, e2⟩ := Hg1.out.put (.int .i64 0) (.int .i64 0)
      go_wp2
      exact bodyPost_ret (v := .agg #[.int .i64 0, .int .i64 0]) (by simp [results, Try.results43, go_sem, e0, e1]) rfl ⟨0, 0, Or.inr ⟨Hbig.out, Or.inr ⟨Hok.out, rfl, rfl⟩⟩, rfl, e2⟩

end Go.Proofs.Ytmhcnekbfngafaa
