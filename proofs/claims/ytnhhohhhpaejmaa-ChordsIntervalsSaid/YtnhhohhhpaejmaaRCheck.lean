/- arborref.Check: what is wrong with a graph. -/
import Derived.Test.YtnhhohhhpaejmaaGraph
import Derived.StillTailTactics
namespace Go.Proofs.Ytnhhohhhpaejmaa
open Go.RowKit

theorem two_cells (w : World) (c d : Value) (T : TypeId) : (w.alloc (Obj.cells #[c, d] T)).cell? ⟨w.heap.size, 0, none⟩ = some c ∧ (w.alloc (Obj.cells #[c, d] T)).cell? ⟨w.heap.size, 1, none⟩ = some d :=
  ⟨by rw [World.cell?_alloc_at _ _ _ _ rfl]; rfl, by rw [World.cell?_alloc_at _ _ _ _ rfl]; rfl⟩

/-- A drawn region that only reads, but for its tail. -/
theorem region_tail {P : Program} {id : Nat} {Q : Exit → Act → World → Prop} {a : Act} {w : World} {l : List Oper} (n : Nat) (hm : P.follows .mixedOrders = true) (hB : Region.lexTailB .any l.toArray n = true)
    (h : wpStill P l.toArray w.drew (fun a' => wpList P l.toArray Q (l.drop n) a' w.drew) (l.take n) a) : (Code.region id l.toArray true).wp P Q a w := wp_region_still_tail n hm hB h

theorem info2 : (Try.prog.info? 52).map (fun i => (i.zero, i.size, i.bytes)) = some (some (.agg #[.int .i64 0, .int .i64 0]), 2, 16) := by kernel_rfl

/-- Both ends of an edge are nodes. -/
def EndsOk (n : Int) (e : Int × Int) : Prop := 0 ≤ e.1 ∧ 0 ≤ e.2 ∧ e.1 < n ∧ e.2 < n
/-- Edge j is as it must be. -/
def Fine (n : Int) (l : List (Int × Int)) (j : Nat) : Prop := EndsOk n (l.getD j (0, 0)) ∧ (l.getD j (0, 0)).1 ≠ (l.getD j (0, 0)).2 ∧ hasE (l.take j) (l.getD j (0, 0)).1 (l.getD j (0, 0)).2 = false
/-- What is wrong with edge j. -/
def Wrong (n : Int) (l : List (Int × Int)) (j : Nat) (c : Int) : Prop :=
  (¬ EndsOk n (l.getD j (0, 0)) ∧ c = 3) ∨ (EndsOk n (l.getD j (0, 0)) ∧ (l.getD j (0, 0)).1 = (l.getD j (0, 0)).2 ∧ c = 4) ∨
    (EndsOk n (l.getD j (0, 0)) ∧ (l.getD j (0, 0)).1 ≠ (l.getD j (0, 0)).2 ∧ hasE (l.take j) (l.getD j (0, 0)).1 (l.getD j (0, 0)).2 = true ∧ c = 5)
/-- Too great. -/
def TooBig (n : Int) (l : List (Int × Int)) : Prop := n < 0 ∨ 100 < n ∨ 1000 < l.length
/-- What is wrong with a graph: a code, and where. -/
def GraphSpec (n : Int) (l : List (Int × Int)) (c a : Int) : Prop :=
  (TooBig n l ∧ c = 2 ∧ a = 0) ∨ (¬ TooBig n l ∧ ((∃ i, i < l.length ∧ (∀ j, j < i → Fine n l j) ∧ Wrong n l i c ∧ a = i) ∨ ((∀ j, j < l.length → Fine n l j) ∧ c = 0 ∧ a = 0)))

theorem Wrong.not {n : Int} {l : List (Int × Int)} {j : Nat} {c : Int} (h : Wrong n l j c) : ¬ Fine n l j := by
  rintro ⟨h1, h2, h3⟩
  rcases h with ⟨a, _⟩ | ⟨_, a, _⟩ | ⟨_, _, a, _⟩
  · exact a h1
  · exact h2 a
  · rw [h3] at a; cases a
theorem Wrong.uniq {n : Int} {l : List (Int × Int)} {j : Nat} {c c' : Int} (h : Wrong n l j c) (h' : Wrong n l j c') : c = c' := by
  rcases h with ⟨a, rfl⟩ | ⟨a, b, rfl⟩ | ⟨a, b, _, rfl⟩ <;> rcases h' with ⟨a', rfl⟩ | ⟨a', b', rfl⟩ | ⟨a', b', _, rfl⟩ <;> first | rfl | exact absurd a' a | exact absurd a a' | exact absurd b b' | exact absurd b' b
theorem Wrong.ne0 {n : Int} {l : List (Int × Int)} {j : Nat} {c : Int} (h : Wrong n l j c) : c ≠ 0 := by
  rcases h with ⟨_, rfl⟩ | ⟨_, _, rfl⟩ | ⟨_, _, _, rfl⟩ <;> omega
theorem GraphSpec.uniq {n : Int} {l : List (Int × Int)} {c a c' a' : Int} (h : GraphSpec n l c a) (h' : GraphSpec n l c' a') : c = c' ∧ a = a' := by
  rcases h with ⟨h1, rfl, rfl⟩ | ⟨h1, h⟩ <;> rcases h' with ⟨h1', rfl, rfl⟩ | ⟨h1', h'⟩
  · exact ⟨rfl, rfl⟩
  · exact absurd h1 h1'
  · exact absurd h1' h1
  · rcases h with ⟨i, hi, hr, hb, rfl⟩ | ⟨hr, rfl, rfl⟩ <;> rcases h' with ⟨i', hi', hr', hb', rfl⟩ | ⟨hr', rfl, rfl⟩
    · have e : i = i' := by
        rcases Nat.lt_trichotomy i i' with h | h | h
        · exact absurd (hr' i h) hb.not
        · exact h
        · exact absurd (hr i' h) hb'.not
      subst e
      exact ⟨hb.uniq hb', rfl⟩
    · exact absurd (hr' i hi) hb.not
    · exact absurd (hr i' hi') hb'.not
    · exact ⟨rfl, rfl⟩

/-- The graph's own variable, and the result's own cell. -/
structure GRes (w wr : World) (A B : Nat) (n : Int) (s : Value) : Prop where
  hb : Below w.heap.size w wr
  cn : wr.cell? ⟨A, 0, none⟩ = some (.int .i64 n)
  cs : wr.cell? ⟨A, 1, none⟩ = some s
  hz : wr.rowIs B 27 2 (fun _ => .int .i64 0)
  hB : w.heap.size ≤ B
  hA : A < B

section
variable {w wr w' : World} {A B : Nat} {n : Int} {s : Value}
theorem GRes.start (w : World) (n : Int) (s : Value) : GRes w ((w.alloc (Obj.cells #[.int .i64 n, s] 24)).alloc (Obj.cells #[Value.int IntKind.i64 0, Value.int IntKind.i64 0] 27)) w.heap.size (w.heap.size + 1) n s := by
  refine ⟨below2 _ _ _, ?_, ?_, ?_, by omega, by omega⟩
  · rw [World.cell?_alloc_past _ _ _ (by simp), World.cell?_alloc_at _ _ _ _ rfl]; rfl
  · rw [World.cell?_alloc_past _ _ _ (by simp), World.cell?_alloc_at _ _ _ _ rfl]; rfl
  · have := World.rowIs_alloc (w.alloc (Obj.cells #[.int .i64 n, s] 24)) #[Value.int IntKind.i64 0, Value.int IntKind.i64 0] 27 (fun _ => .int .i64 0) (fun i hi => by
      match i, hi with
      | 0, _ => rfl
      | 1, _ => rfl)
    rw [World.size_alloc] at this
    exact this
theorem GRes.below (h : GRes w wr A B n s) (hb : Below wr.heap.size wr w') : GRes w w' A B n s :=
  ⟨h.hb.trans (hb.mono h.hb.size), below_cell hb h.cn, below_cell hb h.cs, h.hz.of_block (hb.block _ h.hz.lt), h.hB, h.hA⟩
theorem GRes.alloc (h : GRes w wr A B n s) (o : Obj) : GRes w (wr.alloc o) A B n s := h.below (below1 _ _)
theorem GRes.put (h : GRes w wr A B n s) (c a : Value) :
    ((wr.setCell ⟨B, 0, none⟩ c).setCell ⟨B, 1, none⟩ a).cell? ⟨B, 0, none⟩ = some c ∧ ((wr.setCell ⟨B, 0, none⟩ c).setCell ⟨B, 1, none⟩ a).cell? ⟨B, 1, none⟩ = some a ∧ Below w.heap.size w ((wr.setCell ⟨B, 0, none⟩ c).setCell ⟨B, 1, none⟩ a) :=
  ⟨((h.hz.set 0 c).set 1 a).cell (show 0 < 2 by omega), ((h.hz.set 0 c).set 1 a).cell (show 1 < 2 by omega), (h.hb.setCell h.hB _).setCell h.hB _⟩
theorem GRes.putA (h : GRes w wr A B n s) (c a : Value) (o : Obj) :
    (((wr.setCell ⟨B, 0, none⟩ c).setCell ⟨B, 1, none⟩ a).alloc o).cell? ⟨B, 0, none⟩ = some c ∧ (((wr.setCell ⟨B, 0, none⟩ c).setCell ⟨B, 1, none⟩ a).alloc o).cell? ⟨B, 1, none⟩ = some a ∧ Below w.heap.size w (((wr.setCell ⟨B, 0, none⟩ c).setCell ⟨B, 1, none⟩ a).alloc o) := by
  obtain ⟨e0, e1, e2⟩ := h.put c a
  exact ⟨below_cell (below1 _ _) e0, below_cell (below1 _ _) e1, e2.alloc e2.size _⟩
theorem GRes.putAA (h : GRes w wr A B n s) (c a : Value) (o o' : Obj) :
    ((((wr.setCell ⟨B, 0, none⟩ c).setCell ⟨B, 1, none⟩ a).alloc o).alloc o').cell? ⟨B, 0, none⟩ = some c ∧ ((((wr.setCell ⟨B, 0, none⟩ c).setCell ⟨B, 1, none⟩ a).alloc o).alloc o').cell? ⟨B, 1, none⟩ = some a ∧ Below w.heap.size w ((((wr.setCell ⟨B, 0, none⟩ c).setCell ⟨B, 1, none⟩ a).alloc o).alloc o') := by
  obtain ⟨e0, e1, e2⟩ := h.putA c a o
  exact ⟨below_cell (below1 _ _) e0, below_cell (below1 _ _) e1, e2.alloc e2.size _⟩
end

set_option maxHeartbeats 3200000 in
set_option maxRecDepth 100000 in
theorem rcheck_any (l : List (Int × Int)) (n : Int) (s : Value) (w : World) (h : IsEdges w s l) :
    Calls Try.prog 8 #[.agg #[.int .i64 n, s]] w (Faulty (GraphSpec n l) w) := by
  have hs := h
  obtain ⟨ad, cap, bb, o, rfl, hcap, hmax, hadr, -, hcell⟩ := h
  have hg := GRes.start w n (.slice ad l.length cap)
  have cn := hg.cn
  have cs := hg.cs
  have cz0 := hg.hz.cell (show 0 < 2 by omega)
  have cz1 := hg.hz.cell (show 1 < 2 by omega)
  have zz0 := hg.hz.frozen 0
  have zz1 := hg.hz.frozen 1
  have hBl := hg.hz.lt
  have Hg := Lib.hid hg; have Hs := Lib.hid hs
  clear hg hs
  go_enter Try.func8, Try.ntmps8
  go_upto_region 1 with fail
  generalize (w.alloc (Obj.cells #[.int .i64 n, .slice ad l.length cap] 24)).alloc (Obj.cells #[Value.int IntKind.i64 0, Value.int IntKind.i64 0] 27) = w1 at *
  by_cases b1 : n < 0
  · go_wp2_with (go_at_call 21; refine (F_any _ _ _).mono ?_; rintro e wf ⟨rfl, rfl⟩)
    obtain ⟨e0, e1, e2⟩ := Hg.out.putA (.int .i64 2) (.int .i64 0) (Obj.cells #[Value.int .i64 2, .int .i64 0] 27)
    exact bodyPost_ret (v := .agg #[.int .i64 2, .int .i64 0]) (by simp [results, Try.results8, go_sem, e0, e1]) rfl ⟨2, 0, Or.inl ⟨Or.inl b1, rfl, rfl⟩, rfl, e2⟩
  by_cases b2 : 100 < n
  · go_wp2_with (go_at_call 21; refine (F_any _ _ _).mono ?_; rintro e wf ⟨rfl, rfl⟩)
    obtain ⟨e0, e1, e2⟩ := Hg.out.putA (.int .i64 2) (.int .i64 0) (Obj.cells #[Value.int .i64 2, .int .i64 0] 27)
    exact bodyPost_ret (v := .agg #[.int .i64 2, .int .i64 0]) (by simp [results, Try.results8, go_sem, e0, e1]) rfl ⟨2, 0, Or.inl ⟨Or.inr (Or.inl b2), rfl, rfl⟩, rfl, e2⟩
  by_cases b3 : 1000 < l.length
  · have b3' : (1000 : Int) < (l.length : Int) := by omega
    go_wp2_with (go_at_call 21; refine (F_any _ _ _).mono ?_; rintro e wf ⟨rfl, rfl⟩)
    obtain ⟨e0, e1, e2⟩ := Hg.out.putA (.int .i64 2) (.int .i64 0) (Obj.cells #[Value.int .i64 2, .int .i64 0] 27)
    exact bodyPost_ret (v := .agg #[.int .i64 2, .int .i64 0]) (by simp [results, Try.results8, go_sem, e0, e1]) rfl ⟨2, 0, Or.inl ⟨Or.inr (Or.inr b3), rfl, rfl⟩, rfl, e2⟩
  have b3' : ¬ (1000 : Int) < (l.length : Int) := by omega
  have hbig : ¬ TooBig n l := by unfold TooBig; omega
  have Hbig := Lib.hid hbig
  clear hbig
  go_wp2
  generalize w.heap.size = A at *
  clear cn cs cz0 cz1 zz0 zz1 hBl
  go_loopg [3] l.length (fun g s3 wr => ∃ k : Nat, k ≤ l.length ∧ g = l.length - k ∧ s3 = .int .i64 k ∧ GRes w wr A (A + 1) n (.slice ad l.length cap) ∧ ∀ j, j < k → Fine n l j)
  case atStart => exact ⟨0, Nat.zero_le _, rfl, rfl, Hg.out, fun _ h => absurd h (Nat.not_lt_zero _)⟩
  case round =>
    obtain ⟨k, hk, rfl, rfl, hg, hok⟩ := hrel
    have Hok := Lib.hid hok; clear hok
    have cn := hg.cn
    have cs := hg.cs
    have cz0 := hg.hz.cell (show 0 < 2 by omega)
    have cz1 := hg.hz.cell (show 1 < 2 by omega)
    have zz0 := hg.hz.frozen 0
    have zz1 := hg.hz.frozen 1
    have hBl := hg.hz.lt
    have hAl : A < wr.heap.size := by omega
    by_cases hlt : k < l.length
    · obtain rfl := hadr (by omega)
      obtain ⟨x, y, He, cx, cy⟩ := edges_at hcell hg.hb hlt
      have G2 := Lib.hid (hg.alloc (Obj.cells #[.int .i64 x, .int .i64 y] 52))
      have Hg1 := Lib.hid hg
      clear hg hcell hadr
      by_cases x1 : x < 0
      · go_wp2_with (go_at_call 21; refine (F_any _ _ _).mono ?_; rintro e wf ⟨rfl, rfl⟩)
        obtain ⟨e0, e1, e2⟩ := Hg1.out.putAA (.int .i64 3) (.int .i64 k) (Obj.cells #[.int .i64 x, .int .i64 y] 52) (Obj.cells #[Value.int .i64 3, .int .i64 k] 27)
        exact bodyPost_ret (v := .agg #[.int .i64 3, .int .i64 k]) (by simp [results, Try.results8, go_sem, e0, e1]) rfl ⟨3, k, Or.inr ⟨Hbig.out, Or.inl ⟨k, hlt, Hok.out, Or.inl ⟨by rw [He.out]; unfold EndsOk; simp only; omega, rfl⟩, rfl⟩⟩, rfl, e2⟩
      by_cases y1 : y < 0
      · by_cases x2 : n ≤ x
        · go_wp2_with (go_at_call 21; refine (F_any _ _ _).mono ?_; rintro e wf ⟨rfl, rfl⟩)
          obtain ⟨e0, e1, e2⟩ := Hg1.out.putAA (.int .i64 3) (.int .i64 k) (Obj.cells #[.int .i64 x, .int .i64 y] 52) (Obj.cells #[Value.int .i64 3, .int .i64 k] 27)
          exact bodyPost_ret (v := .agg #[.int .i64 3, .int .i64 k]) (by simp [results, Try.results8, go_sem, e0, e1]) rfl ⟨3, k, Or.inr ⟨Hbig.out, Or.inl ⟨k, hlt, Hok.out, Or.inl ⟨by rw [He.out]; unfold EndsOk; simp only; omega, rfl⟩, rfl⟩⟩, rfl, e2⟩
        · go_wp2_with (go_at_call 21; refine (F_any _ _ _).mono ?_; rintro e wf ⟨rfl, rfl⟩)
          obtain ⟨e0, e1, e2⟩ := Hg1.out.putAA (.int .i64 3) (.int .i64 k) (Obj.cells #[.int .i64 x, .int .i64 y] 52) (Obj.cells #[Value.int .i64 3, .int .i64 k] 27)
          exact bodyPost_ret (v := .agg #[.int .i64 3, .int .i64 k]) (by simp [results, Try.results8, go_sem, e0, e1]) rfl ⟨3, k, Or.inr ⟨Hbig.out, Or.inl ⟨k, hlt, Hok.out, Or.inl ⟨by rw [He.out]; unfold EndsOk; simp only; omega, rfl⟩, rfl⟩⟩, rfl, e2⟩
      by_cases x2 : n ≤ x
      · go_wp2_with (go_at_call 21; refine (F_any _ _ _).mono ?_; rintro e wf ⟨rfl, rfl⟩)
        obtain ⟨e0, e1, e2⟩ := Hg1.out.putAA (.int .i64 3) (.int .i64 k) (Obj.cells #[.int .i64 x, .int .i64 y] 52) (Obj.cells #[Value.int .i64 3, .int .i64 k] 27)
        exact bodyPost_ret (v := .agg #[.int .i64 3, .int .i64 k]) (by simp [results, Try.results8, go_sem, e0, e1]) rfl ⟨3, k, Or.inr ⟨Hbig.out, Or.inl ⟨k, hlt, Hok.out, Or.inl ⟨by rw [He.out]; unfold EndsOk; simp only; omega, rfl⟩, rfl⟩⟩, rfl, e2⟩
      by_cases y2 : n ≤ y
      · go_wp2_with (go_at_call 21; refine (F_any _ _ _).mono ?_; rintro e wf ⟨rfl, rfl⟩)
        obtain ⟨e0, e1, e2⟩ := Hg1.out.putAA (.int .i64 3) (.int .i64 k) (Obj.cells #[.int .i64 x, .int .i64 y] 52) (Obj.cells #[Value.int .i64 3, .int .i64 k] 27)
        exact bodyPost_ret (v := .agg #[.int .i64 3, .int .i64 k]) (by simp [results, Try.results8, go_sem, e0, e1]) rfl ⟨3, k, Or.inr ⟨Hbig.out, Or.inl ⟨k, hlt, Hok.out, Or.inl ⟨by rw [He.out]; unfold EndsOk; simp only; omega, rfl⟩, rfl⟩⟩, rfl, e2⟩
      have hends : EndsOk n (l.getD k (0, 0)) := by rw [He.out]; unfold EndsOk; simp only; omega
      have Hends := Lib.hid hends
      clear hends
      by_cases xy : x = y
      · have q1 : (x == y) = true := by simp [xy]
        have Hxy := Lib.hid xy; clear xy
        go_wp2_with (go_at_call 21; refine (F_any _ _ _).mono ?_; rintro e wf ⟨rfl, rfl⟩)
        obtain ⟨e0, e1, e2⟩ := Hg1.out.putAA (.int .i64 4) (.int .i64 k) (Obj.cells #[.int .i64 x, .int .i64 y] 52) (Obj.cells #[Value.int .i64 4, .int .i64 k] 27)
        exact bodyPost_ret (v := .agg #[.int .i64 4, .int .i64 k]) (by simp [results, Try.results8, go_sem, e0, e1]) rfl ⟨4, k, Or.inr ⟨Hbig.out, Or.inl ⟨k, hlt, Hok.out, Or.inr (Or.inl ⟨Hends.out, by rw [He.out]; exact Hxy.out, rfl⟩), rfl⟩⟩, rfl, e2⟩
      have q1 : (x == y) = false := by simp [xy]
      have Hxy := Lib.hid xy; clear xy
      obtain ⟨i3, hi3, -⟩ := info_parts info2
      have hsl := run_slice_hi (P := Try.prog) Try.underlying22 hi3 (some ⟨bb, o, none⟩) l.length cap k (by omega)
      have hE := (Hs.out.take (show k ≤ l.length by omega)).below (G2.out.hb.drew)
      have G3 := G2.out.below (Below.refl _ _).drew
      have ce0 : (wr.alloc (Obj.cells #[.int .i64 x, .int .i64 y] 52)).drew.cell? ⟨wr.heap.size, 0, none⟩ = some (.int .i64 x) := (two_cells wr (.int .i64 x) (.int .i64 y) 52).1
      have ce1 : (wr.alloc (Obj.cells #[.int .i64 x, .int .i64 y] 52)).drew.cell? ⟨wr.heap.size, 1, none⟩ = some (.int .i64 y) := (two_cells wr (.int .i64 x) (.int .i64 y) 52).2
      go_wp2_with fail
      refine region_tail 9 (by kernel_rfl) (by kernel_rfl) ?_
      generalize (wr.alloc (Obj.cells #[.int .i64 x, .int .i64 y] 52)).drew = w5 at *
      clear cn cs cz0 cz1 zz0 zz1 hBl hAl cx cy
      have cn := G3.cn
      have cs := G3.cs
      have HE := Lib.hid hE; have G5 := Lib.hid G3
      clear hE G3 hi3
      simp only [List.take_succ_cons, List.take_zero, List.drop_succ_cons, List.drop_zero]
      repeat still_step
      refine wpStill_nil ?_
      generalize hhe : hasE (l.take k) x y = c at *
      have Hhe := Lib.hid hhe
      clear hhe
      cases c with
      | true =>
        go_wp2_with (first
          | (go_at_call 28; refine (has_any (l.take k) 0 _ x y w5 HE.out).mono ?_; rintro e w6 ⟨rfl, hb6⟩; rw [Hhe.out]; have g6 := G5.out.below hb6; have cz0 := g6.hz.cell (show 0 < 2 by omega); have cz1 := g6.hz.cell (show 1 < 2 by omega); have zz0 := g6.hz.frozen 0; have zz1 := g6.hz.frozen 1; have hBl := g6.hz.lt; have hAl : A < w6.heap.size := by omega)
          | (go_at_call 21; refine (F_any _ _ _).mono ?_; rintro e wf ⟨rfl, rfl⟩))
        obtain ⟨e0, e1, e2⟩ := (G5.out.below hb6).putA (.int .i64 5) (.int .i64 k) (Obj.cells #[Value.int .i64 5, .int .i64 k] 27)
        exact bodyPost_ret (v := .agg #[.int .i64 5, .int .i64 k]) (by simp [results, Try.results8, go_sem, e0, e1]) rfl ⟨5, k, Or.inr ⟨Hbig.out, Or.inl ⟨k, hlt, Hok.out, Or.inr (Or.inr ⟨Hends.out, by rw [He.out]; exact Hxy.out, by rw [He.out]; exact Hhe.out, rfl⟩), rfl⟩⟩, rfl, e2⟩
      | false =>
        go_wp2_with (go_at_call 28; refine (has_any (l.take k) 0 _ x y w5 HE.out).mono ?_; rintro e w6 ⟨rfl, hb6⟩; rw [Hhe.out]; have G6 := Lib.hid (G5.out.below hb6); clear hb6)
        go_roundg (l.length - (k + 1))
        case measure => go_light; omega
        case rel => exact ⟨k + 1, by omega, rfl, by go_num, G6.out, fun j hj => by
          by_cases e : j = k
          · rw [e]; exact ⟨Hends.out, by rw [He.out]; exact Hxy.out, by rw [He.out]; exact Hhe.out⟩
          · exact Hok.out j (by omega)⟩
    · obtain rfl : l.length = k := by omega
      have Hg1 := Lib.hid hg
      clear hg hcell hadr
      go_wp2
      obtain ⟨e0, e1, e2⟩ := Hg1.out.put (.int .i64 0) (.int .i64 0)
      exact bodyPost_ret (v := .agg #[.int .i64 0, .int .i64 0]) (by simp [results, Try.results8, go_sem, e0, e1]) rfl ⟨0, 0, Or.inr ⟨Hbig.out, Or.inr ⟨Hok.out, rfl, rfl⟩⟩, rfl, e2⟩

end Go.Proofs.Ytnhhohhhpaejmaa
