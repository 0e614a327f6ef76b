/- walks.fault, walks.look: what is wrong with a graph and nodes of it. -/
import Derived.Test.YtnmljgjegodkaaaComplS
import Derived.Deep.RegionHeld3
namespace Go.Proofs.Ytnmljgjegodkaaa
open Go.RowKit

/-- The argument's box, and the fault that comes back. -/
structure WkG (w wr : World) (n : Int) (s : Value) (l : List (Int × Int)) : Prop where
  hb : Below w.heap.size w wr
  cn : wr.cell? ⟨w.heap.size, 0, none⟩ = some (.int .i64 n)
  cs : wr.cell? ⟨w.heap.size, 1, none⟩ = some s
  he : IsEdges wr s l
  r : wr.rowIs (w.heap.size + 1) 27 2 (fun i => if i = 0 then .int .i64 0 else .int .i64 0)
theorem WkG.start {w : World} {n : Int} {s : Value} {l : List (Int × Int)} (h : IsEdges w s l) : WkG w ((w.alloc (Obj.cells #[.int .i64 n, s] 24)).alloc (Obj.cells #[.int .i64 0, .int .i64 0] 27)) n s l := by
  obtain ⟨c0, c1⟩ := two_cells w (.int .i64 n) s 24
  have hr := two_row (w.alloc (Obj.cells #[.int .i64 n, s] 24)) (.int .i64 0) (.int .i64 0) 27
  rw [World.size_alloc] at hr
  have hb := below2 w (Obj.cells #[.int .i64 n, s] 24) (Obj.cells #[.int .i64 0, .int .i64 0] 27)
  exact ⟨hb, below_cell (below1 _ _) c0, below_cell (below1 _ _) c1, h.below hb, hr⟩
theorem WkG.below {w wr w' : World} {n : Int} {s : Value} {l : List (Int × Int)} (h : WkG w wr n s l) (hb : Below wr.heap.size wr w') : WkG w w' n s l :=
  ⟨h.hb.trans (hb.mono h.hb.size), below_cell hb h.cn, below_cell hb h.cs, h.he.below hb, h.r.of_block (hb.block _ h.r.lt)⟩
/-- The fault is stored. -/
theorem WkG.put {w wr : World} {n : Int} {s : Value} {l : List (Int × Int)} (h : WkG w wr n s l) (c a : Value) :
    ((wr.setCell ⟨w.heap.size + 1, 0, none⟩ c).setCell ⟨w.heap.size + 1, 1, none⟩ a).cell? ⟨w.heap.size + 1, 0, none⟩ = some c ∧ ((wr.setCell ⟨w.heap.size + 1, 0, none⟩ c).setCell ⟨w.heap.size + 1, 1, none⟩ a).cell? ⟨w.heap.size + 1, 1, none⟩ = some a ∧ Below w.heap.size w ((wr.setCell ⟨w.heap.size + 1, 0, none⟩ c).setCell ⟨w.heap.size + 1, 1, none⟩ a) :=
  ⟨((h.r.set 0 c).set 1 a).cell (show 0 < 2 by omega), ((h.r.set 0 c).set 1 a).cell (show 1 < 2 by omega), (h.hb.setCell (p := ⟨w.heap.size + 1, 0, none⟩) (Nat.le_succ _) _).setCell (p := ⟨w.heap.size + 1, 1, none⟩) (Nat.le_succ _) _⟩

theorem WkG.putA {w wr : World} {n : Int} {s : Value} {l : List (Int × Int)} (h : WkG w wr n s l) (c a : Value) (o : Obj) :
    (((wr.setCell ⟨w.heap.size + 1, 0, none⟩ c).setCell ⟨w.heap.size + 1, 1, none⟩ a).alloc o).cell? ⟨w.heap.size + 1, 0, none⟩ = some c ∧ (((wr.setCell ⟨w.heap.size + 1, 0, none⟩ c).setCell ⟨w.heap.size + 1, 1, none⟩ a).alloc o).cell? ⟨w.heap.size + 1, 1, none⟩ = some a ∧ Below w.heap.size w (((wr.setCell ⟨w.heap.size + 1, 0, none⟩ c).setCell ⟨w.heap.size + 1, 1, none⟩ a).alloc o) := by
  obtain ⟨e0, e1, e2⟩ := h.put c a
  exact ⟨below_cell (below1 _ _) e0, below_cell (below1 _ _) e1, e2.alloc e2.size _⟩

/-- What is wrong with nodes of a graph. -/
def LookR (n : Int) (l : List (Int × Int)) (L : List Int) (c a : Int) : Prop :=
  ∃ c0 a0, GraphSpec n l c0 a0 ∧ ((c0 ≠ 0 ∧ c = c0 ∧ a = a0) ∨ (c0 = 0 ∧ ((∃ i : Nat, i < L.length ∧ (∀ j, j < i → 0 ≤ L.getD j 0 ∧ L.getD j 0 < n) ∧ ¬ (0 ≤ L.getD i 0 ∧ L.getD i 0 < n) ∧ c = 3 ∧ a = i) ∨ ((∀ j, j < L.length → 0 ≤ L.getD j 0 ∧ L.getD j 0 < n) ∧ c = 0 ∧ a = 0))))
theorem LookR.uniq {n : Int} {l : List (Int × Int)} {L : List Int} {c a c' a' : Int} (h : LookR n l L c a) (h' : LookR n l L c' a') : c = c' ∧ a = a' := by
  obtain ⟨c0, a0, hs, h⟩ := h
  obtain ⟨c1, a1, hs', h'⟩ := h'
  obtain ⟨rfl, rfl⟩ := hs.uniq hs'
  rcases h with ⟨h1, rfl, rfl⟩ | ⟨h1, h⟩ <;> rcases h' with ⟨h1', rfl, rfl⟩ | ⟨h1', h'⟩
  · exact ⟨rfl, rfl⟩
  · exact absurd h1' h1
  · exact absurd h1 h1'
  · rcases h with ⟨i, hi, hr, hb, rfl, rfl⟩ | ⟨hr, rfl, rfl⟩ <;> rcases h' with ⟨i', hi', hr', hb', rfl, rfl⟩ | ⟨hr', rfl, rfl⟩
    · have e : i = i' := by
        rcases Nat.lt_trichotomy i i' with h | h | h
        · exact absurd (hr' i h) hb
        · exact h
        · exact absurd (hr i' h) hb'
      subst e
      exact ⟨rfl, rfl⟩
    · exact absurd (hr' i hi) hb
    · exact absurd (hr i' hi') hb'
    · exact ⟨rfl, rfl⟩
theorem LookR.none {n : Int} {l : List (Int × Int)} {c a : Int} (h : GraphSpec n l c a) : LookR n l [] c a := by
  refine ⟨c, a, h, ?_⟩
  by_cases hc : c = 0
  · subst hc
    exact .inr ⟨rfl, .inr ⟨fun j hj => absurd hj (by simp), rfl, h.good.2⟩⟩
  · exact .inl ⟨hc, rfl, rfl⟩

theorem wfault_any (c a : Int) (w : World) :
    Calls Try.prog 48 #[.int .i64 c, .int .i64 a] w fun e w' => e = .returned (.agg #[.int .i64 c, .int .i64 a]) ∧ w.alloc (.cells #[.int .i64 c, .int .i64 a] 27) = w' := by
  go_enter Try.func48, Try.ntmps48
  go_wp2
  exact bodyPost_ret (v := .agg #[.int .i64 c, .int .i64 a]) (by simp [results, Try.results48, go_sem]) rfl ⟨rfl, rfl⟩

set_option maxHeartbeats 3200000 in
set_option maxRecDepth 100000 in
theorem wlook_any (n : Int) (l : List (Int × Int)) (L : List Int) (s nv : Value) (w : World) (h : IsEdges w s l) (hL : IsInts w nv L) (hLl : L.length ≤ 1000) :
    Calls Try.prog 46 #[.agg #[.int .i64 n, s], nv] w fun e w' => ∃ c a, LookR n l L c a ∧ e = .returned (.agg #[.int .i64 c, .int .i64 a]) ∧ Below w.heap.size w w' := by
  obtain ⟨ad, cap, rfl⟩ := h.form
  have St := Lib.hid (WkG.start (n := n) h)
  have HI := Lib.hid (hL.below (below2 w (Obj.cells #[.int .i64 n, .slice ad l.length cap] 24) (Obj.cells #[.int .i64 0, .int .i64 0] 27)))
  obtain ⟨an, cn, bn, on, rfl, -, -, -, -⟩ := hL
  obtain ⟨c, a, hs⟩ := GraphSpec.ex n l
  have Hs := Lib.hid hs
  clear h hs
  go_enter Try.func46, Try.ntmps46
  go_upto_region 1 with fail
  generalize (w.alloc (Obj.cells #[.int .i64 n, .slice ad l.length cap] 24)).alloc (Obj.cells #[.int .i64 0, .int .i64 0] 27) = w1 at *
  have cn := St.out.cn
  have cs := St.out.cs
  have hl := St.out.r.lt
  go_upto_region 2 with (go_at_call 78; refine (gcheck_is Hs.out _ _ St.out.he).mono ?_; rintro e w2 ⟨rfl, hb2⟩; have hz2 := hb2.size; have hb3 := hb2.trans ((below1 w2 (Obj.cells #[.int .i64 c, .int .i64 a] 27)).mono hb2.size); have S2 := Lib.hid (St.out.below hb3); have I2 := Lib.hid (HI.out.below hb3); have e01 := two_cells w2 (.int .i64 c) (.int .i64 a) 27; clear hb2 hb3)
  generalize w2.alloc (Obj.cells #[.int .i64 c, .int .i64 a] 27) = w3 at *
  obtain ⟨e0, e1⟩ := e01
  clear cn cs St HI
  have n1 : w.heap.size + 1 ≠ w2.heap.size := by omega
  generalize w2.heap.size = E at *
  by_cases hc : c = 0
  · subst hc
    obtain ⟨ab, cb, bb, ob, e0', hcap, hmax, hadr, -, hcell⟩ := I2.out
    simp only [Value.slice.injEq] at e0'
    obtain ⟨rfl, -, rfl⟩ := e0'
    have Hcell := Lib.hid hcell; have Hadr := Lib.hid hadr
    clear hcell hadr
    go_wp2
    clear e0 e1
    go_loopg [16] L.length (fun g s16 wr => ∃ k : Nat, k ≤ L.length ∧ g = L.length - k ∧ s16 = .int .i64 (k : Int) ∧ Below w3.heap.size w3 wr ∧ ∀ j, j < k → 0 ≤ L.getD j 0 ∧ L.getD j 0 < n)
    case atStart => exact ⟨0, Nat.zero_le _, rfl, rfl, Below.refl _ _, fun _ h => absurd h (Nat.not_lt_zero _)⟩
    case round =>
      obtain ⟨k, hk, rfl, rfl, hb, hok⟩ := hrel
      have Sk := Lib.hid (S2.out.below hb)
      have Hok := Lib.hid hok; have Hb := Lib.hid hb
      have cn := Sk.out.cn
      obtain ⟨z0, z1, f0, f1, l0⟩ := row_facts Sk.out.r
      clear hok
      by_cases hlt : k < L.length
      · obtain rfl := Hadr.out (by omega)
        have cx := below_cell hb (Hcell.out k hlt)
        obtain ⟨x, hx⟩ : ∃ x, L.getD k 0 = x := ⟨_, rfl⟩
        rw [hx] at cx
        have Hx := Lib.hid hx
        clear hb hx
        by_cases x1 : x < 0
        · go_wp2_with (go_at_call 48; refine (wfault_any _ _ _).mono ?_; rintro e wf ⟨rfl, rfl⟩)
          obtain ⟨p0, p1, p2⟩ := Sk.out.putA (.int .i64 3) (.int .i64 (k : Int)) (Obj.cells #[.int .i64 3, .int .i64 (k : Int)] 27)
          exact bodyPost_ret (v := .agg #[.int .i64 3, .int .i64 (k : Int)]) (by simp [results, Try.results46, go_sem, p0, p1]) rfl ⟨3, k, ⟨_, _, Hs.out, .inr ⟨rfl, .inl ⟨k, hlt, Hok.out, by rw [Hx.out]; omega, rfl, rfl⟩⟩⟩, rfl, p2⟩
        · by_cases x2 : n ≤ x
          · go_wp2_with (go_at_call 48; refine (wfault_any _ _ _).mono ?_; rintro e wf ⟨rfl, rfl⟩)
            obtain ⟨p0, p1, p2⟩ := Sk.out.putA (.int .i64 3) (.int .i64 (k : Int)) (Obj.cells #[.int .i64 3, .int .i64 (k : Int)] 27)
            exact bodyPost_ret (v := .agg #[.int .i64 3, .int .i64 (k : Int)]) (by simp [results, Try.results46, go_sem, p0, p1]) rfl ⟨3, k, ⟨_, _, Hs.out, .inr ⟨rfl, .inl ⟨k, hlt, Hok.out, by rw [Hx.out]; omega, rfl, rfl⟩⟩⟩, rfl, p2⟩
          · clear z0 z1 f0 f1
            go_wp2
            go_roundg (L.length - (k + 1))
            case measure => go_light; omega
            case rel => exact ⟨k + 1, by omega, rfl, by go_num, Hb.out, fun j hj => by
              by_cases e : j = k
              · subst e; rw [Hx.out]; omega
              · exact Hok.out j (by omega)⟩
      · obtain rfl : L.length = k := by omega
        obtain ⟨p0, p1, p2⟩ := Sk.out.put (.int .i64 0) (.int .i64 0)
        go_wp2
        exact bodyPost_ret (v := .agg #[.int .i64 0, .int .i64 0]) (by simp [results, Try.results46, go_sem, p0, p1]) rfl ⟨0, 0, ⟨_, _, Hs.out, .inr ⟨rfl, .inr ⟨Hok.out, rfl, rfl⟩⟩⟩, rfl, p2⟩
  · have q : (c != 0) = true := by simpa using hc
    obtain ⟨z0, z1, f0, f1, l0⟩ := row_facts S2.out.r
    obtain ⟨p0, p1, p2⟩ := S2.out.put (.int .i64 c) (.int .i64 a)
    have Hc := Lib.hid hc
    clear hc
    go_wp2
    exact bodyPost_ret (v := .agg #[.int .i64 c, .int .i64 a]) (by simp [results, Try.results46, go_sem, p0, p1]) rfl ⟨c, a, ⟨_, _, Hs.out, .inl ⟨Hc.out, rfl, rfl⟩⟩, rfl, p2⟩

end Go.Proofs.Ytnmljgjegodkaaa
