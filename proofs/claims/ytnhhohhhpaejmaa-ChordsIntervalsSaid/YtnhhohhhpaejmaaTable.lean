/- graph.Table. -/
import Derived.Test.YtnhhohhhpaejmaaTableM
namespace Go.Proofs.Ytnhhohhhpaejmaa
open Go.RowKit

set_option maxHeartbeats 3200000 in
set_option maxRecDepth 100000 in
theorem table_any (l : List (Int × Int)) (N : Nat) (s : Value) (w : World) (h : IsEdges w s l) (hN : N ≤ 100) (hok : ∀ j, j < l.length → EndsOk (N : Int) (l.getD j (0, 0)) ∧ (l.getD j (0, 0)).1 ≠ (l.getD j (0, 0)).2) :
    Calls Try.prog 30 #[.agg #[.int .i64 (N : Int), s]] w (GridPost N (adj l) w) := by
  obtain ⟨ad, cap, bb, o, rfl, hcap, hmax, hadr, -, hcell⟩ := h
  have Hok := Lib.hid hok
  clear hok
  have hmk := run_make_row' (P := Try.prog) 34 39 (.slice none 0 0) 24 Try.underlying34 infoG rfl .i64 .i64 N (by omega) (by omega)
  have hmk2 := run_make_row' (P := Try.prog) 39 4 (.bool false) 1 Try.underlying39 info4 rfl .i64 .i64 N (by omega) (by omega)
  have hst := TMade.start w (N : Int) (.slice ad l.length cap) N
  have Hst := Lib.hid hst
  clear hst
  go_enter Try.func30, Try.ntmps30
  go_wp2
  generalize (w.alloc (Obj.cells #[.int .i64 (N : Int), .slice ad l.length cap] 24)).alloc (.cells (madeCells #[.slice none 0 0] N) 39) = w1 at *
  go_loopg [12] N (fun g s12 wr => ∃ k : Nat, k ≤ N ∧ g = N - k ∧ s12 = .int .i64 k ∧ TMade w wr (N : Int) (.slice ad l.length cap) N k)
  case atStart => exact ⟨0, Nat.zero_le _, rfl, rfl, Hst.out⟩
  case round =>
    obtain ⟨k, hk, rfl, rfl, hm⟩ := hrel
    have Hm := Lib.hid hm
    by_cases hlt : k < N
    · have cn := hm.cn
      have ch := hm.head.cell hlt
      have fh := hm.head.frozen k
      have hl := hm.head.lt
      have hn := hm.step
      rw [World.setCell_alloc_past _ _ _ _ hl] at hn
      have Hn := Lib.hid hn
      clear hm hn
      go_wp2
      go_roundg (N - (k + 1))
      case measure => go_light; omega
      case rel => exact ⟨k + 1, by omega, rfl, by go_num, Hn.out⟩
    · obtain rfl : k = N := by omega
      have cs := hm.cs
      have hst : TState w wr (k : Int) (.slice ad l.length cap) (w.heap.size + 1) k (fun i => w.heap.size + 2 + i) (adj (l.take 0)) := ⟨hm.hb, hm.cn, hm.cs, hm.grid, fun i _ => by omega⟩
      have Hst2 := Lib.hid hst
      clear hm hst hmk hmk2
      go_wp2
      go_loopg [25] l.length (fun g s25 wr => ∃ q : Nat, q ≤ l.length ∧ g = l.length - q ∧ s25 = .int .i64 q ∧ TState w wr (k : Int) (.slice ad l.length cap) (w.heap.size + 1) k (fun i => w.heap.size + 2 + i) (adj (l.take q)))
      case atStart => exact ⟨0, Nat.zero_le _, rfl, rfl, Hst2.out⟩
      case round =>
        obtain ⟨q, hq, rfl, rfl, hm⟩ := hrel
        by_cases hlt : q < l.length
        · obtain rfl := hadr (by omega)
          obtain ⟨x, y, He, cx, cy⟩ := edges_at hcell hm.hb hlt
          have hk1 := Hok.out q hlt
          rw [He.out] at hk1
          obtain ⟨⟨x0, y0, x1, y1⟩, hxy⟩ := hk1
          simp only at x0 y0 x1 y1 hxy
          obtain ⟨X, rfl⟩ := Int.eq_ofNat_of_zero_le x0
          obtain ⟨Y, rfl⟩ := Int.eq_ofNat_of_zero_le y0
          have hX : X < k := by omega
          have hY : Y < k := by omega
          have Hm := Lib.hid hm
          have Hxy := Lib.hid hxy
          clear hm hxy x0 y0 x1 y1 hcell hadr
          go_wp2_with fail
          have g5 := Hm.out.below (below1 wr (Obj.cells #[.int .i64 (X : Int), .int .i64 (Y : Int)] 52))
          have ce0 : (wr.alloc (Obj.cells #[.int .i64 (X : Int), .int .i64 (Y : Int)] 52)).cell? ⟨wr.heap.size, 0, none⟩ = some (.int .i64 X) := (two_cells wr (.int .i64 X) (.int .i64 Y) 52).1
          have ce1 : (wr.alloc (Obj.cells #[.int .i64 (X : Int), .int .i64 (Y : Int)] 52)).cell? ⟨wr.heap.size, 1, none⟩ = some (.int .i64 Y) := (two_cells wr (.int .i64 X) (.int .i64 Y) 52).2
          have l1 := (Hm.out.grid.row X hX).lt
          have l2 := (Hm.out.grid.row Y hY).lt
          generalize wr.heap.size = E at *
          generalize wr.alloc (Obj.cells #[.int .i64 (X : Int), .int .i64 (Y : Int)] 52) = w5 at *
          have hx := g5.grid.head X hX
          have hy := g5.grid.head Y hY
          rw [Nat.zero_add] at hx hy
          have g7 := ((g5.below (Below.refl _ _).drew).set hX Y).set hY X
          have t1 := g5.grid.cell hX hY
          have f1 := (g5.grid.row X hX).frozen Y
          have t2 := g5.grid.cell hY hX
          have f2 := (g5.grid.row Y hY).frozen X
          have m1 := (g5.grid.row X hX).lt
          have m2 := (g5.grid.row Y hY).lt
          have n1 : w.heap.size + 2 + X ≠ E := by omega
          have n2 : w.heap.size + 2 + Y ≠ E := by omega
          have n3 : w.heap.size + 2 + X ≠ w.heap.size + 1 := by omega
          have n4 : w.heap.size + 2 + Y ≠ w.heap.size + 1 := by omega
          have n5 : w.heap.size + 2 + X ≠ w.heap.size + 2 + Y := by have := Hxy.out; omega
          have n6 := Ne.symm n5
          have G7 := Lib.hid g7
          clear g5 g7 cx cy
          generalize w.heap.size + 2 + X = bX at *
          generalize w.heap.size + 2 + Y = bY at *
          generalize w.heap.size + 1 = bH at *
          go_region_held3 (fun w' => w'.cell? ⟨E, 0, none⟩ = some (.int .i64 X) ∧ w'.cell? ⟨E, 1, none⟩ = some (.int .i64 Y) ∧ w'.cell? ⟨bH, X, none⟩ = some (.slice (some ⟨bX, 0, none⟩) k k) ∧ w'.cell? ⟨bH, Y, none⟩ = some (.slice (some ⟨bY, 0, none⟩) k k)) (go_keep) (fail)
          go_wp2
          go_roundg (l.length - (q + 1))
          case measure => go_light; omega
          case rel => exact ⟨q + 1, by omega, rfl, by go_num, by
            have e : (fun i j => if i = Y ∧ j = X then true else if i = X ∧ j = Y then true else adj (l.take q) i j) = adj (l.take (q + 1)) := by
              funext i j; exact adj_succ hlt He.out i j
            rw [← e]; exact G7.out⟩
        · obtain rfl : l.length = q := by omega
          have Hm := Lib.hid hm
          clear hm hcell hadr
          go_wp2
          go_ret
          have hgr := Hm.out.grid
          rw [List.take_length] at hgr
          exact ⟨_, rfl, ⟨_, k, w.heap.size + 1, 0, fun i => w.heap.size + 2 + i, rfl, Nat.le_refl _, fun _ => ⟨rfl, Nat.le_succ _⟩, hgr⟩, Hm.out.hb⟩

end Go.Proofs.Ytnhhohhhpaejmaa
