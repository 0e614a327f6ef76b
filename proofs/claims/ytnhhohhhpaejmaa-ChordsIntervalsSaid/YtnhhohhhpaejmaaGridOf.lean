/- arborref.GridOf: the table of a graph. -/
import Derived.Test.YtnhhohhhpaejmaaTableM
namespace Go.Proofs.Ytnhhohhhpaejmaa
open Go.RowKit

/-- k rows are made, and appended. -/
structure GMade (w wr : World) (n : Int) (s : Value) (N k : Nat) (v : Value) (R : Nat → Nat) : Prop where
  hb : Below w.heap.size w wr
  cn : wr.cell? ⟨w.heap.size, 0, none⟩ = some (.int .i64 n)
  cs : wr.cell? ⟨w.heap.size, 1, none⟩ = some s
  own : wr.ownsRow (w.heap.size + 1) 39 1 v k ((List.range k).map fun i => .slice (some ⟨R i, 0, none⟩) N N)
  row : ∀ i, i < k → wr.rowIs (R i) 4 N (rb fun _ => false)
  new : ∀ i, i < k → w.heap.size < R i
  inj : ∀ i j, i < k → j < k → R i = R j → i = j

theorem GMade.start (w : World) (n : Int) (s : Value) (N : Nat) : GMade w (w.alloc (Obj.cells #[.int .i64 n, s] 24)) n s N 0 (.slice none 0 0) (fun _ => 0) := by
  have c0 := two_cells w (.int .i64 n) s 24
  exact ⟨below1 _ _, c0.1, c0.2, World.ownsRow_nil _ _ _ _, fun i hi => absurd hi (Nat.not_lt_zero _), fun i hi => absurd hi (Nat.not_lt_zero _), fun i _ hi => absurd hi (Nat.not_lt_zero _)⟩

theorem GMade.off {w wr : World} {n : Int} {s v : Value} {N k : Nat} {R : Nat → Nat} (h : GMade w wr n s N k v R) {g : Nat} (hg : v.ownBlock = some g) {i : Nat} (hi : i < k) : R i ≠ g := by
  obtain ⟨c, fz, hc⟩ := ownsRow_type h.own g hg
  obtain ⟨c', hc', _⟩ := h.row i hi
  intro e
  rw [e, hc] at hc'
  simp only [Option.some.injEq, Obj.cells.injEq] at hc'
  exact absurd hc'.2.1 (by decide)

theorem GMade.step {w wr w2 : World} {n : Int} {s v v2 : Value} {N k : Nat} {R : Nat → Nat} {o : Obj} (h : GMade w wr n s N k v R)
    (h2 : w2.ownsRow (w.heap.size + 1) 39 1 v2 (k + 1) ((List.range k).map (fun i => Value.slice (some ⟨R i, 0, none⟩) N N) ++ [.slice (some ⟨wr.heap.size, 0, none⟩) N N]))
    (hg : ((wr.alloc (.cells (madeCells #[.bool false] N) 4)).alloc o).grownBy w2 v.ownBlock) :
    GMade w w2 n s N (k + 1) v2 (fun i => if i = k then wr.heap.size else R i) := by
  have hb1 := below2 wr (.cells (madeCells #[.bool false] N) 4) o
  have hlo : ∀ g, v.ownBlock = some g → w.heap.size + 1 ≤ g ∧ g < wr.heap.size := fun g e => h.own.lt g e
  have hr := World.rowIs_made wr (.bool false) N 4
  have hr2 := hr.of_block ((below1 (wr.alloc (.cells (madeCells #[.bool false] N) 4)) o).block _ hr.lt)
  have hsz := h.hb.size
  have blk : ∀ q, q < wr.heap.size → v.ownBlock ≠ some q → w2.heap[q]? = wr.heap[q]? := fun q hq hne => by
    rw [hg.block q (by rw [World.size_alloc, World.size_alloc]; omega) (Ne.symm hne), hb1.block q hq]
  have hk0 : w.heap.size < wr.heap.size := World.block_lt_of_cell? _ _ h.cn
  have eA : w2.heap[w.heap.size]? = wr.heap[w.heap.size]? := blk _ hk0 (fun e => by have := (hlo _ e).1; omega)
  refine ⟨?_, ?_, ?_, ?_, fun i hi => ?_, fun i hi => ?_, fun i j hi hj e => ?_⟩
  · exact (h.hb.trans (hb1.mono hsz)).grown hg (by rw [World.size_alloc, World.size_alloc]; omega) (fun g e => by have := (hlo g e).1; omega)
  · rw [World.cell?_of_block eA]; exact h.cn
  · rw [World.cell?_of_block eA]; exact h.cs
  · rw [List.range_succ, List.map_append]
    have e : (List.range k).map (fun i => Value.slice (some ⟨if i = k then wr.heap.size else R i, 0, none⟩) N N) = (List.range k).map (fun i => Value.slice (some ⟨R i, 0, none⟩) N N) := by
      apply List.map_congr_left
      intro i hi
      have := List.mem_range.1 hi
      rw [if_neg (by omega)]
    rw [e]
    simpa using h2
  · by_cases e : i = k
    · subst e
      rw [if_pos rfl]
      refine hr2.of_block (hg.block _ (by rw [World.size_alloc, World.size_alloc]; omega) (fun e => ?_))
      have := (hlo _ e.symm).2; omega
    · rw [if_neg e]
      have hi' : i < k := by omega
      exact (h.row i hi').of_block (blk _ (h.row i hi').lt (fun e => h.off e hi' rfl))
  · by_cases e : i = k
    · rw [if_pos e]; omega
    · rw [if_neg e]; exact h.new i (by omega)
  · by_cases e1 : i = k <;> by_cases e2 : j = k
    · omega
    · rw [if_pos e1, if_neg e2] at e; have := (h.row j (by omega)).lt; omega
    · rw [if_neg e1, if_pos e2] at e; have := (h.row i (by omega)).lt; omega
    · rw [if_neg e1, if_neg e2] at e; exact h.inj i j (by omega) (by omega) e

theorem GMade.grid {w wr : World} {n : Int} {s v : Value} {N : Nat} {R : Nat → Nat} (h : GMade w wr n s N N v R) :
    ∃ a c b, v = .slice a N c ∧ N ≤ c ∧ c ≤ 9223372036854775807 ∧ (0 < N → a = some ⟨b, 0, none⟩ ∧ w.heap.size ≤ b) ∧ TState w wr n s b N R (adj []) := by
  obtain ⟨a, c, rfl⟩ := ownsRow_form h.own
  obtain ⟨h1, h2, h3, b, h4, h5⟩ := ownsRow_cap h.own
  refine ⟨a, c, b, rfl, h1, h2, fun hp => ⟨(h4 hp).1, by have := (h4 hp).2; omega⟩, h.hb, h.cn, h.cs, ⟨fun i hi => Nat.le_of_lt (h.new i hi), h.inj, fun i hi => ?_, fun i hi => row_rb (h.row i hi) fun _ _ => rfl, fun i hi => ?_⟩, h.new⟩
  · rw [Nat.zero_add]; exact h5 i _ (by simp [hi])
  · exact h.off (by rw [(h4 (by omega)).1]; rfl) hi

set_option maxHeartbeats 3200000 in
set_option maxRecDepth 100000 in
theorem gridOf_any (l : List (Int × Int)) (N : Nat) (s : Value) (w : World) (h : IsEdges w s l) (hN : N ≤ 100) (hok : ∀ j, j < l.length → EndsOk (N : Int) (l.getD j (0, 0)) ∧ (l.getD j (0, 0)).1 ≠ (l.getD j (0, 0)).2) :
    Calls Try.prog 12 #[.agg #[.int .i64 (N : Int), s]] w (GridPost N (adj l) w) := by
  obtain ⟨ad, cap, bb, o, rfl, hcap, hmax, hadr, -, hcell⟩ := h
  have Hok := Lib.hid hok
  clear hok
  have hmk2 := run_make_row' (P := Try.prog) 39 4 (.bool false) 1 Try.underlying39 info4 rfl .i64 .i64 N (by omega) (by omega)
  have hst := GMade.start w (N : Int) (.slice ad l.length cap) N
  have Hst := Lib.hid hst
  clear hst
  go_enter Try.func12, Try.ntmps12
  go_wp2
  generalize w.alloc (Obj.cells #[.int .i64 (N : Int), .slice ad l.length cap] 24) = w1 at *
  go_loopg [3, 4] N (fun g s3 s4 wr => ∃ (k : Nat) (R : Nat → Nat), k ≤ N ∧ g = N - k ∧ s4 = .int .i64 k ∧ GMade w wr (N : Int) (.slice ad l.length cap) N k s3 R)
  case atStart => exact ⟨0, _, Nat.zero_le _, rfl, rfl, Hst.out⟩
  case round =>
    obtain ⟨k, R, hk, rfl, rfl, hm⟩ := hrel
    have Hm := Lib.hid hm
    by_cases hlt : k < N
    · have cn := hm.cn
      have hsz := hm.hb.size
      have hlo : w.heap.size < wr.heap.size := World.block_lt_of_cell? _ _ cn
      have hown := hm.own
      obtain ⟨va, vc, rfl⟩ := ownsRow_form hown
      have Hown := Lib.hid hown
      clear hm hown
      go_wp2_with (at_builtin; refine wpList_append_has rfl (.tmp 13) (.tmp 17) 35 rfl (w.heap.size + 1) 39 (.slice none 0 0) 24 Try.underlying35 infoG rfl _ k _ rfl ((Hown.out.alloc _).alloc _) _ 1 [.slice (some ⟨wr.heap.size, 0, none⟩) N N] rfl (HasCells.at _ _ _ rfl (by simp)) (by omega) (by omega) (by simp; omega) ?_; intro a2 c2 w2 hown2 hg2)
      have Hn := Lib.hid (Hm.out.step hown2 hg2)
      clear hown2 hg2
      go_roundg (N - (k + 1))
      case measure => go_light; omega
      case rel => exact ⟨k + 1, _, by omega, rfl, by go_num, Hn.out⟩
    · obtain rfl : k = N := by omega
      have cn := hm.cn
      obtain ⟨va, vc, hd, rfl, hvc, hvm, hva, hts⟩ := hm.grid
      have Hts := Lib.hid hts
      clear hm hts Hm hmk2
      go_wp2
      go_loopg [5] l.length (fun g s5 wr => ∃ q : Nat, q ≤ l.length ∧ g = l.length - q ∧ s5 = .int .i64 q ∧ TState w wr (k : Int) (.slice ad l.length cap) hd k R (adj (l.take q)))
      case atStart => exact ⟨0, Nat.zero_le _, rfl, rfl, Hts.out⟩
      case round =>
        obtain ⟨q, hq, rfl, rfl, hm⟩ := hrel
        have cs := hm.cs
        by_cases hlt : q < l.length
        · obtain rfl := hadr (by omega)
          obtain ⟨x, y, He, cx, cy⟩ := edges_at hcell hm.hb hlt
          have hk1 := Hok.out q hlt
          rw [He.out] at hk1
          obtain ⟨⟨x0, y0, x1, y1⟩, hxy⟩ := hk1
          simp only at x0 y0 x1 y1 hxy
          obtain ⟨X, rfl⟩ := Int.eq_ofNat_of_zero_le x0
          obtain ⟨Y, rfl⟩ := Int.eq_ofNat_of_zero_le y0
          have hX : X < k := by omega
          have hY : Y < k := by omega
          obtain rfl := (hva (by omega)).1
          have Hm := Lib.hid hm
          clear hm hxy x0 y0 x1 y1 hcell hadr hva
          go_wp2_with fail
          refine region_tail 8 (by kernel_rfl) (by kernel_rfl) ?_
          have g5 := (Hm.out.below (below1 wr (Obj.cells #[.int .i64 (X : Int), .int .i64 (Y : Int)] 52))).below (Below.refl _ _).drew
          have ce0 : (wr.alloc (Obj.cells #[.int .i64 (X : Int), .int .i64 (Y : Int)] 52)).drew.cell? ⟨wr.heap.size, 0, none⟩ = some (.int .i64 X) := (two_cells wr (.int .i64 X) (.int .i64 Y) 52).1
          have ce1 : (wr.alloc (Obj.cells #[.int .i64 (X : Int), .int .i64 (Y : Int)] 52)).drew.cell? ⟨wr.heap.size, 1, none⟩ = some (.int .i64 Y) := (two_cells wr (.int .i64 X) (.int .i64 Y) 52).2
          have l1 := (Hm.out.grid.row X hX).lt
          have n1 : R X ≠ wr.heap.size := by omega
          generalize wr.heap.size = E at *
          generalize (wr.alloc (Obj.cells #[.int .i64 (X : Int), .int .i64 (Y : Int)] 52)).drew = w5 at *
          have hx := g5.grid.head X hX
          rw [Nat.zero_add] at hx
          have g6 := (g5.set hX Y).below (Below.refl _ _).drew
          have t1 := g5.grid.cell hX hY
          have f1 := (g5.grid.row X hX).frozen Y
          have m1 := (g5.grid.row X hX).lt
          have ce0' : (w5.setCell ⟨R X, Y, none⟩ (.bool true)).drew.cell? ⟨E, 0, none⟩ = some (.int .i64 X) := by
            show (w5.setCell ⟨R X, Y, none⟩ (.bool true)).cell? _ = _
            rw [World.cell?_setCell_far _ _ _ _ n1]; exact ce0
          have ce1' : (w5.setCell ⟨R X, Y, none⟩ (.bool true)).drew.cell? ⟨E, 1, none⟩ = some (.int .i64 Y) := by
            show (w5.setCell ⟨R X, Y, none⟩ (.bool true)).cell? _ = _
            rw [World.cell?_setCell_far _ _ _ _ n1]; exact ce1
          have G6 := Lib.hid g6
          have Ce := Lib.hid (And.intro ce0' ce1')
          clear g5 g6 cx cy ce0' ce1'
          simp only [List.take_succ_cons, List.take_zero, List.drop_succ_cons, List.drop_zero]
          repeat still_step
          refine wpStill_nil ?_
          go_wp2_with fail
          refine region_tail 8 (by kernel_rfl) (by kernel_rfl) ?_
          clear hx t1 f1 m1 ce0 ce1
          generalize (w5.setCell ⟨R X, Y, none⟩ (.bool true)).drew = w7 at *
          obtain ⟨ce0, ce1⟩ := Ce.out
          have g7 := G6.out
          have hy := g7.grid.head Y hY
          rw [Nat.zero_add] at hy
          have t1 := g7.grid.cell hY hX
          have f1 := (g7.grid.row Y hY).frozen X
          have m1 := (g7.grid.row Y hY).lt
          have G8 := Lib.hid (g7.set hY X)
          clear g7
          simp only [List.take_succ_cons, List.take_zero, List.drop_succ_cons, List.drop_zero]
          repeat still_step
          refine wpStill_nil ?_
          go_wp2
          go_roundg (l.length - (q + 1))
          case measure => go_light; omega
          case rel => exact ⟨q + 1, by omega, rfl, by go_num, by
            have e : (fun i j => if i = Y ∧ j = X then true else if i = X ∧ j = Y then true else adj (l.take q) i j) = adj (l.take (q + 1)) := by
              funext i j; exact adj_succ hlt He.out i j
            rw [← e]; exact G8.out⟩
        · obtain rfl : l.length = q := by omega
          have Hm := Lib.hid hm
          clear hm hcell hadr
          go_wp2
          go_ret
          have hgr := Hm.out.grid
          rw [List.take_length] at hgr
          exact ⟨_, rfl, ⟨_, _, hd, 0, R, rfl, hvc, hva, hgr⟩, Hm.out.hb⟩

end Go.Proofs.Ytnhhohhhpaejmaa
