/- graph.Table: the table of a graph. -/
import Derived.Test.YtbnbhjeknocboaaGOwn
import Derived.Test.YtbnbhjeknocboaaOpen
import Derived.Deep.RegionHeld3
namespace Go.Proofs.Ytbnbhjeknocboaa
open Go.RowKit

theorem infoG : (Try.prog.info? 40).map (fun i => (i.zero, i.size, i.bytes)) = some (some (.slice none 0 0), 1, 24) := by kernel_rfl

/-- Near each other. -/
def adj (l : List (Int × Int)) (i j : Nat) : Bool := hasE l (i : Int) (j : Int)

theorem hasE_snoc (l : List (Int × Int)) (e : Int × Int) (a b : Int) : hasE (l ++ [e]) a b = (hasE l a b || decide (Meets e a b)) := by
  unfold hasE; rw [List.any_append]; simp
theorem take_snoc {l : List (Int × Int)} {k : Nat} {x y : Int} (hk : k < l.length) (he : l.getD k (0, 0) = (x, y)) : l.take (k + 1) = l.take k ++ [(x, y)] := by
  rw [List.take_succ_eq_append_getElem hk]
  have : l[k] = (x, y) := by rw [← he]; simp [List.getD, hk]
  rw [this]
theorem adj_succ {l : List (Int × Int)} {k X Y : Nat} (hk : k < l.length) (he : l.getD k (0, 0) = ((X : Int), (Y : Int))) (i j : Nat) :
    (if i = Y ∧ j = X then true else if i = X ∧ j = Y then true else adj (l.take k) i j) = adj (l.take (k + 1)) i j := by
  unfold adj
  rw [take_snoc hk he, hasE_snoc]
  by_cases h1 : i = Y ∧ j = X
  · have : Meets ((X : Int), (Y : Int)) i j := by unfold Meets; simp only; omega
    simp [h1, this]
    obtain ⟨rfl, rfl⟩ := h1
    exact Or.inr this
  · by_cases h2 : i = X ∧ j = Y
    · have : Meets ((X : Int), (Y : Int)) i j := by unfold Meets; simp only; omega
      rw [if_neg h1, if_pos h2]; simp [this]
    · have : ¬ Meets ((X : Int), (Y : Int)) i j := by unfold Meets; simp only; omega
      rw [if_neg h1, if_neg h2]; simp [this]

/-- k rows are made. -/
structure TMade (w wr : World) (n : Int) (s : Value) (N k : Nat) : Prop where
  hb : Below w.heap.size w wr
  cn : wr.cell? ⟨w.heap.size, 0, none⟩ = some (.int .i64 n)
  cs : wr.cell? ⟨w.heap.size, 1, none⟩ = some s
  size : wr.heap.size = w.heap.size + 2 + k
  head : wr.rowIs (w.heap.size + 1) 40 N (fun i => if i < k then .slice (some ⟨w.heap.size + 2 + i, 0, none⟩) N N else .slice none 0 0)
  row : ∀ i, i < k → wr.rowIs (w.heap.size + 2 + i) 4 N (rb fun _ => false)

theorem TMade.start (w : World) (n : Int) (s : Value) (N : Nat) : TMade w ((w.alloc (Obj.cells #[.int .i64 n, s] 24)).alloc (.cells (madeCells #[.slice none 0 0] N) 40)) n s N 0 := by
  have c0 := two_cells w (.int .i64 n) s 24
  have h1 := World.rowIs_made (w.alloc (Obj.cells #[.int .i64 n, s] 24)) (.slice none 0 0) N 40
  rw [World.size_alloc] at h1
  exact ⟨below2 _ _ _, below_cell (below1 _ _) c0.1, below_cell (below1 _ _) c0.2, by rw [World.size_alloc, World.size_alloc], h1.congr fun i _ => by simp, fun i hi => absurd hi (Nat.not_lt_zero _)⟩

theorem TMade.step {w wr : World} {n : Int} {s : Value} {N k : Nat} (h : TMade w wr n s N k) :
    TMade w ((wr.alloc (.cells (madeCells #[.bool false] N) 4)).setCell ⟨w.heap.size + 1, k, none⟩ (.slice (some ⟨wr.heap.size, 0, none⟩) N N)) n s N (k + 1) := by
  have hsz := h.size
  have hb1 := below1 wr (.cells (madeCells #[.bool false] N) 4)
  have hr := World.rowIs_made wr (.bool false) N 4
  refine ⟨(h.hb.alloc h.hb.size _).setCell (by simp) _, ?_, ?_, ?_, ?_, fun i hi => ?_⟩
  · rw [World.cell?_setCell_far _ _ _ _ (show w.heap.size + 1 ≠ w.heap.size by omega)]; exact below_cell hb1 h.cn
  · rw [World.cell?_setCell_far _ _ _ _ (show w.heap.size + 1 ≠ w.heap.size by omega)]; exact below_cell hb1 h.cs
  · rw [size_setCell, World.size_alloc, hsz]; omega
  · refine ((h.head.of_block (hb1.block _ (by omega))).set k _).congr fun i _ => ?_
    by_cases e : i = k
    · subst e; rw [if_pos rfl, if_pos (by omega), hsz]
    · rw [if_neg e]
      by_cases e2 : i < k
      · rw [if_pos e2, if_pos (by omega)]
      · rw [if_neg e2, if_neg (by omega)]
  · by_cases e : i = k
    · subst e
      have := hr.setOther (a := ⟨w.heap.size + 1, i, none⟩) (show wr.heap.size ≠ w.heap.size + 1 by omega) (.slice (some ⟨wr.heap.size, 0, none⟩) N N)
      rw [hsz] at this ⊢
      exact this
    · have := ((h.row i (by omega)).of_block (hb1.block _ (by omega))).setOther (a := ⟨w.heap.size + 1, k, none⟩) (show w.heap.size + 2 + i ≠ w.heap.size + 1 by omega) (.slice (some ⟨wr.heap.size, 0, none⟩) N N)
      exact this

theorem TMade.grid {w wr : World} {n : Int} {s : Value} {N : Nat} (h : TMade w wr n s N N) : Grid wr w.heap.size (w.heap.size + 1) 0 N (fun i => w.heap.size + 2 + i) (adj []) :=
  ⟨fun i _ => by omega, fun i j _ _ e => by omega, fun i hi => by have := h.head.cell hi; rw [Nat.zero_add, this, if_pos hi], fun i hi => row_rb (h.row i hi) fun _ _ => rfl, fun i _ => by omega⟩

/-- The table under way. -/
structure TState (w wr : World) (n : Int) (s : Value) (b N : Nat) (R : Nat → Nat) (G : Nat → Nat → Bool) : Prop where
  hb : Below w.heap.size w wr
  cn : wr.cell? ⟨w.heap.size, 0, none⟩ = some (.int .i64 n)
  cs : wr.cell? ⟨w.heap.size, 1, none⟩ = some s
  grid : Grid wr w.heap.size b 0 N R G
  up : ∀ i, i < N → w.heap.size < R i

theorem TState.below {w wr w' : World} {n : Int} {s : Value} {b N : Nat} {R : Nat → Nat} {G : Nat → Nat → Bool} (h : TState w wr n s b N R G) (hb : Below wr.heap.size wr w') : TState w w' n s b N R G :=
  ⟨h.hb.trans (hb.mono h.hb.size), below_cell hb h.cn, below_cell hb h.cs, h.grid.below hb, h.up⟩
theorem TState.set {w wr : World} {n : Int} {s : Value} {b N : Nat} {R : Nat → Nat} {G : Nat → Nat → Bool} (h : TState w wr n s b N R G) {x : Nat} (hx : x < N) (y : Nat) :
    TState w (wr.setCell ⟨R x, y, none⟩ (.bool true)) n s b N R (fun i j => if i = x ∧ j = y then true else G i j) := by
  have := h.up x hx
  refine ⟨h.hb.setCell (show w.heap.size ≤ R x by omega) _, ?_, ?_, h.grid.set hx y true, h.up⟩
  · rw [World.cell?_setCell_far _ _ _ _ (show R x ≠ w.heap.size by omega)]; exact h.cn
  · rw [World.cell?_setCell_far _ _ _ _ (show R x ≠ w.heap.size by omega)]; exact h.cs

/-- A table comes back. -/
def GridPost (N : Nat) (G : Nat → Nat → Bool) (w : World) (e : Ending) (w' : World) : Prop := ∃ v, e = .returned v ∧ IsGrid w' w.heap.size v N G ∧ Below w.heap.size w w'

set_option maxHeartbeats 3200000 in
set_option maxRecDepth 100000 in
theorem table_any (l : List (Int × Int)) (N : Nat) (s : Value) (w : World) (h : IsEdges w s l) (hN : N ≤ 100) (hok : ∀ j, j < l.length → EndsOk (N : Int) (l.getD j (0, 0)) ∧ (l.getD j (0, 0)).1 ≠ (l.getD j (0, 0)).2) :
    Calls Try.prog 34 #[.agg #[.int .i64 (N : Int), s]] w (GridPost N (adj l) w) := by
  obtain ⟨ad, cap, bb, o, rfl, hcap, hmax, hadr, -, hcell⟩ := h
  have Hok := Lib.hid hok
  clear hok
  have hmk := run_make_row' (P := Try.prog) 36 40 (.slice none 0 0) 24 Try.underlying36 infoG rfl .i64 .i64 N (by omega) (by omega)
  have hmk2 := run_make_row' (P := Try.prog) 40 4 (.bool false) 1 Try.underlying40 info4 rfl .i64 .i64 N (by omega) (by omega)
  have hst := TMade.start w (N : Int) (.slice ad l.length cap) N
  have Hst := Lib.hid hst
  clear hst
  go_enter Try.func34, Try.ntmps34
  go_wp2
  generalize (w.alloc (Obj.cells #[.int .i64 (N : Int), .slice ad l.length cap] 24)).alloc (.cells (madeCells #[.slice none 0 0] N) 40) = w1 at *
  go_loopg [12] N (fun g s12 wr => ∃ k : Nat, k ≤ N ∧ g = N - k ∧ s12 = .int .i64 k ∧ TMade w wr (N : Int) (.slice ad l.length cap) N k)
  case atStart => exact ⟨0, Nat.zero_le _, rfl, rfl, Hst.out⟩
  case round =>
    obtain ⟨k, hk, rfl, rfl, hm⟩ := hrel
    have Hm := Lib.hid hm
    by_cases hlt : k < N
    · have cn := hm.cn
      have ch := hm.head.cell hlt
      have fh := hm.head.frozen k
      have hl := hm.head.lt
      have hn := hm.step
      rw [World.setCell_alloc_past _ _ _ _ hl] at hn
      have Hn := Lib.hid hn
      clear hm hn
      go_wp2
      go_roundg (N - (k + 1))
      case measure => go_light; omega
      case rel => exact ⟨k + 1, by omega, rfl, by go_num, Hn.out⟩
    · obtain rfl : k = N := by omega
      have cs := hm.cs
      have hst : TState w wr (k : Int) (.slice ad l.length cap) (w.heap.size + 1) k (fun i => w.heap.size + 2 + i) (adj (l.take 0)) := ⟨hm.hb, hm.cn, hm.cs, hm.grid, fun i _ => by omega⟩
      have Hst2 := Lib.hid hst
      clear hm hst hmk hmk2
      go_wp2
      go_loopg [25] l.length (fun g s25 wr => ∃ q : Nat, q ≤ l.length ∧ g = l.length - q ∧ s25 = .int .i64 q ∧ TState w wr (k : Int) (.slice ad l.length cap) (w.heap.size + 1) k (fun i => w.heap.size + 2 + i) (adj (l.take q)))
      case atStart => exact ⟨0, Nat.zero_le _, rfl, rfl, Hst2.out⟩
      case round =>
        obtain ⟨q, hq, rfl, rfl, hm⟩ := hrel
        by_cases hlt : q < l.length
        · obtain rfl := hadr (by omega)
          obtain ⟨x, y, He, cx, cy⟩ := edges_at hcell hm.hb hlt
          have hk1 := Hok.out q hlt
          rw [He.out] at hk1
          obtain ⟨⟨x0, y0, x1, y1⟩, hxy⟩ := hk1
          simp only at x0 y0 x1 y1 hxy
          obtain ⟨X, rfl⟩ := Int.eq_ofNat_of_zero_le x0
          obtain ⟨Y, rfl⟩ := Int.eq_ofNat_of_zero_le y0
          have hX : X < k := by omega
          have hY : Y < k := by omega
          have Hm := Lib.hid hm
          have Hxy := Lib.hid hxy
          clear hm hxy x0 y0 x1 y1 hcell hadr
          go_wp2_with fail
          have g5 := Hm.out.below (below1 wr (Obj.cells #[.int .i64 (X : Int), .int .i64 (Y : Int)] 44))
          have ce0 : (wr.alloc (Obj.cells #[.int .i64 (X : Int), .int .i64 (Y : Int)] 44)).cell? ⟨wr.heap.size, 0, none⟩ = some (.int .i64 X) := (two_cells wr (.int .i64 X) (.int .i64 Y) 44).1
          have ce1 : (wr.alloc (Obj.cells #[.int .i64 (X : Int), .int .i64 (Y : Int)] 44)).cell? ⟨wr.heap.size, 1, none⟩ = some (.int .i64 Y) := (two_cells wr (.int .i64 X) (.int .i64 Y) 44).2
          have l1 := (Hm.out.grid.row X hX).lt
          have l2 := (Hm.out.grid.row Y hY).lt
          generalize wr.heap.size = E at *
          generalize wr.alloc (Obj.cells #[.int .i64 (X : Int), .int .i64 (Y : Int)] 44) = w5 at *
          have hx := g5.grid.head X hX
          have hy := g5.grid.head Y hY
          rw [Nat.zero_add] at hx hy
          have g7 := ((g5.below (Below.refl _ _).drew).set hX Y).set hY X
          have t1 := g5.grid.cell hX hY
          have f1 := (g5.grid.row X hX).frozen Y
          have t2 := g5.grid.cell hY hX
          have f2 := (g5.grid.row Y hY).frozen X
          have m1 := (g5.grid.row X hX).lt
          have m2 := (g5.grid.row Y hY).lt
          have n1 : w.heap.size + 2 + X ≠ E := by omega
          have n2 : w.heap.size + 2 + Y ≠ E := by omega
          have n3 : w.heap.size + 2 + X ≠ w.heap.size + 1 := by omega
          have n4 : w.heap.size + 2 + Y ≠ w.heap.size + 1 := by omega
          have n5 : w.heap.size + 2 + X ≠ w.heap.size + 2 + Y := by have := Hxy.out; omega
          have n6 := Ne.symm n5
          have G7 := Lib.hid g7
          clear g5 g7 cx cy
          generalize w.heap.size + 2 + X = bX at *
          generalize w.heap.size + 2 + Y = bY at *
          generalize w.heap.size + 1 = bH at *
          go_region_held3 (fun w' => w'.cell? ⟨E, 0, none⟩ = some (.int .i64 X) ∧ w'.cell? ⟨E, 1, none⟩ = some (.int .i64 Y) ∧ w'.cell? ⟨bH, X, none⟩ = some (.slice (some ⟨bX, 0, none⟩) k k) ∧ w'.cell? ⟨bH, Y, none⟩ = some (.slice (some ⟨bY, 0, none⟩) k k)) (go_keep) (fail)
          go_wp2
          go_roundg (l.length - (q + 1))
          case measure => go_light; omega
          case rel => exact ⟨q + 1, by omega, rfl, by go_num, by
            have e : (fun i j => if i = Y ∧ j = X then true else if i = X ∧ j = Y then true else adj (l.take q) i j) = adj (l.take (q + 1)) := by
              funext i j; exact adj_succ hlt He.out i j
            rw [← e]; exact G7.out⟩
        · obtain rfl : l.length = q := by omega
          have Hm := Lib.hid hm
          clear hm hcell hadr
          go_wp2
          go_ret
          have hgr := Hm.out.grid
          rw [List.take_length] at hgr
          exact ⟨_, rfl, ⟨_, k, w.heap.size + 1, 0, fun i => w.heap.size + 2 + i, rfl, Nat.le_refl _, fun _ => ⟨rfl, Nat.le_succ _⟩, hgr⟩, Hm.out.hb⟩

end Go.Proofs.Ytbnbhjeknocboaa
