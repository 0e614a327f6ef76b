/- minor.masks: the nodes near each node, as bits. -/
import Derived.Test.YtfflnpcbpcldeaaGridOf
import Derived.Test.YtfflnpcbpcldeaaBits
namespace Go.Proofs.Ytfflnpcbpcldeaa
open Go.RowKit

/-- The bits below n that r tells. -/
def maskOf (r : Nat → Bool) : Nat → Nat
  | 0 => 0
  | n + 1 => lor (maskOf r n) (if r n then pow2 n else 0)
theorem maskOf_bit (r : Nat → Bool) : ∀ n i, (maskOf r n).testBit i = (decide (i < n) && r i)
  | 0, i => by simp [maskOf]
  | n + 1, i => by
    rw [maskOf, lor_bit, maskOf_bit r n i]
    by_cases h : r n = true
    · rw [if_pos h, pow2_bit]
      by_cases e : n = i
      · subst e; simp [h]
      · have : (i < n + 1) ↔ i < n := by omega
        simp [e, this]
    · have h' : r n = false := by simpa using h
      rw [if_neg h]
      by_cases e : n = i
      · subst e; simp [h']
      · have : (i < n + 1) ↔ i < n := by omega
        simp [this]
theorem maskOf_few (r : Nat → Bool) {n : Nat} (h : n ≤ 62) : Few (maskOf r n) := by
  rw [Few, few_two]
  refine few_of_bit fun i hi => ?_
  rw [maskOf_bit] at hi
  simp at hi
  omega

/-- What is near node i. -/
def near (l : List (Int × Int)) (N i : Nat) : Nat := maskOf (adj l i) N

theorem near_nil (N i : Nat) : near [] N i = 0 := by
  refine Nat.eq_of_testBit_eq fun j => ?_
  unfold near
  rw [maskOf_bit]
  simp [adj, hasE]

theorem near_succ {l : List (Int × Int)} {k X Y N : Nat} (hk : k < l.length) (he : l.getD k (0, 0) = ((X : Int), (Y : Int))) (hX : X < N) (hY : Y < N) (hXY : X ≠ Y) (i : Nat) :
    (if i = Y then lor (near (l.take k) N Y) (pow2 X) else if i = X then lor (near (l.take k) N X) (pow2 Y) else near (l.take k) N i) = near (l.take (k + 1)) N i := by
  refine Nat.eq_of_testBit_eq fun j => ?_
  unfold near
  rw [maskOf_bit, ← adj_succ hk he]
  by_cases h1 : i = Y
  · subst h1
    rw [if_pos rfl, lor_bit, maskOf_bit, pow2_bit]
    by_cases e : j = X
    · subst e; simp [hX]
    · have e' : ¬ X = j := fun h => e h.symm
      simp [e, e', Ne.symm hXY]
  · rw [if_neg h1]
    by_cases h2 : i = X
    · subst h2
      rw [if_pos rfl, lor_bit, maskOf_bit, pow2_bit]
      by_cases e : j = Y
      · subst e; simp [hY, h1]
      · have e' : ¬ Y = j := fun h => e h.symm
        simp [e, e', h1]
    · rw [if_neg h2, maskOf_bit]
      simp [h1, h2]

/-- The masks under way. -/
structure MState (w wr : World) (s : Value) (b N : Nat) (M : Nat → Nat) : Prop where
  hb : Below w.heap.size w wr
  up : w.heap.size < b
  cs : wr.cell? ⟨w.heap.size, 1, none⟩ = some s
  row : wr.rowIs b 3 N (rn M)
theorem MState.below {w wr w' : World} {s : Value} {b N : Nat} {M : Nat → Nat} (h : MState w wr s b N M) (hb : Below wr.heap.size wr w') : MState w w' s b N M :=
  ⟨h.hb.trans (hb.mono h.hb.size), h.up, below_cell hb h.cs, h.row.of_block (hb.block _ h.row.lt)⟩
theorem MState.set {w wr : World} {s : Value} {b N : Nat} {M : Nat → Nat} (h : MState w wr s b N M) (x y : Nat) : MState w (wr.setCell ⟨b, x, none⟩ (.int .i64 (y : Int))) s b N (fun i => if i = x then y else M i) := by
  have := h.up
  refine ⟨h.hb.setCell (show w.heap.size ≤ b by omega) _, h.up, ?_, row_set_rn h.row x y⟩
  rw [World.cell?_setCell_far _ _ _ _ (show b ≠ w.heap.size by omega)]; exact h.cs
theorem MState.start (w : World) (n s : Value) (N : Nat) : MState w ((w.alloc (Obj.cells #[n, s] 24)).alloc (.cells (madeCells #[.int .i64 0] N) 3)) s (w.heap.size + 1) N (fun _ => 0) := by
  have c0 := two_cells w n s 24
  have h1 := World.rowIs_made (w.alloc (Obj.cells #[n, s] 24)) (.int .i64 0) N 3
  rw [World.size_alloc] at h1
  exact ⟨below2 _ _ _, by omega, below_cell (below1 _ _) c0.2, h1.congr fun i _ => rfl⟩

/-- The slice of n numbers that are told by a function, in a block of its own. -/
def NumsPost (N : Nat) (M : Nat → Nat) (w : World) (e : Ending) (w' : World) : Prop := ∃ b, e = .returned (.slice (some ⟨b, 0, none⟩) N N) ∧ w.heap.size ≤ b ∧ w'.rowIs b 3 N (rn M) ∧ Below w.heap.size w w'

set_option maxHeartbeats 3200000 in
set_option maxRecDepth 100000 in
theorem masks_any (l : List (Int × Int)) (N : Nat) (s : Value) (w : World) (h : IsEdges w s l) (hN : N ≤ 62) (hok : ∀ j, j < l.length → EndsOk (N : Int) (l.getD j (0, 0)) ∧ (l.getD j (0, 0)).1 ≠ (l.getD j (0, 0)).2) :
    Calls Try.prog 75 #[.agg #[.int .i64 (N : Int), s]] w (NumsPost N (near l N) w) := by
  obtain ⟨ad, cap, bb, o, rfl, hcap, hmax, hadr, -, hcell⟩ := h
  have Hok := Lib.hid hok
  clear hok
  have hmk := run_make_row' (P := Try.prog) 51 3 (.int .i64 0) 8 Try.underlying51 info3 rfl .i64 .i64 N (by omega) (by omega)
  have Hst := Lib.hid (MState.start w (.int .i64 (N : Int)) (.slice ad l.length cap) N)
  have hcs := Hst.out.cs
  go_enter Try.func75, Try.ntmps75
  go_wp2
  generalize (w.alloc (Obj.cells #[.int .i64 (N : Int), .slice ad l.length cap] 24)).alloc (.cells (madeCells #[.int .i64 0] N) 3) = w1 at *
  go_loopg [12] l.length (fun g s12 wr => ∃ q : Nat, q ≤ l.length ∧ g = l.length - q ∧ s12 = .int .i64 q ∧ MState w wr (.slice ad l.length cap) (w.heap.size + 1) N (near (l.take q) N))
  case atStart => exact ⟨0, Nat.zero_le _, rfl, rfl, by
    have e : (fun _ => 0) = near (l.take 0) N := by funext i; exact (near_nil N i).symm
    rw [← e]; exact Hst.out⟩
  case round =>
    obtain ⟨q, hq, rfl, rfl, hm⟩ := hrel
    by_cases hlt : q < l.length
    · obtain rfl := hadr (by omega)
      obtain ⟨x, y, He, cx, cy⟩ := edges_at hcell hm.hb hlt
      have hk1 := Hok.out q hlt
      rw [He.out] at hk1
      obtain ⟨⟨x0, y0, x1, y1⟩, hxy⟩ := hk1
      simp only at x0 y0 x1 y1 hxy
      obtain ⟨X, rfl⟩ := Int.eq_ofNat_of_zero_le x0
      obtain ⟨Y, rfl⟩ := Int.eq_ofNat_of_zero_le y0
      have hX : X < N := by omega
      have hY : Y < N := by omega
      have Hm := Lib.hid hm
      have Hxy := Lib.hid hxy
      clear hm hxy x0 y0 x1 y1 hcell hadr hmk hcs
      go_wp2_with fail
      refine region_tail 10 (by kernel_rfl) (by kernel_rfl) ?_
      have g5 := (Hm.out.below (below1 wr (Obj.cells #[.int .i64 (X : Int), .int .i64 (Y : Int)] 86))).below (Below.refl _ _).drew
      have ce0 : (wr.alloc (Obj.cells #[.int .i64 (X : Int), .int .i64 (Y : Int)] 86)).drew.cell? ⟨wr.heap.size, 0, none⟩ = some (.int .i64 X) := (two_cells wr (.int .i64 X) (.int .i64 Y) 86).1
      have ce1 : (wr.alloc (Obj.cells #[.int .i64 (X : Int), .int .i64 (Y : Int)] 86)).drew.cell? ⟨wr.heap.size, 1, none⟩ = some (.int .i64 Y) := (two_cells wr (.int .i64 X) (.int .i64 Y) 86).2
      have l1 := Hm.out.row.lt
      have n1 : w.heap.size + 1 ≠ wr.heap.size := by omega
      generalize wr.heap.size = E at *
      generalize (wr.alloc (Obj.cells #[.int .i64 (X : Int), .int .i64 (Y : Int)] 86)).drew = w5 at *
      have mX := maskOf_few (adj (l.take q) X) hN
      have mY := maskOf_few (adj (l.take q) Y) hN
      have t1 : w5.cell? ⟨w.heap.size + 1, X, none⟩ = some (.int .i64 (near (l.take q) N X : Int)) := g5.row.cell hX
      have f1 := g5.row.frozen X
      have e1 := op_shl (show Y < 62 by omega)
      have e2 := op_or mX (pow2_few (show Y < 62 by omega))
      have e3 := op_shl (show X < 62 by omega)
      have e4 := op_or mY (pow2_few (show X < 62 by omega))
      rw [show maskOf (adj (l.take q) X) N = near (l.take q) N X from rfl] at e2
      rw [show maskOf (adj (l.take q) Y) N = near (l.take q) N Y from rfl] at e4
      have g6 := (g5.set X (lor (near (l.take q) N X) (pow2 Y))).below (Below.refl _ _).drew
      have ce0' : (w5.setCell ⟨w.heap.size + 1, X, none⟩ (.int .i64 (lor (near (l.take q) N X) (pow2 Y) : Nat))).drew.cell? ⟨E, 0, none⟩ = some (.int .i64 X) := by
        show (w5.setCell ⟨w.heap.size + 1, X, none⟩ _).cell? _ = _
        rw [World.cell?_setCell_far _ _ _ _ n1]; exact ce0
      have ce1' : (w5.setCell ⟨w.heap.size + 1, X, none⟩ (.int .i64 (lor (near (l.take q) N X) (pow2 Y) : Nat))).drew.cell? ⟨E, 1, none⟩ = some (.int .i64 Y) := by
        show (w5.setCell ⟨w.heap.size + 1, X, none⟩ _).cell? _ = _
        rw [World.cell?_setCell_far _ _ _ _ n1]; exact ce1
      have t2 := g6.row.cell hY
      simp only [rn, if_neg (show ¬ Y = X by have := Hxy.out; omega)] at t2
      have f2 := g6.row.frozen Y
      have G8 := Lib.hid (g6.set Y (lor (near (l.take q) N Y) (pow2 X)))
      have Ce := Lib.hid (And.intro ce0' (And.intro ce1' (And.intro t2 f2)))
      have E34 := Lib.hid (And.intro e3 e4)
      clear g5 g6 cx cy ce0' ce1' t2 f2 e3 e4 mX mY
      simp only [List.take_succ_cons, List.take_zero, List.drop_succ_cons, List.drop_zero]
      repeat still_step
      refine wpStill_nil ?_
      go_wp2_with fail
      refine region_tail 10 (by kernel_rfl) (by kernel_rfl) ?_
      clear t1 f1 ce0 ce1 e1 e2
      generalize (w5.setCell ⟨w.heap.size + 1, X, none⟩ (.int .i64 (lor (near (l.take q) N X) (pow2 Y) : Nat))).drew = w7 at *
      obtain ⟨ce0, ce1, t2, f2⟩ := Ce.out
      obtain ⟨e3, e4⟩ := E34.out
      simp only [List.take_succ_cons, List.take_zero, List.drop_succ_cons, List.drop_zero]
      repeat still_step
      refine wpStill_nil ?_
      go_wp2
      go_roundg (l.length - (q + 1))
      case measure => go_light; omega
      case rel => exact ⟨q + 1, by omega, rfl, by go_num, by
        refine ⟨G8.out.hb, G8.out.up, G8.out.cs, row_rn G8.out.row fun i _ => ?_⟩
        exact near_succ hlt He.out hX hY (by have := Hxy.out; omega) i⟩
    · obtain rfl : l.length = q := by omega
      have Hm := Lib.hid hm
      clear hm hcell hadr
      go_wp2
      go_ret
      have hr := Hm.out.row
      rw [List.take_length] at hr
      exact ⟨_, rfl, by omega, hr, Hm.out.hb⟩

end Go.Proofs.Ytfflnpcbpcldeaa
