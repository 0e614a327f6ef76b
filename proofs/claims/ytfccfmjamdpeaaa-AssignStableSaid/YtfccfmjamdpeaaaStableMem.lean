/- The memory of assign.Stable: ranks, row by row; the three rows and the stack of the main loop. No program in sight. -/
import Derived.Test.YtfccfmjamdpeaaaOrd
import Derived.Test.YtfccfmjamdpeaaaGale
import Derived.Test.YtfccfmjamdpeaaaOwn
import Derived.Test.YtfccfmjamdpeaaaAddMem
import Derived.WalkSmall
namespace Go.Proofs.Ytfccfmjamdpeaaa
open Go.RowKit

/-- k rows of ranks are made. -/
structure RankMem (w wr : World) (B N n k : Nat) (Z : Nat → Nat → Nat) : Prop where
  hf : F1 w wr B
  size : wr.heap.size = N + 1 + k
  top : wr.rowIs N 51 n (fun j => if j < k then .slice (some ⟨N + 1 + j, 0, none⟩) n n else .slice none 0 0)
  rows : ∀ j, j < k → wr.rowIs (N + 1 + j) 3 n (rn (Z j))

/-- Row k is being filled: Zc so far. -/
structure RankIn (w wr : World) (B N n k : Nat) (Z : Nat → Nat → Nat) (Zc : Nat → Nat) : Prop where
  hf : F1 w wr B
  size : wr.heap.size = N + 1 + k + 1
  top : wr.rowIs N 51 n (fun j => if j < k + 1 then .slice (some ⟨N + 1 + j, 0, none⟩) n n else .slice none 0 0)
  rows : ∀ j, j < k → wr.rowIs (N + 1 + j) 3 n (rn (Z j))
  now : wr.rowIs (N + 1 + k) 3 n (rn Zc)

section
variable {w wr : World} {B N n k : Nat} {Z : Nat → Nat → Nat} {Zc : Nat → Nat}

theorem RankMem.start (hf : F1 w wr B) : RankMem w (wr.alloc (.cells (madeCells #[.slice none 0 0] n) 51)) B wr.heap.size n 0 Z :=
  ⟨hf.alloc _, by simp, (World.rowIs_made wr (.slice none 0 0) n 51).congr (fun j _ => by simp), fun j hj => absurd hj (Nat.not_lt_zero _)⟩

theorem RankMem.enter (h : RankMem w wr B N n k Z) (hBN : B < N) :
    RankIn w ((wr.alloc (.cells (madeCells #[.int .i64 0] n) 3)).setCell ⟨N, k, none⟩ (.slice (some ⟨N + 1 + k, 0, none⟩) n n)) B N n k Z (fun _ => 0) := by
  have hnew := World.rowIs_made wr (.int .i64 0) n 3
  rw [h.size] at hnew
  have hB := h.hf.hB
  refine ⟨(h.hf.alloc _).setOther _ (by show _ ≤ N; omega) (by show B ≠ N; omega), by rw [size_setCell]; simp [h.size], ((h.top.alloc _).set k _).congr (fun j _ => ?_), fun j hj => ((h.rows j hj).alloc _).setOther (by show N + 1 + j ≠ N; omega) _, hnew.setOther (by show N + 1 + k ≠ N; omega) _⟩
  by_cases e : j = k
  · subst e; simp
  · rw [if_neg e]
    by_cases hlt : j < k
    · rw [if_pos hlt, if_pos (by omega)]
    · rw [if_neg hlt, if_neg (by omega)]

theorem RankIn.store (h : RankIn w wr B N n k Z Zc) (hBN : B < N) (i x : Nat) : RankIn w (wr.setCell ⟨N + 1 + k, i, none⟩ (.int .i64 (x : Int))) B N n k Z (fun q => if q = i then x else Zc q) := by
  have hB := h.hf.hB
  exact ⟨h.hf.setOther _ (by show _ ≤ N + 1 + k; omega) (by show B ≠ N + 1 + k; omega), by rw [size_setCell]; exact h.size, h.top.setOther (by show N ≠ N + 1 + k; omega) _, fun j hj => (h.rows j hj).setOther (by show N + 1 + j ≠ N + 1 + k; omega) _, row_set_rn h.now i x⟩

theorem RankIn.congr (h : RankIn w wr B N n k Z Zc) {Zd : Nat → Nat} (e : ∀ i, i < n → Zc i = Zd i) : RankIn w wr B N n k Z Zd := ⟨h.hf, h.size, h.top, h.rows, row_rn h.now e⟩

theorem RankIn.leave (h : RankIn w wr B N n k Z (Z k)) : RankMem w wr B N n (k + 1) Z :=
  ⟨h.hf, by rw [h.size]; omega, h.top, fun j hj => by
    by_cases e : j = k
    · subst e; exact h.now
    · exact h.rows j (by omega)⟩
end

/-- Three new rows, in whatever order. -/
def ThreeRows (W : World) (n : Nat) (s14 s15 s16 : Value) (wx : World) : Prop :=
  ∃ t o x, s14 = .slice (some ⟨t, 0, none⟩) n n ∧ s15 = .slice (some ⟨o, 0, none⟩) n n ∧ s16 = .slice (some ⟨x, 0, none⟩) n n ∧ t ≠ o ∧ t ≠ x ∧ o ≠ x ∧ W.heap.size ≤ t ∧ W.heap.size ≤ o ∧ W.heap.size ≤ x ∧
    t < wx.heap.size ∧ o < wx.heap.size ∧ x < wx.heap.size ∧ Below W.heap.size W wx ∧ wx.rowIs t 3 n (ri fun _ => 0) ∧ wx.rowIs o 3 n (ri fun _ => 0) ∧ wx.rowIs x 3 n (rn fun _ => 0)

theorem ThreeRows.mk (W : World) (n t o x : Nat) (a b c : Nat) (ha : a < 3) (hb : b < 3) (hc : c < 3) (hab : a ≠ b) (hac : a ≠ c) (hbc : b ≠ c) (et : t = W.heap.size + a) (eo : o = W.heap.size + b) (ex : x = W.heap.size + c) :
    ThreeRows W n (.slice (some ⟨t, 0, none⟩) n n) (.slice (some ⟨o, 0, none⟩) n n) (.slice (some ⟨x, 0, none⟩) n n)
      (((W.alloc (.cells (madeCells #[.int .i64 0] n) 3)).alloc (.cells (madeCells #[.int .i64 0] n) 3)).alloc (.cells (madeCells #[.int .i64 0] n) 3)).drew := by
  subst et eo ex
  have h1 := ((World.rowIs_made W (.int .i64 0) n 3).alloc (.cells (madeCells #[.int .i64 0] n) 3)).alloc (.cells (madeCells #[.int .i64 0] n) 3)
  have h2 := (World.rowIs_made (W.alloc (.cells (madeCells #[.int .i64 0] n) 3)) (.int .i64 0) n 3).alloc (.cells (madeCells #[.int .i64 0] n) 3)
  have h3 := World.rowIs_made ((W.alloc (.cells (madeCells #[.int .i64 0] n) 3)).alloc (.cells (madeCells #[.int .i64 0] n) 3)) (.int .i64 0) n 3
  have z1 : (W.alloc (.cells (madeCells #[.int .i64 0] n) 3)).heap.size = W.heap.size + 1 := by simp
  have z2 : ((W.alloc (.cells (madeCells #[.int .i64 0] n) 3)).alloc (.cells (madeCells #[.int .i64 0] n) 3)).heap.size = W.heap.size + 2 := by simp
  rw [z1] at h2
  rw [z2] at h3
  have all : ∀ i, i < 3 → ((((W.alloc (.cells (madeCells #[.int .i64 0] n) 3)).alloc (.cells (madeCells #[.int .i64 0] n) 3)).alloc (.cells (madeCells #[.int .i64 0] n) 3)).drew).rowIs (W.heap.size + i) 3 n (fun _ => .int .i64 0) := fun i hi => by
    match i, hi with
    | 0, _ => exact h1
    | 1, _ => exact h2
    | 2, _ => exact h3
  have zz : ((((W.alloc (.cells (madeCells #[.int .i64 0] n) 3)).alloc (.cells (madeCells #[.int .i64 0] n) 3)).alloc (.cells (madeCells #[.int .i64 0] n) 3)).drew).heap.size = W.heap.size + 3 := by simp
  exact ⟨_, _, _, rfl, rfl, rfl, by omega, by omega, by omega, by omega, by omega, by omega, by omega, by omega, by omega, ((below2 _ _ _).alloc (by simp; omega) _).drew, all a ha, all b hb, all c hc⟩

/-- Blocks of the main loop, all different. -/
structure SDis (w : World) (B N n t o x B2 : Nat) : Prop where
  wB : w.heap.size ≤ B
  BN : B < N
  Nt : N + n < t
  No : N + n < o
  Nx : N + n < x
  t2 : t < B2
  o2 : o < B2
  x2 : x < B2
  to_ : t ≠ o
  tx : t ≠ x
  ox : o ≠ x

structure SMem (w wr : World) (B N n t o x B2 : Nat) (Z : Nat → Nat → Nat) (tt of : Nat → Int) (nx : Nat → Nat) (v : Value) (fr : List Nat) : Prop where
  hf : F1 w wr B
  top : wr.rowIs N 51 n (fun j => .slice (some ⟨N + 1 + j, 0, none⟩) n n)
  rows : ∀ j, j < n → wr.rowIs (N + 1 + j) 3 n (rn (Z j))
  ht : wr.rowIs t 3 n (ri tt)
  ho : wr.rowIs o 3 n (ri of)
  hx : wr.rowIs x 3 n (rn nx)
  hfr : wr.ownsRow B2 3 1 v fr.length (fr.map fun (i : Nat) => Value.int .i64 (i : Int))
  sz : B2 ≤ wr.heap.size

section
variable {w wr : World} {B N n t o x B2 : Nat} {Z : Nat → Nat → Nat} {tt of : Nat → Int} {nx : Nat → Nat} {v : Value} {fr : List Nat}

theorem SMem.drewN (h : SMem w wr B N n t o x B2 Z tt of nx v fr) (k : Nat) : SMem w (wr.drewN k) B N n t o x B2 Z tt of nx v fr :=
  ⟨h.hf.drewN k, h.top, h.rows, h.ht, h.ho, h.hx, h.hfr, h.sz⟩

/-- A world in which blocks below B2 are as they were. -/
theorem SMem.low (d : SDis w B N n t o x B2) (h : SMem w wr B N n t o x B2 Z tt of nx v fr) {w' : World} (hb : Below B2 wr w') {v' : Value} {fr' : List Nat} (hfr : w'.ownsRow B2 3 1 v' fr'.length (fr'.map fun (i : Nat) => Value.int .i64 (i : Int))) :
    SMem w w' B N n t o x B2 Z tt of nx v' fr' :=
  ⟨⟨h.hf.hb.trans (hb.mono (by have := d.wB; have := d.BN; have := d.Nt; have := d.t2; omega)), h.hf.hz.of_block (hb.block _ (by have := d.BN; have := d.Nt; have := d.t2; omega)), h.hf.hB⟩,
    h.top.of_block (hb.block _ (by have := d.Nt; have := d.t2; omega)), fun j hj => (h.rows j hj).of_block (hb.block _ (by have := d.Nt; have := d.t2; omega)), h.ht.of_block (hb.block _ d.t2), h.ho.of_block (hb.block _ d.o2), h.hx.of_block (hb.block _ d.x2), hfr, by have := h.sz; have := hb.size; omega⟩

theorem SMem.setT (d : SDis w B N n t o x B2) (h : SMem w wr B N n t o x B2 Z tt of nx v fr) (k : Nat) (y : Int) : SMem w (wr.setCell ⟨t, k, none⟩ (.int .i64 y)) B N n t o x B2 Z (fun q => if q = k then y else tt q) of nx v fr := by
  obtain ⟨d1, d2, d3, d4, d5, d6, d7, d8, d9, d10, d11⟩ := d
  exact ⟨h.hf.setOther _ (by show _ ≤ t; omega) (by show B ≠ t; omega), h.top.setOther (by show N ≠ t; omega) _, fun j hj => (h.rows j hj).setOther (by show N + 1 + j ≠ t; omega) _, row_set_ri h.ht k y, h.ho.setOther (Ne.symm d9) _, h.hx.setOther (Ne.symm d10) _, ownsRow_setCell_below h.hfr d6 _, by rw [size_setCell]; exact h.sz⟩
theorem SMem.setO (d : SDis w B N n t o x B2) (h : SMem w wr B N n t o x B2 Z tt of nx v fr) (k : Nat) (y : Int) : SMem w (wr.setCell ⟨o, k, none⟩ (.int .i64 y)) B N n t o x B2 Z tt (fun q => if q = k then y else of q) nx v fr := by
  obtain ⟨d1, d2, d3, d4, d5, d6, d7, d8, d9, d10, d11⟩ := d
  exact ⟨h.hf.setOther _ (by show _ ≤ o; omega) (by show B ≠ o; omega), h.top.setOther (by show N ≠ o; omega) _, fun j hj => (h.rows j hj).setOther (by show N + 1 + j ≠ o; omega) _, h.ht.setOther d9 _, row_set_ri h.ho k y, h.hx.setOther (Ne.symm d11) _, ownsRow_setCell_below h.hfr d7 _, by rw [size_setCell]; exact h.sz⟩
theorem SMem.setX (d : SDis w B N n t o x B2) (h : SMem w wr B N n t o x B2 Z tt of nx v fr) (k y : Nat) : SMem w (wr.setCell ⟨x, k, none⟩ (.int .i64 (y : Int))) B N n t o x B2 Z tt of (fun q => if q = k then y else nx q) v fr := by
  obtain ⟨d1, d2, d3, d4, d5, d6, d7, d8, d9, d10, d11⟩ := d
  exact ⟨h.hf.setOther _ (by show _ ≤ x; omega) (by show B ≠ x; omega), h.top.setOther (by show N ≠ x; omega) _, fun j hj => (h.rows j hj).setOther (by show N + 1 + j ≠ x; omega) _, h.ht.setOther d10 _, h.ho.setOther d11 _, row_set_rn h.hx k y, ownsRow_setCell_below h.hfr d8 _, by rw [size_setCell]; exact h.sz⟩
theorem SMem.congr (h : SMem w wr B N n t o x B2 Z tt of nx v fr) {tt' of' : Nat → Int} {nx' : Nat → Nat} (e1 : ∀ k, k < n → tt k = tt' k) (e2 : ∀ k, k < n → of k = of' k) (e3 : ∀ k, k < n → nx k = nx' k) : SMem w wr B N n t o x B2 Z tt' of' nx' v fr :=
  ⟨h.hf, h.top, h.rows, row_ri h.ht e1, row_ri h.ho e2, row_rn h.hx e3, h.hfr, h.sz⟩

/-- One is laid on the stack. -/
theorem SMem.push (d : SDis w B N n t o x B2) (h : SMem w wr B N n t o x B2 Z tt of nx v fr) {ob : Obj} {w2 : World} {v' : Value} {i : Nat} (h2 : w2.ownsRow B2 3 1 v' (fr.length + 1) ((fr.map fun (i : Nat) => Value.int .i64 (i : Int)) ++ [.int .i64 (i : Int)])) (g : (wr.alloc ob).grownBy w2 v.ownBlock) :
    SMem w w2 B N n t o x B2 Z tt of nx v' (fr ++ [i]) :=
  h.low d (((Below.refl _ _).alloc h.sz _).grown g (by simp; have := h.sz; omega) (fun k hk => (h.hfr.lt k hk).1)) (by simpa using h2)

/-- The last one is taken off. -/
theorem SMem.pop {a : Option Addr} {c : Nat} {fr' : List Nat} {i : Nat} (h : SMem w wr B N n t o x B2 Z tt of nx (.slice a (fr'.length + 1) c) (fr' ++ [i])) : SMem w wr B N n t o x B2 Z tt of nx (.slice a fr'.length c) fr' := by
  refine ⟨h.hf, h.top, h.rows, h.ht, h.ho, h.hx, ?_, h.sz⟩
  have hh := h.hfr
  simp only [List.length_append, List.length_singleton, List.map_append] at hh
  obtain ⟨_, _, _, b, h4, _⟩ := ownsRow_cap hh
  obtain ⟨rfl, _⟩ := h4 (by omega)
  exact ownsRow_pop (by simp) hh
end

/-- How much can still be asked. -/
def remN (n : Nat) (nx : Nat → Nat) : Nat → Nat
  | 0 => 0
  | k + 1 => remN n nx k + (n - nx k)
theorem remN_congr {n : Nat} {nx nx' : Nat → Nat} : ∀ {k : Nat}, (∀ q, q < k → nx q = nx' q) → remN n nx k = remN n nx' k
  | 0, _ => rfl
  | k + 1, h => by rw [remN, remN, remN_congr (fun q hq => h q (by omega)), h k (by omega)]
theorem remN_less {n : Nat} {nx : Nat → Nat} {i : Nat} (hi : nx i < n) : ∀ {k : Nat}, i < k → remN n (fun q => if q = i then nx i + 1 else nx q) k + 1 = remN n nx k
  | 0, h => by omega
  | k + 1, h => by
    rw [remN, remN]
    by_cases e : i = k
    · subst e
      rw [remN_congr (nx' := nx) (fun q hq => by rw [if_neg (by omega)]), if_pos rfl]
      omega
    · rw [if_neg (by omega), ← remN_less hi (k := k) (by omega)]
      omega

end Go.Proofs.Ytfccfmjamdpeaaa
