/- Memory for walks.pair: a row of sums and a row of pairs, by sets. A store of a pair. -/
import Derived.Test.YtnmljgjegodkaaaPA
import Derived.Test.YtnmljgjegodkaaaGridMem
import Derived.Test.YtnmljgjegodkaaaRCheck
namespace Go.Proofs.Ytnmljgjegodkaaa
open Go.RowKit

/-- The cells of a row of pairs. -/
def r2 (la : Nat → Nat × Nat) : Nat → Value := fun q => .int .i64 ((if q % 2 = 0 then (la (q / 2)).1 else (la (q / 2)).2 : Nat) : Int)
theorem run_make_two {P : Program} (t e : TypeId) (ht : P.underlying t = some (.slice e)) (hinfo : (P.info? e).map (fun i => (i.zero, i.size, i.bytes)) = some (some (.agg #[.int .i64 0, .int .i64 0]), 2, 16)) (n : Nat) (hn : n ≤ 1000000) (w : World) :
    (Instr.makeSlice t (.int .i64 (n : Int)) (.int .i64 (n : Int))).run P w = .ok (.slice (some ⟨w.heap.size, 0, none⟩) n n) (w.alloc (.cells (madeCells #[.int .i64 0, .int .i64 0] (n * 2)) e)) := by
  obtain ⟨i, hi, hzz⟩ := Option.map_eq_some_iff.1 hinfo
  simp only [Prod.mk.injEq] at hzz
  obtain ⟨hz, hs, hb⟩ := hzz
  have hr := run_make (P := P) w t e i _ ht hi hz .i64 .i64 n n (by omega) (Int.le_refl _) (by rw [hb]; omega) (by omega)
  simp only [Int.toNat_natCast, hs] at hr
  exact hr
theorem two_row2 (w : World) (n : Nat) (t : TypeId) : (w.alloc (.cells (madeCells #[.int .i64 0, .int .i64 0] (n * 2)) t)).rowIs w.heap.size t (n * 2) (r2 fun _ => (0, 0)) :=
  ⟨madeCells #[.int .i64 0, .int .i64 0] (n * 2), Go.Deep.blk_alloc_new _ _, size_madeCells _ _, fun i hi => by
    have : i % 2 = 0 ∨ i % 2 = 1 := by omega
    rcases this with e | e <;> simp [madeCells, hi, e, r2]⟩
structure PrS (w wr : World) (M : Nat) (b : Nat → Int) (la : Nat → Nat × Nat) : Prop where
  hb : Below w.heap.size w wr
  r1 : wr.rowIs w.heap.size 3 M (ri b)
  rl : wr.rowIs (w.heap.size + 1) 78 (M * 2) (r2 la)
section
variable {w wr w' : World} {M : Nat} {b : Nat → Int} {la : Nat → Nat × Nat}
theorem PrS.start (w : World) (M : Nat) : PrS w ((w.alloc (.cells (madeCells #[.int .i64 0] M) 3)).alloc (.cells (madeCells #[.int .i64 0, .int .i64 0] (M * 2)) 78)) M (fun _ => 0) (fun _ => (0, 0)) := by
  have h1 := (World.rowIs_made w (.int .i64 0) M 3).congr (g := ri fun _ => 0) fun _ _ => rfl
  have h2 := two_row2 (w.alloc (.cells (madeCells #[.int .i64 0] M) 3)) M 78
  rw [World.size_alloc] at h2
  have hb := below1 (w.alloc (.cells (madeCells #[.int .i64 0] M) 3)) (.cells (madeCells #[.int .i64 0, .int .i64 0] (M * 2)) 78)
  exact ⟨below2 _ _ _, h1.of_block (hb.block _ h1.lt), h2⟩
theorem PrS.below (h : PrS w wr M b la) (hb : Below wr.heap.size wr w') : PrS w w' M b la :=
  ⟨h.hb.trans (hb.mono h.hb.size), h.r1.of_block (hb.block _ h.r1.lt), h.rl.of_block (hb.block _ h.rl.lt)⟩
theorem PrS.set (h : PrS w wr M b la) (s : Nat) (x : Int) : PrS w (wr.setCell ⟨w.heap.size, s, none⟩ (.int .i64 x)) M (fun q => if q = s then x else b q) la :=
  ⟨h.hb.setCell (p := ⟨w.heap.size, s, none⟩) (Nat.le_refl _) _, row_set_ri h.r1 s x, h.rl.setOther (a := ⟨w.heap.size, s, none⟩) (by show w.heap.size + 1 ≠ w.heap.size; omega) _⟩
theorem PrS.put (h : PrS w wr M b la) (s i j : Nat) : PrS w ((wr.setCell ⟨w.heap.size + 1, s * 2, none⟩ (.int .i64 (i : Int))).setCell ⟨w.heap.size + 1, s * 2 + 1, none⟩ (.int .i64 (j : Int))) M b (fun q => if q = s then (i, j) else la q) := by
  refine ⟨(h.hb.setCell (p := ⟨w.heap.size + 1, s * 2, none⟩) (Nat.le_succ _) _).setCell (p := ⟨w.heap.size + 1, s * 2 + 1, none⟩) (Nat.le_succ _) _, (h.r1.setOther (a := ⟨w.heap.size + 1, s * 2, none⟩) (by show w.heap.size ≠ w.heap.size + 1; omega) _).setOther (a := ⟨w.heap.size + 1, s * 2 + 1, none⟩) (by show w.heap.size ≠ w.heap.size + 1; omega) _, ?_⟩
  refine ((h.rl.set (s * 2) (.int .i64 (i : Int))).set (s * 2 + 1) (.int .i64 (j : Int))).congr fun q _ => ?_
  unfold r2
  by_cases e1 : q = s * 2 + 1
  · subst e1
    rw [if_pos rfl]
    simp [show (s * 2 + 1) % 2 = 1 by omega, show (s * 2 + 1) / 2 = s by omega]
  · rw [if_neg e1]
    by_cases e2 : q = s * 2
    · subst e2
      rw [if_pos rfl]
      simp
    · rw [if_neg e2]
      simp only [if_neg (show ¬ q / 2 = s by omega)]
theorem PrS.cells (h : PrS w wr M b la) {s : Nat} (hs : s < M) : wr.cell? ⟨w.heap.size, s, none⟩ = some (.int .i64 (b s)) ∧ wr.cell? ⟨w.heap.size + 1, s * 2, none⟩ = some (.int .i64 ((la s).1 : Int)) ∧ wr.cell? ⟨w.heap.size + 1, s * 2 + 1, none⟩ = some (.int .i64 ((la s).2 : Int)) := by
  refine ⟨h.r1.cell hs, ?_, ?_⟩
  · have := h.rl.cell (show s * 2 < M * 2 by omega)
    rw [this]; simp [r2]
  · have := h.rl.cell (show s * 2 + 1 < M * 2 by omega)
    rw [this]; simp [r2, show (s * 2 + 1) % 2 = 1 by omega, show (s * 2 + 1) / 2 = s by omega]
theorem PrS.grown {row : Option Nat} (h : PrS w wr M b la) (hg : wr.grownBy w' row) (hr : ∀ g, row = some g → w.heap.size + 2 ≤ g) : PrS w w' M b la :=
  ⟨h.hb.grown hg h.hb.size (fun g e => by have := hr g e; omega), h.r1.of_block (hg.block _ h.r1.lt (fun e => by have := hr _ e.symm; omega)), h.rl.of_block (hg.block _ h.rl.lt (fun e => by have := hr _ e.symm; omega))⟩
/-- An element of a row of rows. -/
theorem drow_at {a : Option Addr} {nd c i x : Nat} {DD : List (List Int)} (h : IsRows w (.slice a nd c) DD) (hb : Below w.heap.size w wr) (hi : i < DD.length) (hx : x < (DD.getD i []).length) :
    ∃ g o, a = some ⟨g, o, none⟩ ∧ ∃ g' o' c', wr.cell? ⟨g, o + i, none⟩ = some (.slice (some ⟨g', o', none⟩) (DD.getD i []).length c') ∧ wr.cell? ⟨g', o' + x, none⟩ = some (.int .i64 ((DD.getD i []).getD x 0)) := by
  obtain ⟨a', c', g, o, e, -, -, h3, -, h5⟩ := h
  simp only [Value.slice.injEq] at e
  obtain ⟨rfl, -, -⟩ := e
  obtain ⟨r, hr, a2, c2, g2, o2, rfl, -, -, h6, -, h7⟩ := h5 i hi
  refine ⟨g, o, h3 (by omega), g2, o2, c2, ?_, below_cell hb (h7 x hx)⟩
  rw [← h6 (by omega)]
  exact below_cell hb hr
end
end Go.Proofs.Ytnmljgjegodkaaa
namespace Go.Proofs.Ytnmljgjegodkaaa
open Go.RowKit
theorem run_store_two {W : World} {B M s : Nat} {la : Nat → Nat × Nat} (h : W.rowIs B 78 (M * 2) (r2 la)) (hs : s < M) (x y : Int) :
    (Instr.storeAt 78 (.pointer (some ⟨B, s * 2, none⟩)) (.agg #[.int .i64 x, .int .i64 y])).run Try.prog W = .ok () ((W.setCell ⟨B, s * 2, none⟩ (.int .i64 x)).setCell ⟨B, s * 2 + 1, none⟩ (.int .i64 y)) := by
  obtain ⟨i2, hi2, hz, hsz, -⟩ := info_parts info2
  have c1 := h.cell (show s * 2 < M * 2 by omega)
  have f1 := h.frozen (s * 2)
  have h2 := h.set (s * 2) (.int .i64 x)
  have c2 := h2.cell (show s * 2 + 1 < M * 2 by omega)
  have f2 := h2.frozen (s * 2 + 1)
  generalize hW2 : W.setCell ⟨B, s * 2, none⟩ (.int .i64 x) = W2 at *
  have s1 : (store ⟨B, s * 2, none⟩ (.int .i64 x) .plain).run Try.prog W = .ok () W2 := by
    rw [run_store _ _ _ _ _ rfl, c1]
    simp only [f1, hW2]
    rfl
  have s2 : (store ⟨B, s * 2 + 1, none⟩ (.int .i64 y) .plain).run Try.prog W2 = .ok () (W2.setCell ⟨B, s * 2 + 1, none⟩ (.int .i64 y)) := by
    rw [run_store _ _ _ _ _ rfl, c2]
    simp only [f2]
    rfl
  simp [Instr.storeAt, storeVar, storeCells, Instr.sureAddr, sizeOf, typeInfo, hi2, hsz, Addr.add, Value.cells, s1, s2]
end Go.Proofs.Ytnmljgjegodkaaa
