/- The table of bags under way. -/
import Derived.Test.YtnmljgjegodkaaaDoorTreeU
import Derived.Test.YtnmljgjegodkaaaDoorGCheck
import Derived.Test.YtnmljgjegodkaaaDoorHasGrid
namespace Go.Proofs.YtnmljgjegodkaaaDoor
open Go.RowKit

/-- k rows of N bools hang at block D; they lie behind it. -/
structure InT (w0 wr : World) (D M N k : Nat) (f : Nat → Nat → Bool) : Prop where
  hb : Below w0.heap.size w0 wr
  lo : w0.heap.size ≤ D
  size : wr.heap.size = D + 1 + k
  head : wr.rowIs D 52 M (fun i => if i < k then .slice (some ⟨D + 1 + i, 0, none⟩) N N else .slice none 0 0)
  row : ∀ i, i < k → wr.rowIs (D + 1 + i) 4 N (rb (f i))
section
variable {w0 wr w' : World} {D M N k : Nat} {f : Nat → Nat → Bool}
theorem InT.start (w0 : World) (M N : Nat) (f : Nat → Nat → Bool) : InT w0 (w0.alloc (.cells (madeCells #[.slice none 0 0] M) 52)) w0.heap.size M N 0 f := by
  have h1 := World.rowIs_made w0 (.slice none 0 0) M 52
  exact ⟨below1 _ _, Nat.le_refl _, by rw [World.size_alloc], h1.congr fun i _ => by simp, fun i hi => absurd hi (Nat.not_lt_zero _)⟩
theorem InT.draw (h : InT w0 wr D M N k f) : InT w0 wr.drew D M N k f := ⟨h.hb.drew, h.lo, h.size, h.head, h.row⟩
theorem InT.congr {g : Nat → Nat → Bool} (h : InT w0 wr D M N k f) (e : ∀ i j, i < k → j < N → f i j = g i j) : InT w0 wr D M N k g :=
  ⟨h.hb, h.lo, h.size, h.head, fun i hi => row_rb (h.row i hi) fun j hj => e i j hi hj⟩
theorem InT.step (h : InT w0 wr D M N k f) :
    InT w0 ((wr.alloc (.cells (madeCells #[.bool false] N) 4)).setCell ⟨D, k, none⟩ (.slice (some ⟨wr.heap.size, 0, none⟩) N N)) D M N (k + 1) (fun i j => if i = k then false else f i j) := by
  have hsz := h.size
  have hlo := h.lo
  have hb1 := below1 wr (.cells (madeCells #[.bool false] N) 4)
  have hr := World.rowIs_made wr (.bool false) N 4
  refine ⟨(h.hb.alloc h.hb.size _).setCell (p := ⟨D, k, none⟩) h.lo _, h.lo, ?_, ?_, fun i hi => ?_⟩
  · rw [size_setCell, World.size_alloc, hsz]; omega
  · refine ((h.head.of_block (hb1.block _ (by omega))).set k _).congr fun i _ => ?_
    by_cases e : i = k
    · subst e; rw [if_pos rfl, if_pos (by omega), hsz]
    · rw [if_neg e]
      by_cases e2 : i < k
      · rw [if_pos e2, if_pos (by omega)]
      · rw [if_neg e2, if_neg (by omega)]
  · by_cases e : i = k
    · subst e
      have h2 := hr.setOther (a := ⟨D, i, none⟩) (show wr.heap.size ≠ D by omega) (.slice (some ⟨wr.heap.size, 0, none⟩) N N)
      have h3 : wr.heap.size = D + 1 + i := hsz
      rw [← h3]
      exact h2.congr fun j _ => by simp [rb]
    · have h2 := ((h.row i (by omega)).of_block (hb1.block _ (by omega))).setOther (a := ⟨D, k, none⟩) (show D + 1 + i ≠ D by omega) (.slice (some ⟨wr.heap.size, 0, none⟩) N N)
      exact row_rb h2 fun j _ => by simp [e]
theorem InT.set (h : InT w0 wr D M N k f) {x : Nat} (hx : x < k) (y : Nat) (c : Bool) :
    InT w0 (wr.setCell ⟨D + 1 + x, y, none⟩ (.bool c)) D M N k (fun i j => if i = x ∧ j = y then c else f i j) := by
  have hlo := h.lo
  refine ⟨h.hb.setCell (p := ⟨D + 1 + x, y, none⟩) (show w0.heap.size ≤ D + 1 + x by omega) _, h.lo, by rw [size_setCell, h.size], ?_, fun i hi => ?_⟩
  · exact h.head.setOther (a := ⟨D + 1 + x, y, none⟩) (show D ≠ D + 1 + x by omega) (.bool c)
  · by_cases e : i = x
    · subst e
      exact row_rb (row_set_rb (h.row i hi) y c) fun j _ => by by_cases e : j = y <;> simp [e]
    · have h2 := (h.row i hi).setOther (a := ⟨D + 1 + x, y, none⟩) (show D + 1 + i ≠ D + 1 + x by omega) (.bool c)
      exact row_rb h2 fun j _ => by simp [e]
end
/-- The table is done; it is read. -/
structure InR (wr : World) (D M N : Nat) (f : Nat → Nat → Bool) : Prop where
  head : ∀ i, i < M → wr.cell? ⟨D, i, none⟩ = some (.slice (some ⟨D + 1 + i, 0, none⟩) N N)
  cell : ∀ i j, i < M → j < N → wr.cell? ⟨D + 1 + i, j, none⟩ = some (.bool (f i j))
theorem InT.read {w0 wr : World} {D M N : Nat} {f : Nat → Nat → Bool} (h : InT w0 wr D M N M f) : InR wr D M N f :=
  ⟨fun i hi => by have := h.head.cell hi; rw [this, if_pos hi], fun i j hi hj => (h.row i hi).cell hj⟩
theorem InR.below {w w' : World} {D M N : Nat} {f : Nat → Nat → Bool} (h : InR w D M N f) (hb : Below w.heap.size w w') : InR w' D M N f :=
  ⟨fun i hi => below_cell hb (h.head i hi), fun i j hi hj => below_cell hb (h.cell i j hi hj)⟩
/-- What width.Fits answers. -/
def FitsPost (n : Int) (l : List (Int × Int)) (m : List (List Int)) (u : List Int) (w : World) (e : Ending) (w' : World) : Prop :=
  ∃ (ok : Bool) (c a : Int), e = .returned (.tuple #[.bool ok, .agg #[.int .i64 c, .int .i64 a]]) ∧ FitsSpec n l m u c a ∧ Below w.heap.size w w' ∧ (c ≠ 0 → ok = false) ∧
    (c = 0 → ∃ (N : Nat) (bs : List (List Nat)), n = N ∧ m = bs.map ints ∧ (ok = true ↔ OverT N l bs u))
theorem FitsPost.bad {n : Int} {l : List (Int × Int)} {m : List (List Int)} {u : List Int} {w w' : World} {c a : Int} (h : FitsSpec n l m u c a) (hc : c ≠ 0) (hb : Below w.heap.size w w') :
    FitsPost n l m u w (.returned (.tuple #[.bool false, .agg #[.int .i64 c, .int .i64 a]])) w' := ⟨false, c, a, rfl, h, hb, fun _ => rfl, fun e => absurd e hc⟩
theorem FitsPost.zero {N : Nat} {l : List (Int × Int)} {m : List (List Int)} {u : List Int} {w w' : World} {bs : List (List Nat)} {ok : Bool} (h : FitsSpec (N : Int) l m u 0 0) (hm : m = bs.map ints) (hok : ok = true ↔ OverT N l bs u) (hb : Below w.heap.size w w') :
    FitsPost (N : Int) l m u w (.returned (.tuple #[.bool ok, .agg #[.int .i64 0, .int .i64 0]])) w' := ⟨ok, 0, 0, rfl, h, hb, fun e => absurd rfl e, fun _ => ⟨N, bs, rfl, hm, hok⟩⟩
theorem FitsPost.no {N : Nat} {l : List (Int × Int)} {m : List (List Int)} {u : List Int} {w w' : World} {bs : List (List Nat)} (h : FitsSpec (N : Int) l m u 0 0) (hm : m = bs.map ints) (hok : ¬ OverT N l bs u) (hb : Below w.heap.size w w') :
    FitsPost (N : Int) l m u w (.returned (.tuple #[.bool false, .agg #[.int .i64 0, .int .i64 0]])) w' := .zero h hm ⟨fun e => (by cases e), fun k => absurd k hok⟩ hb
/-- Bags of nodes. -/
theorem bags_back {n : Int} {m : List (List Int)} (h : ∀ i, i < m.length → BagOk n (m.getD i [])) : m = (m.map (List.map Int.toNat)).map ints := by
  rw [List.map_map]
  refine List.ext_getElem (by simp) fun i h1 h2 => ?_
  rw [List.getElem_map]
  have hb := h i h1
  rw [List.getD, List.getElem?_eq_getElem h1] at hb
  show m[i] = ints (m[i].map Int.toNat)
  unfold ints
  rw [List.map_map]
  refine List.ext_getElem (by simp) fun j h3 h4 => ?_
  have h5 := (hb j h3).1.1
  simp only [Option.getD_some] at h5
  rw [List.getD, List.getElem?_eq_getElem h3] at h5
  simp only [List.getElem_map, Function.comp]
  exact (Int.toNat_of_nonneg h5).symm
theorem graph_good {n : Int} {l : List (Int × Int)} (h : GraphSpec n l 0 0) : 0 ≤ n ∧ n ≤ 100 ∧ l.length ≤ 1000 ∧ ∀ j, j < l.length → EndsOk n (l.getD j (0, 0)) ∧ (l.getD j (0, 0)).1 ≠ (l.getD j (0, 0)).2 := by
  rcases h with ⟨_, h, _⟩ | ⟨hb, ⟨_, _, _, hw, _⟩ | ⟨h, _, _⟩⟩
  · cases h
  · exact absurd rfl hw.ne0
  · unfold TooBig at hb
    exact ⟨by omega, by omega, by omega, fun j hj => ⟨(h j hj).1, (h j hj).2.1⟩⟩
def hasI (m : List (List Int)) (i j : Nat) : Bool := decide ((j : Int) ∈ m.getD i [])
theorem hasI_hasB (bs : List (List Nat)) (i j : Nat) : hasI (bs.map ints) i j = hasB bs j i := by
  unfold hasI hasB
  rw [map_ints_getD, Bool.eq_iff_iff, decide_eq_true_eq, List.contains_iff_mem, ints, List.mem_map]
  exact ⟨fun ⟨a, h1, h2⟩ => by obtain rfl : a = j := by omega
                               exact h1, fun h => ⟨j, h, rfl⟩⟩
end Go.Proofs.YtnmljgjegodkaaaDoor
