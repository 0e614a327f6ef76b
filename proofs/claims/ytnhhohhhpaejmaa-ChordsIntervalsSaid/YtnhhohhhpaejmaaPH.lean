/- Tables of bools: rows of their own. And lists of edges that the call owns. What stands throughout a law of one graph. -/
import Derived.Test.YtnhhohhhpaejmaaBase0
import Derived.Test.YtnhhohhhpaejmaaPA
import Derived.Test.YtnhhohhhpaejmaaGraph
namespace Go.Proofs.Ytnhhohhhpaejmaa
open Go.RowKit

/-- Rows of bools hang at the n cells from ⟨b, o⟩ on. -/
structure Grid (w : World) (B b o n : Nat) (R : Nat → Nat) (G : Nat → Nat → Bool) : Prop where
  new : ∀ i, i < n → B ≤ R i
  inj : ∀ i j, i < n → j < n → R i = R j → i = j
  head : ∀ i, i < n → w.cell? ⟨b, o + i, none⟩ = some (.slice (some ⟨R i, 0, none⟩) n n)
  row : ∀ i, i < n → w.rowIs (R i) 4 n (rb (G i))
  off : ∀ i, i < n → R i ≠ b

section
variable {w w' : World} {B b o n : Nat} {R : Nat → Nat} {G : Nat → Nat → Bool}
theorem Grid.below (h : Grid w B b o n R G) (hb : Below w.heap.size w w') : Grid w' B b o n R G :=
  ⟨h.new, h.inj, fun i hi => below_cell hb (h.head i hi), fun i hi => (h.row i hi).of_block (hb.block _ (h.row i hi).lt), h.off⟩
theorem Grid.low {B' : Nat} (h : Grid w B b o n R G) (hB : B' ≤ B) : Grid w B' b o n R G :=
  ⟨fun i hi => Nat.le_trans hB (h.new i hi), h.inj, h.head, h.row, h.off⟩
theorem Grid.cell (h : Grid w B b o n R G) {i j : Nat} (hi : i < n) (hj : j < n) : w.cell? ⟨R i, j, none⟩ = some (.bool (G i j)) := (h.row i hi).cell hj
theorem Grid.set (h : Grid w B b o n R G) {x : Nat} (hx : x < n) (y : Nat) (c : Bool) :
    Grid (w.setCell ⟨R x, y, none⟩ (.bool c)) B b o n R (fun i j => if i = x ∧ j = y then c else G i j) := by
  refine ⟨h.new, h.inj, fun i hi => ?_, fun i hi => ?_, h.off⟩
  · rw [World.cell?_setCell_far _ _ _ _ (show (⟨R x, y, none⟩ : Addr).block ≠ (⟨b, o + i, none⟩ : Addr).block from h.off x hx)]
    exact h.head i hi
  · by_cases e : i = x
    · subst e
      exact row_rb (row_set_rb (h.row i hi) y c) fun k _ => by by_cases e : k = y <;> simp [e]
    · have := (h.row i hi).setOther (a := ⟨R x, y, none⟩) (show R i ≠ R x from fun h2 => e (h.inj _ _ hi hx h2)) (.bool c)
      exact row_rb this fun k _ => by simp [e]
theorem Grid.congr {G' : Nat → Nat → Bool} (h : Grid w B b o n R G) (e : ∀ i j, i < n → j < n → G i j = G' i j) : Grid w B b o n R G' :=
  ⟨h.new, h.inj, h.head, fun i hi => row_rb (h.row i hi) fun j hj => e i j hi hj, h.off⟩
end

/-- Slice value v is such a table. -/
def IsGrid (w : World) (B : Nat) (v : Value) (n : Nat) (G : Nat → Nat → Bool) : Prop :=
  ∃ (a : Option Addr) (cap b o : Nat) (R : Nat → Nat), v = .slice a n cap ∧ n ≤ cap ∧ (0 < n → a = some ⟨b, o, none⟩ ∧ B ≤ b) ∧ Grid w B b o n R G
theorem IsGrid.below {w w' : World} {B n : Nat} {v : Value} {G : Nat → Nat → Bool} (h : IsGrid w B v n G) (hb : Below w.heap.size w w') : IsGrid w' B v n G := by
  obtain ⟨a, cap, b, o, R, h1, h2, h3, h4⟩ := h
  exact ⟨a, cap, b, o, R, h1, h2, h3, h4.below hb⟩

/-- The cells of edges. -/
def cells2 (l : List (Int × Int)) : List Value := l.flatMap fun e => [.int .i64 e.1, .int .i64 e.2]
theorem cells2_length (l : List (Int × Int)) : (cells2 l).length = l.length * 2 := by
  unfold cells2
  induction l with
  | nil => rfl
  | cons e l ih => simp only [List.flatMap_cons, List.length_append, ih, List.length_cons, List.length_nil]; omega
theorem cells2_append (l m : List (Int × Int)) : cells2 (l ++ m) = cells2 l ++ cells2 m := by unfold cells2; rw [List.flatMap_append]
theorem cells2_get (l : List (Int × Int)) : ∀ j, j < l.length → (cells2 l)[j * 2]? = some (.int .i64 (l.getD j (0, 0)).1) ∧ (cells2 l)[j * 2 + 1]? = some (.int .i64 (l.getD j (0, 0)).2) := by
  induction l with
  | nil => intro j hj; exact absurd hj (Nat.not_lt_zero _)
  | cons e l ih =>
    intro j hj
    cases j with
    | zero => exact ⟨rfl, rfl⟩
    | succ j =>
      have := ih j (by simpa using hj)
      have e1 : cells2 (e :: l) = Value.int .i64 e.1 :: Value.int .i64 e.2 :: cells2 l := rfl
      rw [e1, show (j + 1) * 2 = j * 2 + 1 + 1 by omega]
      simpa using this
theorem cells2_one (l : List (Int × Int)) : ∀ u ∈ cells2 l, u.oneCell' = true := by
  intro u hu
  unfold cells2 at hu
  simp only [List.mem_flatMap, List.mem_cons, List.not_mem_nil, or_false] at hu
  obtain ⟨e, _, rfl | rfl⟩ := hu <;> rfl
theorem cells2_some {l : List (Int × Int)} {j : Nat} {u : Value} (h : (cells2 l)[j]? = some u) : ∃ i, i < l.length ∧ ((j = i * 2 ∧ u = .int .i64 (l.getD i (0, 0)).1) ∨ (j = i * 2 + 1 ∧ u = .int .i64 (l.getD i (0, 0)).2)) := by
  have hj : j < l.length * 2 := by have := (List.getElem?_eq_some_iff.1 h).1; rwa [cells2_length] at this
  obtain ⟨h1, h2⟩ := cells2_get l (j / 2) (by omega)
  refine ⟨j / 2, by omega, ?_⟩
  rcases Nat.mod_two_eq_zero_or_one j with e | e
  · have ej : j = j / 2 * 2 := by omega
    rw [← ej, h] at h1
    exact Or.inl ⟨ej, Option.some.inj h1⟩
  · have ej : j = j / 2 * 2 + 1 := by omega
    rw [← ej, h] at h2
    exact Or.inr ⟨ej, Option.some.inj h2⟩

/-- Edges that the call owns. -/
def OwnE (w : World) (base : Nat) (v : Value) (l : List (Int × Int)) : Prop := w.ownsRow base 52 2 v l.length (cells2 l)
theorem OwnE.nil (w : World) (base : Nat) : OwnE w base (.slice none 0 0) [] := World.ownsRow_nil _ _ _ _
theorem OwnE.form {w : World} {base : Nat} {v : Value} {l : List (Int × Int)} (h : OwnE w base v l) : ∃ a c, v = .slice a l.length c := ownsRow_form h
theorem OwnE.low {w : World} {base b' : Nat} {v : Value} {l : List (Int × Int)} (h : OwnE w base v l) (hb : b' ≤ base) : OwnE w b' v l := by
  obtain ⟨h1, h2⟩ := h
  refine ⟨h1, ?_⟩
  rcases h2 with h2 | ⟨g, cap, cur, e, hg, h3⟩
  · exact Or.inl h2
  · exact Or.inr ⟨g, cap, cur, e, by omega, h3⟩
theorem OwnE.edges {w : World} {base : Nat} {v : Value} {l : List (Int × Int)} (h : OwnE w base v l) : IsEdges w v l := by
  have h0 : w.ownsRow base 52 2 v l.length (cells2 l) := h
  have hx := h0.1
  rcases h0.2 with ⟨rfl, h2⟩ | ⟨g, cap, cur, rfl, hb, hgg, h3, h4, h5, h6⟩
  · obtain rfl : l = [] := List.eq_nil_of_length_eq_zero h2
    exact IsEdges.nil w
  · refine ⟨some ⟨g, 0, none⟩, cap, g, 0, rfl, h3, by unfold maxLen at h4; omega, fun _ => rfl, by simp, fun j hj => ?_⟩
    obtain ⟨c1, c2⟩ := cells2_get l j hj
    have e1 := h0.cells (g := g) rfl _ _ c1
    have e2 := h0.cells (g := g) rfl _ _ c2
    rw [Addr.add_lit] at e1 e2
    exact ⟨e1, by rw [Nat.add_assoc]; exact e2⟩
theorem OwnE.below {w w' : World} {base : Nat} {v : Value} {l : List (Int × Int)} (h : OwnE w base v l) (hb : Below w.heap.size w w') : OwnE w' base v l := ownsRow_below h hb (Nat.le_refl _)

/-- One edge in a new block of its own. -/
theorem edge_one (w : World) (x y : Int) (t : TypeId) {b : Nat} (hb : b = w.heap.size) : IsEdges (w.alloc (.cells #[.int .i64 x, .int .i64 y] t)) (.slice (some ⟨b, 0, none⟩) 1 1) [(x, y)] := by
  subst hb
  refine ⟨_, 1, w.heap.size, 0, rfl, Nat.le_refl _, by omega, fun _ => rfl, by simp, fun j hj => ?_⟩
  obtain rfl : j = 0 := by simpa using hj
  exact ⟨by rw [World.cell?_alloc_at _ _ _ _ rfl]; rfl, by rw [World.cell?_alloc_at _ _ _ _ rfl]; rfl⟩

/-- 'append' of edges onto edges that the call owns. -/
theorem wpList_append_edges {P : Program} {w : World} {ops : Array Oper} {rest : List Oper} {o : Oper} {a : Act} {Q : Exit → Act → World → Prop} (hgd : o.guard = none) (s x : Operand) (t : TypeId)
    (ho : o.op = .call { callee := .builtin .append, args := #[s, x], argTypes := #[t, t] })
    (base : Nat) (ht : P.underlying t = some (.slice 52)) (hinfo : (P.info? 52).map (fun i => (i.zero, i.size, i.bytes)) = some (some (.agg #[.int .i64 0, .int .i64 0]), 2, 16))
    (v : Value) (l : List (Int × Int)) (hs : a.eval s = v) (hown : OwnE w base v l)
    (src : Value) (m : List (Int × Int)) (hx : a.eval x = src) (hsrc : IsEdges w src m)
    (r : List (Int × Int)) (hr : l ++ m = r) (hbytes : (l.length + m.length) * 16 ≤ 140737488355328) (hbase : base ≤ w.heap.size)
    (h : ∀ a' c' w', OwnE w' base (.slice a' r.length c') r → w.grownBy w' v.ownBlock → wpList P ops Q rest (a.put o.dst (.slice a' r.length c')) w') : wpList P ops Q (o :: rest) a w := by
  obtain ⟨i, hi, hz0, hsz, hby⟩ := info_parts hinfo
  subst hr
  obtain ⟨ao, cap, b, oo, rfl, hcap, hmax, hadr, hnone, hcells⟩ := hsrc
  have lift : ∀ {v' : Value} {w' : World}, w'.ownsRow base 52 2 v' (l.length + m.length) (cells2 l ++ cells2 m) → OwnE w' base v' (l ++ m) := fun h1 => by
    unfold OwnE; rw [List.length_append, cells2_append]; exact h1
  cases ao with
  | none =>
    have hc := hnone rfl
    obtain rfl : m = [] := List.eq_nil_of_length_eq_zero (by omega)
    subst hc
    obtain ⟨a', c', rfl⟩ := hown.form
    refine wpList_append_own_none hgd s x t ho base _ i 2 ht hi _ _ _ hs hown hx ?_
    simpa using h a' c' w (by simpa using hown) (World.grownBy.refl _ _)
  | some ad =>
    refine wpList_append_own w hgd s x t ho base _ i (.agg #[.int .i64 0, .int .i64 0]) 2 16 ht hi hz0 hsz hby rfl (by omega) v l.length (cells2 l) hs hown ad m.length cap (cells2 m) hx (cells2_length m) (fun j u hu => ?_) (cells2_one m) (by unfold maxLen; omega) hbytes hbase fun v' w' h1 h2 _ => by
      have h3 := lift h1
      obtain ⟨a', c', rfl⟩ := h3.form
      exact h a' c' w' h3 h2
    obtain ⟨i, hi, ⟨rfl, rfl⟩ | ⟨rfl, rfl⟩⟩ := cells2_some hu
    · have ha := hadr (by omega)
      obtain rfl := Option.some.inj ha
      rw [Addr.add_lit]; exact (hcells i hi).1
    · have ha := hadr (by omega)
      obtain rfl := Option.some.inj ha
      rw [Addr.add_lit, ← Nat.add_assoc]; exact (hcells i hi).2

end Go.Proofs.Ytnhhohhhpaejmaa
namespace Go.Proofs.Ytnhhohhhpaejmaa
open Go.RowKit

/-- What stands throughout: the argument's box, one's own copy's box, both graphs' edges. -/
structure LB (w wr : World) (n : Int) (v v2 : Value) (l : List (Int × Int)) (B : Nat) : Prop where
  hb : Below w.heap.size w wr
  cn : wr.cell? ⟨w.heap.size, 0, none⟩ = some (.int .i64 n)
  cs : wr.cell? ⟨w.heap.size, 1, none⟩ = some v
  on : wr.cell? ⟨B, 0, none⟩ = some (.int .i64 n)
  os : wr.cell? ⟨B, 1, none⟩ = some v2
  he : IsEdges wr v l
  ho : IsEdges wr v2 l
theorem LB.below {w wr w' : World} {n : Int} {v v2 : Value} {l : List (Int × Int)} {B : Nat} (h : LB w wr n v v2 l B) (hb : Below wr.heap.size wr w') : LB w w' n v v2 l B :=
  ⟨h.hb.trans (hb.mono h.hb.size), below_cell hb h.cn, below_cell hb h.cs, below_cell hb h.on, below_cell hb h.os, h.he.below hb, h.ho.below hb⟩

end Go.Proofs.Ytnhhohhhpaejmaa
