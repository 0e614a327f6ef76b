/- Tables of bools: rows of their own. And lists of edges that the call owns. Memory of colour.edger: a table of the colours of edges. What stands throughout a law of one graph. -/
import Derived.Test.YtnhhohhhpaejmaaDoorBase0
import Derived.Test.YtnhhohhhpaejmaaDoorPA
import Derived.Test.YtnhhohhhpaejmaaDoorGraph
namespace Go.Proofs.YtnhhohhhpaejmaaDoor
open Go.RowKit

/-- Rows of bools hang at the n cells from ⟨b, o⟩ on. -/
structure Grid (w : World) (B b o n : Nat) (R : Nat → Nat) (G : Nat → Nat → Bool) : Prop where
  new : ∀ i, i < n → B ≤ R i
  inj : ∀ i j, i < n → j < n → R i = R j → i = j
  head : ∀ i, i < n → w.cell? ⟨b, o + i, none⟩ = some (.slice (some ⟨R i, 0, none⟩) n n)
  row : ∀ i, i < n → w.rowIs (R i) 4 n (rb (G i))
  off : ∀ i, i < n → R i ≠ b

section
variable {w w' : World} {B b o n : Nat} {R : Nat → Nat} {G : Nat → Nat → Bool}
theorem Grid.below (h : Grid w B b o n R G) (hb : Below w.heap.size w w') : Grid w' B b o n R G :=
  ⟨h.new, h.inj, fun i hi => below_cell hb (h.head i hi), fun i hi => (h.row i hi).of_block (hb.block _ (h.row i hi).lt), h.off⟩
theorem Grid.low {B' : Nat} (h : Grid w B b o n R G) (hB : B' ≤ B) : Grid w B' b o n R G :=
  ⟨fun i hi => Nat.le_trans hB (h.new i hi), h.inj, h.head, h.row, h.off⟩
theorem Grid.cell (h : Grid w B b o n R G) {i j : Nat} (hi : i < n) (hj : j < n) : w.cell? ⟨R i, j, none⟩ = some (.bool (G i j)) := (h.row i hi).cell hj
theorem Grid.set (h : Grid w B b o n R G) {x : Nat} (hx : x < n) (y : Nat) (c : Bool) :
    Grid (w.setCell ⟨R x, y, none⟩ (.bool c)) B b o n R (fun i j => if i = x ∧ j = y then c else G i j) := by
  refine ⟨h.new, h.inj, fun i hi => ?_, fun i hi => ?_, h.off⟩
  · rw [World.cell?_setCell_far _ _ _ _ (show (⟨R x, y, none⟩ : Addr).block ≠ (⟨b, o + i, none⟩ : Addr).block from h.off x hx)]
    exact h.head i hi
  · by_cases e : i = x
    · subst e
      exact row_rb (row_set_rb (h.row i hi) y c) fun k _ => by by_cases e : k = y <;> simp [e]
    · have := (h.row i hi).setOther (a := ⟨R x, y, none⟩) (show R i ≠ R x from fun h2 => e (h.inj _ _ hi hx h2)) (.bool c)
      exact row_rb this fun k _ => by simp [e]
theorem Grid.congr {G' : Nat → Nat → Bool} (h : Grid w B b o n R G) (e : ∀ i j, i < n → j < n → G i j = G' i j) : Grid w B b o n R G' :=
  ⟨h.new, h.inj, h.head, fun i hi => row_rb (h.row i hi) fun j hj => e i j hi hj, h.off⟩
end

/-- Slice value v is such a table. -/
def IsGrid (w : World) (B : Nat) (v : Value) (n : Nat) (G : Nat → Nat → Bool) : Prop :=
  ∃ (a : Option Addr) (cap b o : Nat) (R : Nat → Nat), v = .slice a n cap ∧ n ≤ cap ∧ (0 < n → a = some ⟨b, o, none⟩ ∧ B ≤ b) ∧ Grid w B b o n R G
theorem IsGrid.below {w w' : World} {B n : Nat} {v : Value} {G : Nat → Nat → Bool} (h : IsGrid w B v n G) (hb : Below w.heap.size w w') : IsGrid w' B v n G := by
  obtain ⟨a, cap, b, o, R, h1, h2, h3, h4⟩ := h
  exact ⟨a, cap, b, o, R, h1, h2, h3, h4.below hb⟩

/-- The cells of edges. -/
def cells2 (l : List (Int × Int)) : List Value := l.flatMap fun e => [.int .i64 e.1, .int .i64 e.2]
theorem cells2_length (l : List (Int × Int)) : (cells2 l).length = l.length * 2 := by
  unfold cells2
  induction l with
  | nil => rfl
  | cons e l ih => simp only [List.flatMap_cons, List.length_append, ih, List.length_cons, List.length_nil]; omega
theorem cells2_append (l m : List (Int × Int)) : cells2 (l ++ m) = cells2 l ++ cells2 m := by unfold cells2; rw [List.flatMap_append]
theorem cells2_get (l : List (Int × Int)) : ∀ j, j < l.length → (cells2 l)[j * 2]? = some (.int .i64 (l.getD j (0, 0)).1) ∧ (cells2 l)[j * 2 + 1]? = some (.int .i64 (l.getD j (0, 0)).2) := by
  induction l with
  | nil => intro j hj; exact absurd hj (Nat.not_lt_zero _)
  | cons e l ih =>
    intro j hj
    cases j with
    | zero => exact ⟨rfl, rfl⟩
    | succ j =>
      have := ih j (by simpa using hj)
      have e1 : cells2 (e :: l) = Value.int .i64 e.1 :: Value.int .i64 e.2 :: cells2 l := rfl
      rw [e1, show (j + 1) * 2 = j * 2 + 1 + 1 by omega]
      simpa using this
theorem cells2_one (l : List (Int × Int)) : ∀ u ∈ cells2 l, u.oneCell' = true := by
  intro u hu
  unfold cells2 at hu
  simp only [List.mem_flatMap, List.mem_cons, List.not_mem_nil, or_false] at hu
  obtain ⟨e, _, rfl | rfl⟩ := hu <;> rfl
theorem cells2_some {l : List (Int × Int)} {j : Nat} {u : Value} (h : (cells2 l)[j]? = some u) : ∃ i, i < l.length ∧ ((j = i * 2 ∧ u = .int .i64 (l.getD i (0, 0)).1) ∨ (j = i * 2 + 1 ∧ u = .int .i64 (l.getD i (0, 0)).2)) := by
  have hj : j < l.length * 2 := by have := (List.getElem?_eq_some_iff.1 h).1; rwa [cells2_length] at this
  obtain ⟨h1, h2⟩ := cells2_get l (j / 2) (by omega)
  refine ⟨j / 2, by omega, ?_⟩
  rcases Nat.mod_two_eq_zero_or_one j with e | e
  · have ej : j = j / 2 * 2 := by omega
    rw [← ej, h] at h1
    exact Or.inl ⟨ej, Option.some.inj h1⟩
  · have ej : j = j / 2 * 2 + 1 := by omega
    rw [← ej, h] at h2
    exact Or.inr ⟨ej, Option.some.inj h2⟩

/-- Edges that the call owns. -/
def OwnE (w : World) (base : Nat) (v : Value) (l : List (Int × Int)) : Prop := w.ownsRow base 39 2 v l.length (cells2 l)
theorem OwnE.nil (w : World) (base : Nat) : OwnE w base (.slice none 0 0) [] := World.ownsRow_nil _ _ _ _
theorem OwnE.form {w : World} {base : Nat} {v : Value} {l : List (Int × Int)} (h : OwnE w base v l) : ∃ a c, v = .slice a l.length c := ownsRow_form h
theorem OwnE.low {w : World} {base b' : Nat} {v : Value} {l : List (Int × Int)} (h : OwnE w base v l) (hb : b' ≤ base) : OwnE w b' v l := by
  obtain ⟨h1, h2⟩ := h
  refine ⟨h1, ?_⟩
  rcases h2 with h2 | ⟨g, cap, cur, e, hg, h3⟩
  · exact Or.inl h2
  · exact Or.inr ⟨g, cap, cur, e, by omega, h3⟩
theorem OwnE.edges {w : World} {base : Nat} {v : Value} {l : List (Int × Int)} (h : OwnE w base v l) : IsEdges w v l := by
  have h0 : w.ownsRow base 39 2 v l.length (cells2 l) := h
  have hx := h0.1
  rcases h0.2 with ⟨rfl, h2⟩ | ⟨g, cap, cur, rfl, hb, hgg, h3, h4, h5, h6⟩
  · obtain rfl : l = [] := List.eq_nil_of_length_eq_zero h2
    exact IsEdges.nil w
  · refine ⟨some ⟨g, 0, none⟩, cap, g, 0, rfl, h3, by unfold maxLen at h4; omega, fun _ => rfl, by simp, fun j hj => ?_⟩
    obtain ⟨c1, c2⟩ := cells2_get l j hj
    have e1 := h0.cells (g := g) rfl _ _ c1
    have e2 := h0.cells (g := g) rfl _ _ c2
    rw [Addr.add_lit] at e1 e2
    exact ⟨e1, by rw [Nat.add_assoc]; exact e2⟩
theorem OwnE.below {w w' : World} {base : Nat} {v : Value} {l : List (Int × Int)} (h : OwnE w base v l) (hb : Below w.heap.size w w') : OwnE w' base v l := ownsRow_below h hb (Nat.le_refl _)

/-- One edge in a new block of its own. -/
theorem edge_one (w : World) (x y : Int) (t : TypeId) {b : Nat} (hb : b = w.heap.size) : IsEdges (w.alloc (.cells #[.int .i64 x, .int .i64 y] t)) (.slice (some ⟨b, 0, none⟩) 1 1) [(x, y)] := by
  subst hb
  refine ⟨_, 1, w.heap.size, 0, rfl, Nat.le_refl _, by omega, fun _ => rfl, by simp, fun j hj => ?_⟩
  obtain rfl : j = 0 := by simpa using hj
  exact ⟨by rw [World.cell?_alloc_at _ _ _ _ rfl]; rfl, by rw [World.cell?_alloc_at _ _ _ _ rfl]; rfl⟩

/-- 'append' of edges onto edges that the call owns. -/
theorem wpList_append_edges {P : Program} {w : World} {ops : Array Oper} {rest : List Oper} {o : Oper} {a : Act} {Q : Exit → Act → World → Prop} (hgd : o.guard = none) (s x : Operand) (t : TypeId)
    (ho : o.op = .call { callee := .builtin .append, args := #[s, x], argTypes := #[t, t] })
    (base : Nat) (ht : P.underlying t = some (.slice 39)) (hinfo : (P.info? 39).map (fun i => (i.zero, i.size, i.bytes)) = some (some (.agg #[.int .i64 0, .int .i64 0]), 2, 16))
    (v : Value) (l : List (Int × Int)) (hs : a.eval s = v) (hown : OwnE w base v l)
    (src : Value) (m : List (Int × Int)) (hx : a.eval x = src) (hsrc : IsEdges w src m)
    (r : List (Int × Int)) (hr : l ++ m = r) (hbytes : (l.length + m.length) * 16 ≤ 140737488355328) (hbase : base ≤ w.heap.size)
    (h : ∀ a' c' w', OwnE w' base (.slice a' r.length c') r → w.grownBy w' v.ownBlock → wpList P ops Q rest (a.put o.dst (.slice a' r.length c')) w') : wpList P ops Q (o :: rest) a w := by
  obtain ⟨i, hi, hz0, hsz, hby⟩ := info_parts hinfo
  subst hr
  obtain ⟨ao, cap, b, oo, rfl, hcap, hmax, hadr, hnone, hcells⟩ := hsrc
  have lift : ∀ {v' : Value} {w' : World}, w'.ownsRow base 39 2 v' (l.length + m.length) (cells2 l ++ cells2 m) → OwnE w' base v' (l ++ m) := fun h1 => by
    unfold OwnE; rw [List.length_append, cells2_append]; exact h1
  cases ao with
  | none =>
    have hc := hnone rfl
    obtain rfl : m = [] := List.eq_nil_of_length_eq_zero (by omega)
    subst hc
    obtain ⟨a', c', rfl⟩ := hown.form
    refine wpList_append_own_none hgd s x t ho base _ i 2 ht hi _ _ _ hs hown hx ?_
    simpa using h a' c' w (by simpa using hown) (World.grownBy.refl _ _)
  | some ad =>
    refine wpList_append_own w hgd s x t ho base _ i (.agg #[.int .i64 0, .int .i64 0]) 2 16 ht hi hz0 hsz hby rfl (by omega) v l.length (cells2 l) hs hown ad m.length cap (cells2 m) hx (cells2_length m) (fun j u hu => ?_) (cells2_one m) (by unfold maxLen; omega) hbytes hbase fun v' w' h1 h2 _ => by
      have h3 := lift h1
      obtain ⟨a', c', rfl⟩ := h3.form
      exact h a' c' w' h3 h2
    obtain ⟨i, hi, ⟨rfl, rfl⟩ | ⟨rfl, rfl⟩⟩ := cells2_some hu
    · have ha := hadr (by omega)
      obtain rfl := Option.some.inj ha
      rw [Addr.add_lit]; exact (hcells i hi).1
    · have ha := hadr (by omega)
      obtain rfl := Option.some.inj ha
      rw [Addr.add_lit, ← Nat.add_assoc]; exact (hcells i hi).2

end Go.Proofs.YtnhhohhhpaejmaaDoor
namespace Go.Proofs.YtnhhohhhpaejmaaDoor
open Go Go.RowKit

/-- The rows of a table. -/
def RowB (R : Nat → Nat) (N : Nat) : Nat → Prop := fun k => ∃ i, i < N ∧ k = R i
/-- The box of the table at XB, the table's heads at b, its rows. -/
structure EdI (w : World) (XB b N : Nat) (R : Nat → Nat) (C : Nat → Nat → Nat) : Prop where
  cx : w.cell? ⟨XB, 0, none⟩ = some (.slice (some ⟨b, 0, none⟩) N N)
  head : ∀ i, i < N → w.cell? ⟨b, i, none⟩ = some (.slice (some ⟨R i, 0, none⟩) N N)
  row : ∀ i, i < N → w.rowIs (R i) 3 N (rn (C i))
  inj : ∀ i j, i < N → j < N → R i = R j → i = j
  offX : ∀ i, i < N → R i ≠ XB
  offB : ∀ i, i < N → R i ≠ b
section
variable {w w' : World} {XB b N : Nat} {R : Nat → Nat} {C C' : Nat → Nat → Nat}
theorem EdI.keep {S : Nat → Prop} (h : EdI w XB b N R C) (hc : Chg S w w') (hX : ¬ S XB) (hb : ¬ S b) (hR : ∀ i, i < N → ¬ S (R i)) : EdI w' XB b N R C :=
  ⟨hc.cell h.cx hX, fun i hi => hc.cell (h.head i hi) hb, fun i hi => hc.rowIs (h.row i hi) (hR i hi), h.inj, h.offX, h.offB⟩
theorem EdI.below (h : EdI w XB b N R C) (hb : Below w.heap.size w w') : EdI w' XB b N R C := h.keep (S := fun _ => False) (Chg.ofBelow hb) id id fun _ _ => id
theorem EdI.cell (h : EdI w XB b N R C) {i j : Nat} (hi : i < N) (hj : j < N) : w.cell? ⟨R i, j, none⟩ = some (.int .i64 (C i j : Int)) := (h.row i hi).cell hj
theorem EdI.congr (h : EdI w XB b N R C) (e : ∀ i j, i < N → j < N → C i j = C' i j) : EdI w XB b N R C' :=
  ⟨h.cx, h.head, fun i hi => (h.row i hi).congr fun j hj => by simp only [rn]; rw [e i j hi hj], h.inj, h.offX, h.offB⟩
/-- One entry is set. -/
theorem EdI.set1 (h : EdI w XB b N R C) {x : Nat} (hx : x < N) (y k : Nat) : EdI (w.setCell ⟨R x, y, none⟩ (.int .i64 (k : Int))) XB b N R (fun p q => if p = x ∧ q = y then k else C p q) := by
  refine ⟨?_, fun i hi => ?_, fun i hi => ?_, h.inj, h.offX, h.offB⟩
  · rw [World.cell?_setCell_far _ _ _ _ (show (⟨R x, y, none⟩ : Addr).block ≠ (⟨XB, 0, none⟩ : Addr).block from h.offX x hx)]; exact h.cx
  · rw [World.cell?_setCell_far _ _ _ _ (show (⟨R x, y, none⟩ : Addr).block ≠ (⟨b, i, none⟩ : Addr).block from h.offB x hx)]; exact h.head i hi
  · by_cases e : i = x
    · subst e
      exact (row_set_rn (h.row i hi) y k).congr fun q _ => by simp only [rn]; by_cases e : q = y <;> simp [e]
    · have := (h.row i hi).setOther (a := ⟨R x, y, none⟩) (show R i ≠ R x from fun h2 => e (h.inj _ _ hi hx h2)) (.int .i64 (k : Int))
      exact this.congr fun q _ => by simp [rn, e]
/-- An entry is set both ways round. -/
theorem EdI.put (h : EdI w XB b N R C) {x y : Nat} (hx : x < N) (hy : y < N) (k : Nat) : EdI ((w.setCell ⟨R x, y, none⟩ (.int .i64 (k : Int))).setCell ⟨R y, x, none⟩ (.int .i64 (k : Int))) XB b N R (setC C x y k) := by
  refine ((h.set1 hx y k).set1 hy x k).congr fun i j _ _ => ?_
  unfold setC
  by_cases e1 : i = x ∧ j = y <;> by_cases e2 : i = y ∧ j = x <;> simp [e1, e2]
theorem chg_put (w : World) {x y : Nat} (hx : x < N) (hy : y < N) (u v : Value) (p q : Nat) : Chg (RowB R N) w ((w.setCell ⟨R x, p, none⟩ u).setCell ⟨R y, q, none⟩ v) :=
  ((Chg.refl _ w).setCell (p := ⟨R x, p, none⟩) (fun _ => ⟨x, hx, rfl⟩) u).setCell (p := ⟨R y, q, none⟩) (fun _ => ⟨y, hy, rfl⟩) v
theorem EdI.lt (h : EdI w XB b N R C) {i : Nat} (hi : i < N) : R i < w.heap.size := (h.row i hi).lt
theorem EdI.ltB (h : EdI w XB b N R C) (hN : 0 < N) : b < w.heap.size ∧ XB < w.heap.size := ⟨World.block_lt_of_cell? _ _ (h.head 0 hN), World.block_lt_of_cell? _ _ h.cx⟩
end

/-- The first edges of a way have colours K. -/
def setW (C : Nat → Nat → Nat) (P : List Nat) (K : Nat → Nat) : Nat → Nat → Nat → Nat
  | 0 => C
  | n + 1 => setC (setW C P K n) (P.getD n 0) (P.getD (n + 1) 0) (K n)
section
variable {C : Nat → Nat → Nat} {P : List Nat} {K : Nat → Nat}
theorem way_inj (hnd : ∀ i j, i < P.length → j < i → P.getD i 0 ≠ P.getD j 0) {a b : Nat} (ha : a < P.length) (hb : b < P.length) (h : P.getD a 0 = P.getD b 0) : a = b := by
  rcases Nat.lt_trichotomy a b with e | e | e
  · exact absurd h.symm (hnd b a hb e)
  · exact e
  · exact absurd h (hnd a b ha e)
theorem setW_on (hnd : ∀ i j, i < P.length → j < i → P.getD i 0 ≠ P.getD j 0) : ∀ n, n < P.length → ∀ i, i < n → setW C P K n (P.getD i 0) (P.getD (i + 1) 0) = K i ∧ setW C P K n (P.getD (i + 1) 0) (P.getD i 0) = K i
  | 0, _, i, hi => absurd hi (Nat.not_lt_zero _)
  | n + 1, hn, i, hi => by
    unfold setW setC
    by_cases e : i = n
    · subst e; simp
    · have ih := setW_on hnd n (by omega) i (by omega)
      have c1 : ¬ ((P.getD i 0 = P.getD n 0 ∧ P.getD (i + 1) 0 = P.getD (n + 1) 0) ∨ (P.getD i 0 = P.getD (n + 1) 0 ∧ P.getD (i + 1) 0 = P.getD n 0)) := by
        rintro (⟨h, _⟩ | ⟨h, _⟩)
        · exact e (way_inj hnd (by omega) (by omega) h)
        · have := way_inj hnd (a := i) (b := n + 1) (by omega) (by omega) h; omega
      have c2 : ¬ ((P.getD (i + 1) 0 = P.getD n 0 ∧ P.getD i 0 = P.getD (n + 1) 0) ∨ (P.getD (i + 1) 0 = P.getD (n + 1) 0 ∧ P.getD i 0 = P.getD n 0)) := by
        rintro (⟨_, h⟩ | ⟨_, h⟩)
        · have := way_inj hnd (a := i) (b := n + 1) (by omega) (by omega) h; omega
        · exact e (way_inj hnd (by omega) (by omega) h)
      rw [if_neg c1, if_neg c2]
      exact ih
theorem setW_off {p q : Nat} : ∀ n, (∀ i, i < n → ¬ (p = P.getD i 0 ∧ q = P.getD (i + 1) 0) ∧ ¬ (p = P.getD (i + 1) 0 ∧ q = P.getD i 0)) → setW C P K n p q = C p q
  | 0, _ => rfl
  | n + 1, h => by
    unfold setW setC
    rw [if_neg (by rintro (e | e); exact (h n (by omega)).1 e; exact (h n (by omega)).2 e)]
    exact setW_off n fun i hi => h i (by omega)
end
/-- The way's edges set to no colour, and then to the other one of two: the way is turned. -/
theorem turn_is {N D x y v : Nat} {G : Nat → Nat → Bool} {C : Nat → Nat → Nat} {P : List Nat} {K0 K1 : Nat → Nat} (hC : ColI N G D C) (hx : 1 ≤ x) (hy : 1 ≤ y) (hf : FreeC N C v y) (h : TwoE N C v x y P) (hK : ∀ i, i + 1 < P.length → K1 i = altC y x i) :
    ∀ a b, a < N → b < N → setW (setW C P K0 (P.length - 1)) P K1 (P.length - 1) a b = turnC C x y P a b := fun a b ha hb => by
  have hlP : 0 < P.length := List.length_pos_iff.2 h.i.ne
  have key : ∀ i, i + 1 < P.length → turnC C x y P (P.getD i 0) (P.getD (i + 1) 0) = K1 i ∧ turnC C x y P (P.getD (i + 1) 0) (P.getD i 0) = K1 i := fun i hi => by
    have m1 : P.getD i 0 ∈ P := mem_getD.2 ⟨i, by omega, rfl⟩
    have m2 : P.getD (i + 1) 0 ∈ P := mem_getD.2 ⟨i + 1, hi, rfl⟩
    have e := h.i.on i hi
    have e2 : C (P.getD (i + 1) 0) (P.getD i 0) = altC x y i := by rw [hC.sym _ _ (h.i.lt _ hi) (h.i.lt _ (by omega))]; exact e
    unfold turnC
    rw [if_pos m1, if_pos m2, e, e2, altC_sw, hK i hi]
    exact ⟨rfl, rfl⟩
  by_cases hon : ∃ i, i + 1 < P.length ∧ ((a = P.getD i 0 ∧ b = P.getD (i + 1) 0) ∨ (a = P.getD (i + 1) 0 ∧ b = P.getD i 0))
  · obtain ⟨i, hi, ⟨rfl, rfl⟩ | ⟨rfl, rfl⟩⟩ := hon
    · rw [(setW_on h.i.nodup _ (by omega) i (by omega)).1, (key i hi).1]
    · rw [(setW_on h.i.nodup _ (by omega) i (by omega)).2, (key i hi).2]
  · have off : ∀ i, i < P.length - 1 → ¬ (a = P.getD i 0 ∧ b = P.getD (i + 1) 0) ∧ ¬ (a = P.getD (i + 1) 0 ∧ b = P.getD i 0) := fun i hi => ⟨fun e => hon ⟨i, by omega, .inl e⟩, fun e => hon ⟨i, by omega, .inr e⟩⟩
    rw [setW_off _ off, setW_off _ off]
    unfold turnC
    by_cases hm : a ∈ P
    · rw [if_pos hm]
      obtain ⟨i, hi, rfl⟩ := mem_getD.1 hm
      by_cases hk : C (P.getD i 0) b = x ∨ C (P.getD i 0) b = y
      · exfalso
        have := h.shut hC hx hy hf hi hb hk
        rcases this with ⟨h1, h2⟩ | ⟨h1, h2⟩
        · exact hon ⟨i, h1, .inl ⟨rfl, h2⟩⟩
        · refine hon ⟨i - 1, by omega, .inr ⟨by rw [show i - 1 + 1 = i by omega], h2⟩⟩
      · rw [sw2_other (fun e => hk (.inl e)) (fun e => hk (.inr e))]
    · rw [if_neg hm]
end Go.Proofs.YtnhhohhhpaejmaaDoor
namespace Go.Proofs.YtnhhohhhpaejmaaDoor
open Go.RowKit

/-- What stands throughout: the argument's box, one's own copy's box, both graphs' edges. -/
structure LB (w wr : World) (n : Int) (v v2 : Value) (l : List (Int × Int)) (B : Nat) : Prop where
  hb : Below w.heap.size w wr
  cn : wr.cell? ⟨w.heap.size, 0, none⟩ = some (.int .i64 n)
  cs : wr.cell? ⟨w.heap.size, 1, none⟩ = some v
  on : wr.cell? ⟨B, 0, none⟩ = some (.int .i64 n)
  os : wr.cell? ⟨B, 1, none⟩ = some v2
  he : IsEdges wr v l
  ho : IsEdges wr v2 l
theorem LB.below {w wr w' : World} {n : Int} {v v2 : Value} {l : List (Int × Int)} {B : Nat} (h : LB w wr n v v2 l B) (hb : Below wr.heap.size wr w') : LB w w' n v v2 l B :=
  ⟨h.hb.trans (hb.mono h.hb.size), below_cell hb h.cn, below_cell hb h.cs, below_cell hb h.on, below_cell hb h.os, h.he.below hb, h.ho.below hb⟩

end Go.Proofs.YtnhhohhhpaejmaaDoor
