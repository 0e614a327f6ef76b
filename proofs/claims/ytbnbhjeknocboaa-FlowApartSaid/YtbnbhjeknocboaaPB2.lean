/- Rows of integers that the call owns. Several rows of one's own, each in a block of its own; 'append' onto one of them. No program in sight. Tables of bools: rows of their own. And lists of edges that the call owns. -/
import Derived.Test.YtbnbhjeknocboaaBase
import Derived.Test.YtbnbhjeknocboaaPA
import Derived.Maps.AppendAt
import Derived.Deep.RegionLaw
import Derived.Test.YtbnbhjeknocboaaGraph
namespace Go.Proofs.Ytbnbhjeknocboaa
open Go.RowKit

/-- k rows of m are copied: the value v owns their heads; each is owned, too. -/
def Copied (B : Nat) (wr : World) (v : Value) (k : Nat) (m : List (List Int)) : Prop :=
  ∃ vals, wr.ownsRow B 25 1 v k vals ∧ ∀ j, j < k → ∃ r, vals[j]? = some r ∧ wr.ownsRow B 3 1 r (m.getD j []).length ((m.getD j []).map (Value.int .i64))

theorem Copied.rows {B : Nat} {wr : World} {v : Value} {m : List (List Int)} (h : Copied B wr v m.length m) : IsRows wr v m := by
  obtain ⟨vals, hown, hv⟩ := h
  obtain ⟨a, c, rfl⟩ := ownsRow_form hown
  obtain ⟨h1, h2, h3, b, h4, h5⟩ := ownsRow_cap hown
  refine ⟨a, c, b, 0, rfl, h1, h2, fun hp => (h4 hp).1, h3, fun j hj => ?_⟩
  obtain ⟨r, hr, ho⟩ := hv j hj
  exact ⟨r, by rw [Nat.zero_add]; exact h5 j r hr, IsInts.owned ho⟩

/-- One row more. -/
theorem Copied.more {B : Nat} {wr w1 w2 : World} {v r v' : Value} {k : Nat} {m : List (List Int)} {vals : List Value} {o : Obj}
    (hown : wr.ownsRow B 25 1 v k vals) (hv : ∀ j, j < k → ∃ r, vals[j]? = some r ∧ wr.ownsRow B 3 1 r (m.getD j []).length ((m.getD j []).map (Value.int .i64)))
    (g1 : wr.grownBy w1 none) (hr : w1.ownsRow B 3 1 r (m.getD k []).length ((m.getD k []).map (Value.int .i64)))
    (h2 : w2.ownsRow B 25 1 v' (k + 1) (vals ++ [r])) (g2 : (w1.alloc o).grownBy w2 v.ownBlock) : Copied B w2 v' (k + 1) m := by
  have hlen : vals.length = k := by have := hown.1; omega
  have ty : ∀ g, v.ownBlock = some g → ∃ c e' fz, (w1.alloc o).heap[g]? = some (.cells c e' fz) ∧ e' ≠ 3 := fun g hg => by
    obtain ⟨c, fz, hc⟩ := ownsRow_type ((hown.kept g1 (by cases v.ownBlock <;> simp)).alloc o) g hg
    exact ⟨c, _, fz, hc, by decide⟩
  refine ⟨_, h2, fun j hj => ?_⟩
  by_cases e : j = k
  · subst e
    exact ⟨r, by rw [List.getElem?_append_right (by omega)]; simp [hlen], ownsRow_typed (hr.alloc o) g2 ty⟩
  · obtain ⟨q, hq, ho⟩ := hv j (by omega)
    exact ⟨q, by rw [List.getElem?_append_left (by omega)]; exact hq, ownsRow_typed ((ho.kept g1 (by cases q.ownBlock <;> simp)).alloc o) g2 ty⟩

theorem ownsRow_low {w : World} {base b' : Nat} {e : TypeId} {size : Nat} {v : Value} {n : Nat} {xs : List Value} (h : w.ownsRow base e size v n xs) (hb : b' ≤ base) : w.ownsRow b' e size v n xs := by
  obtain ⟨h1, h2⟩ := h
  refine ⟨h1, ?_⟩
  rcases h2 with h2 | ⟨g, cap, cur, e, hg, h3⟩
  · exact Or.inl h2
  · exact Or.inr ⟨g, cap, cur, e, by omega, h3⟩
theorem grown_of_below {w w' : World} (h : Below w.heap.size w w') : w.grownBy w' none := ⟨h.os, h.tape, h.output, h.size, fun k hk _ => h.block k hk⟩

end Go.Proofs.Ytbnbhjeknocboaa
namespace Go.Proofs.Ytbnbhjeknocboaa
open Go.RowKit Go.Maps

/-- 'append' onto what the call owns: where the new row lies. -/
theorem run_append_at {P : Program} {w : World} (base : Nat) (t ty e : TypeId) (z : Value) (bytes : Nat) (ht : P.underlying t = some (.slice e)) (hinfo : (P.info? e).map (fun i => (i.zero, i.size, i.bytes)) = some (some z, 1, bytes)) (hz1 : z.cells.size = 1)
    (v : Value) (n : Nat) (xs : List Value) (hown : w.ownsRow base e 1 v n xs) (src : Value) (m : Nat) (news : List Value) (hsrc : HasCells w src m news) (hm : 0 < m)
    (h63 : n + m ≤ 9223372036854775807) (hbytes : (n + m) * bytes ≤ 140737488355328) (hbase : base ≤ w.heap.size) :
    ∃ a' c' w', (Builtin.append_ #[t, t] ty #[v, src]).run P w = .ok (.slice a' (n + m) c') w' ∧ w'.ownsRow base e 1 (.slice a' (n + m) c') (n + m) (xs ++ news) ∧ w.grownBy w' v.ownBlock ∧ ((Value.slice a' (n + m) c').ownBlock = v.ownBlock ∨ (Value.slice a' (n + m) c').ownBlock = some w.heap.size) := by
  obtain ⟨i, hi, hz0, hsz, hby⟩ := info_parts hinfo
  obtain ⟨ao, cap, rfl, hl, hnone, hcells, hone⟩ := hsrc
  cases ao with
  | none =>
    obtain ⟨rfl, rfl⟩ := hnone rfl
    exact absurd hm (Nat.lt_irrefl _)
  | some ad =>
    obtain ⟨v', w', h1, h2, h3, _, h5⟩ := run_append_own_at (P := P) (w := w) base t ty e i z 1 bytes ht hi hz0 hsz hby hz1 (by omega) v n xs hown ad m cap news (by omega) (hcells ad rfl) hone (by unfold maxLen; omega) hbytes hbase
    obtain ⟨a', c', rfl⟩ := ownsRow_form h2
    exact ⟨a', c', w', h1, h2, h3, h5⟩

theorem step_append_at {P : Program} {ops : Array Oper} {o : Oper} {a : Act} {w : World} {K : Act → World → Prop} {Q : Exit → Act → World → Prop} {E : Prop} (hg : o.guard = none) (s x : Operand) (t : TypeId)
    (ho : o.op = .call { callee := .builtin .append, args := #[s, x], argTypes := #[t, t] }) (base : Nat) (e : TypeId) (z : Value) (bytes : Nat) (ht : P.underlying t = some (.slice e)) (hinfo : (P.info? e).map (fun i => (i.zero, i.size, i.bytes)) = some (some z, 1, bytes)) (hz1 : z.cells.size = 1)
    (v : Value) (n : Nat) (xs : List Value) (hs : a.eval s = v) (hown : w.ownsRow base e 1 v n xs) (src : Value) (m : Nat) (news : List Value) (hx : a.eval x = src) (hsrc : HasCells w src m news) (hm : 0 < m)
    (h63 : n + m ≤ 9223372036854775807) (hbytes : (n + m) * bytes ≤ 140737488355328) (hbase : base ≤ w.heap.size)
    (hK : ∀ a' c' w', w'.ownsRow base e 1 (.slice a' (n + m) c') (n + m) (xs ++ news) → w.grownBy w' v.ownBlock → ((Value.slice a' (n + m) c').ownBlock = v.ownBlock ∨ (Value.slice a' (n + m) c').ownBlock = some w.heap.size) → K (a.put o.dst (.slice a' (n + m) c')) w') :
    if Region.wanted o (yielded ops a.tmps) = true then Oper.wp P o a w K Q else E := by
  have hw : Region.wanted o (yielded ops a.tmps) = true := by simp [Region.wanted, hg]
  rw [if_pos hw]
  obtain ⟨a', c', w', hr, h2, h3, h4⟩ := run_append_at (P := P) (w := w) base t o.type e z bytes ht hinfo hz1 v n xs hown src m news hsrc hm h63 hbytes hbase
  unfold Oper.wp
  simp [execOp, ho, resolve, invoke, builtin, hs, hx, hr, Result.andThen]
  exact hK a' c' w' h2 h3 h4
theorem wpList_append_at {P : Program} {ops : Array Oper} {rest : List Oper} {o : Oper} {a : Act} {w : World} {Q : Exit → Act → World → Prop} (hg : o.guard = none) (s x : Operand) (t : TypeId)
    (ho : o.op = .call { callee := .builtin .append, args := #[s, x], argTypes := #[t, t] }) (base : Nat) (e : TypeId) (z : Value) (bytes : Nat) (ht : P.underlying t = some (.slice e)) (hinfo : (P.info? e).map (fun i => (i.zero, i.size, i.bytes)) = some (some z, 1, bytes)) (hz1 : z.cells.size = 1)
    (v : Value) (n : Nat) (xs : List Value) (hs : a.eval s = v) (hown : w.ownsRow base e 1 v n xs) (src : Value) (m : Nat) (news : List Value) (hx : a.eval x = src) (hsrc : HasCells w src m news) (hm : 0 < m)
    (h63 : n + m ≤ 9223372036854775807) (hbytes : (n + m) * bytes ≤ 140737488355328) (hbase : base ≤ w.heap.size)
    (hK : ∀ a' c' w', w'.ownsRow base e 1 (.slice a' (n + m) c') (n + m) (xs ++ news) → w.grownBy w' v.ownBlock → ((Value.slice a' (n + m) c').ownBlock = v.ownBlock ∨ (Value.slice a' (n + m) c').ownBlock = some w.heap.size) → wpList P ops Q rest (a.put o.dst (.slice a' (n + m) c')) w') :
    wpList P ops Q (o :: rest) a w := by
  refine wpList_plain hg fun K hK' => ?_
  obtain ⟨a', c', w', hr, h2, h3, h4⟩ := run_append_at (P := P) (w := w) base t o.type e z bytes ht hinfo hz1 v n xs hown src m news hsrc hm h63 hbytes hbase
  unfold Oper.wp
  simp [execOp, ho, resolve, invoke, builtin, hs, hx, hr, Result.andThen]
  exact hK' _ _ (hK a' c' w' h2 h3 h4)

/-- K rows of one's own, of elements of type e, from base on. -/
structure Bank (w : World) (base : Nat) (e : TypeId) (K : Nat) (V : Nat → Value) (X : Nat → List Value) : Prop where
  own : ∀ r, r < K → w.ownsRow base e 1 (V r) (X r).length (X r)
  sep : ∀ r s, r < K → s < K → r ≠ s → ∀ g, (V r).ownBlock = some g → (V s).ownBlock ≠ some g
section
variable {w w' : World} {base K : Nat} {e : TypeId} {V : Nat → Value} {X : Nat → List Value}
theorem Bank.start (w : World) (base : Nat) (e : TypeId) (K : Nat) : Bank w base e K (fun _ => .slice none 0 0) (fun _ => []) := ⟨fun _ _ => World.ownsRow_nil _ _ _ _, fun r s _ _ _ g h => by cases h⟩
theorem Bank.below (h : Bank w base e K V X) (hb : Below w.heap.size w w') : Bank w' base e K V X := ⟨fun r hr => ownsRow_below (h.own r hr) hb (Nat.le_refl _), h.sep⟩
theorem Bank.set (h : Bank w base e K V X) {q : Nat} (hq : q < base) (k : Nat) (x : Value) : Bank (w.setCell ⟨q, k, none⟩ x) base e K V X := by
  refine ⟨fun r hr => (h.own r hr).kept (row := some q) ⟨rfl, rfl, rfl, by simp [World.setCell], fun i _ hi => Below.heap_setCell w ⟨q, k, none⟩ x i (fun e => hi (by rw [e]))⟩ ?_, h.sep⟩
  cases hv : (V r).ownBlock with
  | none => exact Or.inl rfl
  | some g =>
    have := ((h.own r hr).lt g hv).1
    exact Or.inr (fun e => by cases e; omega)
theorem Bank.congr {V' : Nat → Value} {X' : Nat → List Value} (h : Bank w base e K V X) (e1 : ∀ r, r < K → V r = V' r) (e2 : ∀ r, r < K → X r = X' r) : Bank w base e K V' X' :=
  ⟨fun r hr => by rw [← e1 r hr, ← e2 r hr]; exact h.own r hr, fun r s hr hs hne g hg => by rw [← e1 s hs]; rw [← e1 r hr] at hg; exact h.sep r s hr hs hne g hg⟩
/-- Row r has grown. -/
theorem Bank.app (h : Bank w base e K V X) {r : Nat} (hr : r < K) {v' : Value} {news : List Value} (ho : w'.ownsRow base e 1 v' ((X r).length + news.length) (X r ++ news)) (hg : w.grownBy w' (V r).ownBlock) (hat : v'.ownBlock = (V r).ownBlock ∨ v'.ownBlock = some w.heap.size) :
    Bank w' base e K (fun q => if q = r then v' else V q) (fun q => if q = r then X r ++ news else X q) := by
  have other : ∀ s, s < K → s ≠ r → (V s).ownBlock = none ∨ (V s).ownBlock ≠ (V r).ownBlock := fun s hs hne => by
    cases hv : (V s).ownBlock with
    | none => exact Or.inl rfl
    | some g => exact Or.inr (fun e => h.sep s r hs hr hne g hv e.symm)
  have low : ∀ s, s < K → ∀ g, (V s).ownBlock = some g → g < w.heap.size := fun s hs g hv => ((h.own s hs).lt g hv).2
  refine ⟨fun s hs => ?_, fun s t hs ht hne g hv => ?_⟩
  · by_cases e1 : s = r
    · subst e1; simp only [if_true]; rw [List.length_append]; exact ho
    · simp only [if_neg e1]
      exact (h.own s hs).kept hg (other s hs e1)
  · by_cases e1 : s = r
    · subst e1
      simp only [if_true] at hv
      simp only [if_neg (show ¬ t = s from fun e => hne e.symm)]
      rcases hat with ha | ha
      · rw [ha] at hv; exact h.sep s t hs ht hne g hv
      · intro h2
        rw [ha] at hv
        have := low t ht g h2
        cases hv
        omega
    · simp only [if_neg e1] at hv
      by_cases e2 : t = r
      · subst e2
        simp only [if_true]
        rcases hat with ha | ha
        · rw [ha]; exact h.sep s t hs ht hne g hv
        · rw [ha]
          intro h2
          have := low s hs g hv
          cases h2
          omega
      · simp only [if_neg e2]
        exact h.sep s t hs ht hne g hv
end

end Go.Proofs.Ytbnbhjeknocboaa
namespace Go.Proofs.Ytbnbhjeknocboaa
open Go.RowKit

/-- Rows of bools hang at the n cells from ⟨b, o⟩ on. -/
structure Grid (w : World) (B b o n : Nat) (R : Nat → Nat) (G : Nat → Nat → Bool) : Prop where
  new : ∀ i, i < n → B ≤ R i
  inj : ∀ i j, i < n → j < n → R i = R j → i = j
  head : ∀ i, i < n → w.cell? ⟨b, o + i, none⟩ = some (.slice (some ⟨R i, 0, none⟩) n n)
  row : ∀ i, i < n → w.rowIs (R i) 4 n (rb (G i))
  off : ∀ i, i < n → R i ≠ b

section
variable {w w' : World} {B b o n : Nat} {R : Nat → Nat} {G : Nat → Nat → Bool}
theorem Grid.below (h : Grid w B b o n R G) (hb : Below w.heap.size w w') : Grid w' B b o n R G :=
  ⟨h.new, h.inj, fun i hi => below_cell hb (h.head i hi), fun i hi => (h.row i hi).of_block (hb.block _ (h.row i hi).lt), h.off⟩
theorem Grid.low {B' : Nat} (h : Grid w B b o n R G) (hB : B' ≤ B) : Grid w B' b o n R G :=
  ⟨fun i hi => Nat.le_trans hB (h.new i hi), h.inj, h.head, h.row, h.off⟩
theorem Grid.cell (h : Grid w B b o n R G) {i j : Nat} (hi : i < n) (hj : j < n) : w.cell? ⟨R i, j, none⟩ = some (.bool (G i j)) := (h.row i hi).cell hj
theorem Grid.set (h : Grid w B b o n R G) {x : Nat} (hx : x < n) (y : Nat) (c : Bool) :
    Grid (w.setCell ⟨R x, y, none⟩ (.bool c)) B b o n R (fun i j => if i = x ∧ j = y then c else G i j) := by
  refine ⟨h.new, h.inj, fun i hi => ?_, fun i hi => ?_, h.off⟩
  · rw [World.cell?_setCell_far _ _ _ _ (show (⟨R x, y, none⟩ : Addr).block ≠ (⟨b, o + i, none⟩ : Addr).block from h.off x hx)]
    exact h.head i hi
  · by_cases e : i = x
    · subst e
      exact row_rb (row_set_rb (h.row i hi) y c) fun k _ => by by_cases e : k = y <;> simp [e]
    · have := (h.row i hi).setOther (a := ⟨R x, y, none⟩) (show R i ≠ R x from fun h2 => e (h.inj _ _ hi hx h2)) (.bool c)
      exact row_rb this fun k _ => by simp [e]
theorem Grid.congr {G' : Nat → Nat → Bool} (h : Grid w B b o n R G) (e : ∀ i j, i < n → j < n → G i j = G' i j) : Grid w B b o n R G' :=
  ⟨h.new, h.inj, h.head, fun i hi => row_rb (h.row i hi) fun j hj => e i j hi hj, h.off⟩
end

/-- Slice value v is such a table. -/
def IsGrid (w : World) (B : Nat) (v : Value) (n : Nat) (G : Nat → Nat → Bool) : Prop :=
  ∃ (a : Option Addr) (cap b o : Nat) (R : Nat → Nat), v = .slice a n cap ∧ n ≤ cap ∧ (0 < n → a = some ⟨b, o, none⟩ ∧ B ≤ b) ∧ Grid w B b o n R G
theorem IsGrid.below {w w' : World} {B n : Nat} {v : Value} {G : Nat → Nat → Bool} (h : IsGrid w B v n G) (hb : Below w.heap.size w w') : IsGrid w' B v n G := by
  obtain ⟨a, cap, b, o, R, h1, h2, h3, h4⟩ := h
  exact ⟨a, cap, b, o, R, h1, h2, h3, h4.below hb⟩

/-- The cells of edges. -/
def cells2 (l : List (Int × Int)) : List Value := l.flatMap fun e => [.int .i64 e.1, .int .i64 e.2]
theorem cells2_length (l : List (Int × Int)) : (cells2 l).length = l.length * 2 := by
  unfold cells2
  induction l with
  | nil => rfl
  | cons e l ih => simp only [List.flatMap_cons, List.length_append, ih, List.length_cons, List.length_nil]; omega
theorem cells2_append (l m : List (Int × Int)) : cells2 (l ++ m) = cells2 l ++ cells2 m := by unfold cells2; rw [List.flatMap_append]
theorem cells2_get (l : List (Int × Int)) : ∀ j, j < l.length → (cells2 l)[j * 2]? = some (.int .i64 (l.getD j (0, 0)).1) ∧ (cells2 l)[j * 2 + 1]? = some (.int .i64 (l.getD j (0, 0)).2) := by
  induction l with
  | nil => intro j hj; exact absurd hj (Nat.not_lt_zero _)
  | cons e l ih =>
    intro j hj
    cases j with
    | zero => exact ⟨rfl, rfl⟩
    | succ j =>
      have := ih j (by simpa using hj)
      have e1 : cells2 (e :: l) = Value.int .i64 e.1 :: Value.int .i64 e.2 :: cells2 l := rfl
      rw [e1, show (j + 1) * 2 = j * 2 + 1 + 1 by omega]
      simpa using this
theorem cells2_one (l : List (Int × Int)) : ∀ u ∈ cells2 l, u.oneCell' = true := by
  intro u hu
  unfold cells2 at hu
  simp only [List.mem_flatMap, List.mem_cons, List.not_mem_nil, or_false] at hu
  obtain ⟨e, _, rfl | rfl⟩ := hu <;> rfl
theorem cells2_some {l : List (Int × Int)} {j : Nat} {u : Value} (h : (cells2 l)[j]? = some u) : ∃ i, i < l.length ∧ ((j = i * 2 ∧ u = .int .i64 (l.getD i (0, 0)).1) ∨ (j = i * 2 + 1 ∧ u = .int .i64 (l.getD i (0, 0)).2)) := by
  have hj : j < l.length * 2 := by have := (List.getElem?_eq_some_iff.1 h).1; rwa [cells2_length] at this
  obtain ⟨h1, h2⟩ := cells2_get l (j / 2) (by omega)
  refine ⟨j / 2, by omega, ?_⟩
  rcases Nat.mod_two_eq_zero_or_one j with e | e
  · have ej : j = j / 2 * 2 := by omega
    rw [← ej, h] at h1
    exact Or.inl ⟨ej, Option.some.inj h1⟩
  · have ej : j = j / 2 * 2 + 1 := by omega
    rw [← ej, h] at h2
    exact Or.inr ⟨ej, Option.some.inj h2⟩

/-- Edges that the call owns. -/
def OwnE (w : World) (base : Nat) (v : Value) (l : List (Int × Int)) : Prop := w.ownsRow base 44 2 v l.length (cells2 l)
theorem OwnE.nil (w : World) (base : Nat) : OwnE w base (.slice none 0 0) [] := World.ownsRow_nil _ _ _ _
theorem OwnE.form {w : World} {base : Nat} {v : Value} {l : List (Int × Int)} (h : OwnE w base v l) : ∃ a c, v = .slice a l.length c := ownsRow_form h
theorem OwnE.low {w : World} {base b' : Nat} {v : Value} {l : List (Int × Int)} (h : OwnE w base v l) (hb : b' ≤ base) : OwnE w b' v l := by
  obtain ⟨h1, h2⟩ := h
  refine ⟨h1, ?_⟩
  rcases h2 with h2 | ⟨g, cap, cur, e, hg, h3⟩
  · exact Or.inl h2
  · exact Or.inr ⟨g, cap, cur, e, by omega, h3⟩
theorem OwnE.edges {w : World} {base : Nat} {v : Value} {l : List (Int × Int)} (h : OwnE w base v l) : IsEdges w v l := by
  have h0 : w.ownsRow base 44 2 v l.length (cells2 l) := h
  have hx := h0.1
  rcases h0.2 with ⟨rfl, h2⟩ | ⟨g, cap, cur, rfl, hb, hgg, h3, h4, h5, h6⟩
  · obtain rfl : l = [] := List.eq_nil_of_length_eq_zero h2
    exact IsEdges.nil w
  · refine ⟨some ⟨g, 0, none⟩, cap, g, 0, rfl, h3, by unfold maxLen at h4; omega, fun _ => rfl, by simp, fun j hj => ?_⟩
    obtain ⟨c1, c2⟩ := cells2_get l j hj
    have e1 := h0.cells (g := g) rfl _ _ c1
    have e2 := h0.cells (g := g) rfl _ _ c2
    rw [Addr.add_lit] at e1 e2
    exact ⟨e1, by rw [Nat.add_assoc]; exact e2⟩
theorem OwnE.below {w w' : World} {base : Nat} {v : Value} {l : List (Int × Int)} (h : OwnE w base v l) (hb : Below w.heap.size w w') : OwnE w' base v l := ownsRow_below h hb (Nat.le_refl _)

/-- One edge in a new block of its own. -/
theorem edge_one (w : World) (x y : Int) (t : TypeId) {b : Nat} (hb : b = w.heap.size) : IsEdges (w.alloc (.cells #[.int .i64 x, .int .i64 y] t)) (.slice (some ⟨b, 0, none⟩) 1 1) [(x, y)] := by
  subst hb
  refine ⟨_, 1, w.heap.size, 0, rfl, Nat.le_refl _, by omega, fun _ => rfl, by simp, fun j hj => ?_⟩
  obtain rfl : j = 0 := by simpa using hj
  exact ⟨by rw [World.cell?_alloc_at _ _ _ _ rfl]; rfl, by rw [World.cell?_alloc_at _ _ _ _ rfl]; rfl⟩

/-- 'append' of edges onto edges that the call owns. -/
theorem wpList_append_edges {P : Program} {w : World} {ops : Array Oper} {rest : List Oper} {o : Oper} {a : Act} {Q : Exit → Act → World → Prop} (hgd : o.guard = none) (s x : Operand) (t : TypeId)
    (ho : o.op = .call { callee := .builtin .append, args := #[s, x], argTypes := #[t, t] })
    (base : Nat) (ht : P.underlying t = some (.slice 44)) (hinfo : (P.info? 44).map (fun i => (i.zero, i.size, i.bytes)) = some (some (.agg #[.int .i64 0, .int .i64 0]), 2, 16))
    (v : Value) (l : List (Int × Int)) (hs : a.eval s = v) (hown : OwnE w base v l)
    (src : Value) (m : List (Int × Int)) (hx : a.eval x = src) (hsrc : IsEdges w src m)
    (r : List (Int × Int)) (hr : l ++ m = r) (hbytes : (l.length + m.length) * 16 ≤ 140737488355328) (hbase : base ≤ w.heap.size)
    (h : ∀ a' c' w', OwnE w' base (.slice a' r.length c') r → w.grownBy w' v.ownBlock → wpList P ops Q rest (a.put o.dst (.slice a' r.length c')) w') : wpList P ops Q (o :: rest) a w := by
  obtain ⟨i, hi, hz0, hsz, hby⟩ := info_parts hinfo
  subst hr
  obtain ⟨ao, cap, b, oo, rfl, hcap, hmax, hadr, hnone, hcells⟩ := hsrc
  have lift : ∀ {v' : Value} {w' : World}, w'.ownsRow base 44 2 v' (l.length + m.length) (cells2 l ++ cells2 m) → OwnE w' base v' (l ++ m) := fun h1 => by
    unfold OwnE; rw [List.length_append, cells2_append]; exact h1
  cases ao with
  | none =>
    have hc := hnone rfl
    obtain rfl : m = [] := List.eq_nil_of_length_eq_zero (by omega)
    subst hc
    obtain ⟨a', c', rfl⟩ := hown.form
    refine wpList_append_own_none hgd s x t ho base _ i 2 ht hi _ _ _ hs hown hx ?_
    simpa using h a' c' w (by simpa using hown) (World.grownBy.refl _ _)
  | some ad =>
    refine wpList_append_own w hgd s x t ho base _ i (.agg #[.int .i64 0, .int .i64 0]) 2 16 ht hi hz0 hsz hby rfl (by omega) v l.length (cells2 l) hs hown ad m.length cap (cells2 m) hx (cells2_length m) (fun j u hu => ?_) (cells2_one m) (by unfold maxLen; omega) hbytes hbase fun v' w' h1 h2 _ => by
      have h3 := lift h1
      obtain ⟨a', c', rfl⟩ := h3.form
      exact h a' c' w' h3 h2
    obtain ⟨i, hi, ⟨rfl, rfl⟩ | ⟨rfl, rfl⟩⟩ := cells2_some hu
    · have ha := hadr (by omega)
      obtain rfl := Option.some.inj ha
      rw [Addr.add_lit]; exact (hcells i hi).1
    · have ha := hadr (by omega)
      obtain rfl := Option.some.inj ha
      rw [Addr.add_lit, ← Nat.add_assoc]; exact (hcells i hi).2

end Go.Proofs.Ytbnbhjeknocboaa
