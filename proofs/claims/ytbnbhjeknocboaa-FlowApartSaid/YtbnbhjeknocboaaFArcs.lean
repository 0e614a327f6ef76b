/- Arcs that the call owns; what stands throughout arborlaw.FlowMost. -/
import Derived.Test.YtbnbhjeknocboaaFBegun
import Derived.Deep.RegionLaw
namespace Go.Proofs.Ytbnbhjeknocboaa
open Go.RowKit

theorem infoA : (Try.prog.info? 72).map (fun i => (i.zero, i.size, i.bytes)) = some (some (.agg #[.int .i64 0, .int .i64 0, .int .i64 0]), 3, 24) := by kernel_rfl

/-- The cells of arcs. -/
def cells3 (l : List (Int × Int × Int)) : List Value := l.flatMap fun e => [.int .i64 e.1, .int .i64 e.2.1, .int .i64 e.2.2]
theorem cells3_length (l : List (Int × Int × Int)) : (cells3 l).length = l.length * 3 := by
  unfold cells3
  induction l with
  | nil => rfl
  | cons e l ih => simp only [List.flatMap_cons, List.length_append, ih, List.length_cons, List.length_nil]; omega
theorem cells3_get (l : List (Int × Int × Int)) : ∀ j, j < l.length → (cells3 l)[j * 3]? = some (.int .i64 (l.getD j (0, 0, 0)).1) ∧ (cells3 l)[j * 3 + 1]? = some (.int .i64 (l.getD j (0, 0, 0)).2.1) ∧ (cells3 l)[j * 3 + 2]? = some (.int .i64 (l.getD j (0, 0, 0)).2.2) := by
  induction l with
  | nil => intro j hj; exact absurd hj (Nat.not_lt_zero _)
  | cons e l ih =>
    intro j hj
    cases j with
    | zero => exact ⟨rfl, rfl, rfl⟩
    | succ j =>
      have := ih j (by simpa using hj)
      have e1 : cells3 (e :: l) = Value.int .i64 e.1 :: Value.int .i64 e.2.1 :: Value.int .i64 e.2.2 :: cells3 l := rfl
      rw [e1, show (j + 1) * 3 = j * 3 + 1 + 1 + 1 by omega]
      simpa using this
theorem cells3_one (l : List (Int × Int × Int)) : ∀ u ∈ cells3 l, u.oneCell' = true := by
  intro u hu
  unfold cells3 at hu
  simp only [List.mem_flatMap, List.mem_cons, List.not_mem_nil, or_false] at hu
  obtain ⟨e, _, rfl | rfl | rfl⟩ := hu <;> rfl
theorem cells3_some {l : List (Int × Int × Int)} {j : Nat} {u : Value} (h : (cells3 l)[j]? = some u) : ∃ i, i < l.length ∧ ((j = i * 3 ∧ u = .int .i64 (l.getD i (0, 0, 0)).1) ∨ (j = i * 3 + 1 ∧ u = .int .i64 (l.getD i (0, 0, 0)).2.1) ∨ (j = i * 3 + 2 ∧ u = .int .i64 (l.getD i (0, 0, 0)).2.2)) := by
  have hj : j < l.length * 3 := by have := (List.getElem?_eq_some_iff.1 h).1; rwa [cells3_length] at this
  obtain ⟨h1, h2, h3⟩ := cells3_get l (j / 3) (by omega)
  refine ⟨j / 3, by omega, ?_⟩
  rcases (show j = j / 3 * 3 ∨ j = j / 3 * 3 + 1 ∨ j = j / 3 * 3 + 2 by omega) with ej | ej | ej
  · rw [← ej, h] at h1
    exact Or.inl ⟨ej, Option.some.inj h1⟩
  · rw [← ej, h] at h2
    exact Or.inr (Or.inl ⟨ej, Option.some.inj h2⟩)
  · rw [← ej, h] at h3
    exact Or.inr (Or.inr ⟨ej, Option.some.inj h3⟩)

/-- Arcs that the call owns. -/
def OwnA (w : World) (base : Nat) (v : Value) (l : List (Int × Int × Int)) : Prop := w.ownsRow base 72 3 v l.length (cells3 l)
theorem OwnA.nil (w : World) (base : Nat) : OwnA w base (.slice none 0 0) [] := World.ownsRow_nil _ _ _ _
theorem OwnA.form {w : World} {base : Nat} {v : Value} {l : List (Int × Int × Int)} (h : OwnA w base v l) : ∃ a c, v = .slice a l.length c := ownsRow_form h
theorem IsArcs.nil (w : World) : IsArcs w (.slice none 0 0) [] := ⟨none, 0, 0, 0, rfl, Nat.le_refl _, by omega, fun h => absurd h (by simp), fun _ => rfl, fun j hj => absurd hj (Nat.not_lt_zero _)⟩
theorem OwnA.arcs {w : World} {base : Nat} {v : Value} {l : List (Int × Int × Int)} (h : OwnA w base v l) : IsArcs w v l := by
  have h0 : w.ownsRow base 72 3 v l.length (cells3 l) := h
  have hx := h0.1
  rcases h0.2 with ⟨rfl, h2⟩ | ⟨g, cap, cur, rfl, hb, hgg, h3, h4, h5, h6⟩
  · obtain rfl : l = [] := List.eq_nil_of_length_eq_zero h2
    exact IsArcs.nil w
  · refine ⟨some ⟨g, 0, none⟩, cap, g, 0, rfl, h3, by unfold maxLen at h4; omega, fun _ => rfl, by simp, fun j hj => ?_⟩
    obtain ⟨c1, c2, c3⟩ := cells3_get l j hj
    have e1 := h0.cells (g := g) rfl _ _ c1
    have e2 := h0.cells (g := g) rfl _ _ c2
    have e3 := h0.cells (g := g) rfl _ _ c3
    rw [Addr.add_lit] at e1 e2 e3
    exact ⟨e1, by rw [Nat.add_assoc]; exact e2, by rw [Nat.add_assoc]; exact e3⟩
theorem OwnA.set {w : World} {base B : Nat} {v : Value} {l : List (Int × Int × Int)} (h : OwnA w base v l) (hB : B < base) (k : Nat) (x : Value) : OwnA (w.setCell ⟨B, k, none⟩ x) base v l := ownsRow_setCell_below h hB x

/-- 'append' of arcs onto arcs that the call owns, as a step of a region that draws. -/
theorem step_append_arcs {P : Program} {ops : Array Oper} {o : Oper} {a : Act} {w : World} {K : Act → World → Prop} {Q : Exit → Act → World → Prop} {E : Prop} (hg : o.guard = none) (s x : Operand) (t : TypeId)
    (ho : o.op = .call { callee := .builtin .append, args := #[s, x], argTypes := #[t, t] })
    (base : Nat) (ht : P.underlying t = some (.slice 72)) (hinfo : (P.info? 72).map (fun i => (i.zero, i.size, i.bytes)) = some (some (.agg #[.int .i64 0, .int .i64 0, .int .i64 0]), 3, 24))
    (v : Value) (l : List (Int × Int × Int)) (hs : a.eval s = v) (hown : OwnA w base v l)
    (src : Value) (m : List (Int × Int × Int)) (hx : a.eval x = src) (hsrc : IsArcs w src m)
    (r : List (Int × Int × Int)) (hr : l ++ m = r) (hbytes : (l.length + m.length) * 24 ≤ 140737488355328) (hbase : base ≤ w.heap.size)
    (hK : ∀ a' c' w', OwnA w' base (.slice a' r.length c') r → w.grownBy w' v.ownBlock → K (a.put o.dst (.slice a' r.length c')) w') :
    if Region.wanted o (yielded ops a.tmps) = true then Oper.wp P o a w K Q else E := by
  have hw : Region.wanted o (yielded ops a.tmps) = true := by simp [Region.wanted, hg]
  rw [if_pos hw]
  obtain ⟨i, hi, hz0, hsz, hby⟩ := info_parts hinfo
  subst hr
  obtain ⟨ao, cap, b, oo, rfl, hcap, hmax, hadr, hnone, hcells⟩ := hsrc
  have lift : ∀ {v' : Value} {w' : World}, w'.ownsRow base 72 3 v' (l.length + m.length) (cells3 l ++ cells3 m) → OwnA w' base v' (l ++ m) := fun h1 => by
    unfold OwnA; rw [List.length_append, show cells3 (l ++ m) = cells3 l ++ cells3 m by unfold cells3; rw [List.flatMap_append]]; exact h1
  cases ao with
  | none =>
    have hc := hnone rfl
    obtain rfl : m = [] := List.eq_nil_of_length_eq_zero (by omega)
    subst hc
    have hrun := run_append_owned_none (P := P) (w := w) base t o.type _ i 3 ht hi v _ _ hown
    unfold Oper.wp
    simp [execOp, ho, resolve, invoke, builtin, hs, hx, hrun, Result.andThen]
    obtain ⟨a', c', rfl⟩ := hown.form
    have h5 := hK a' c' w (by simpa using hown) (World.grownBy.refl _ _)
    simp only [List.append_nil] at h5
    exact h5
  | some ad =>
    refine wp_append_own w s x t ho base _ i (.agg #[.int .i64 0, .int .i64 0, .int .i64 0]) 3 24 ht hi hz0 hsz hby rfl (by omega) v l.length (cells3 l) hs hown ad m.length cap (cells3 m) hx (cells3_length m) (fun j u hu => ?_) (cells3_one m) (by unfold maxLen; omega) hbytes hbase fun v' w' h1 h2 _ => by
      have h3 := lift h1
      obtain ⟨a', c', rfl⟩ := h3.form
      exact hK a' c' w' h3 h2
    obtain ⟨i, hi, ⟨rfl, rfl⟩ | ⟨rfl, rfl⟩ | ⟨rfl, rfl⟩⟩ := cells3_some hu
    · have ha := hadr (by omega)
      obtain rfl := Option.some.inj ha
      rw [Addr.add_lit]; exact (hcells i hi).1
    · have ha := hadr (by omega)
      obtain rfl := Option.some.inj ha
      rw [Addr.add_lit, ← Nat.add_assoc]; exact (hcells i hi).2.1
    · have ha := hadr (by omega)
      obtain rfl := Option.some.inj ha
      rw [Addr.add_lit, ← Nat.add_assoc]; exact (hcells i hi).2.2

/-- What stands throughout: the argument's box, one's own copy's box, both arcs. -/
structure LS (w wr : World) (n : Int) (v v2 : Value) (l : List (Int × Int × Int)) (B : Nat) : Prop where
  hb : Below w.heap.size w wr
  cn : wr.cell? ⟨w.heap.size, 0, none⟩ = some (.int .i64 n)
  cs : wr.cell? ⟨w.heap.size, 1, none⟩ = some v
  on : wr.cell? ⟨B, 0, none⟩ = some (.int .i64 n)
  os : wr.cell? ⟨B, 1, none⟩ = some v2
  arcs : IsArcs wr v l
  own : IsArcs wr v2 l
theorem LS.below {w wr w' : World} {n : Int} {v v2 : Value} {l : List (Int × Int × Int)} {B : Nat} (h : LS w wr n v v2 l B) (hb : Below wr.heap.size wr w') : LS w w' n v v2 l B :=
  ⟨h.hb.trans (hb.mono h.hb.size), below_cell hb h.cn, below_cell hb h.cs, below_cell hb h.on, below_cell hb h.os, h.arcs.below hb, h.own.below hb⟩

/-- A fault's variable. -/
structure FV (w : World) (b : Nat) (c a : Int) : Prop where
  r : w.rowIs b 28 2 (fun i => if i = 0 then .int .i64 c else .int .i64 a)
theorem FV.below {w w' : World} {b : Nat} {c a : Int} (h : FV w b c a) (hb : Below w.heap.size w w') : FV w' b c a := ⟨h.r.of_block (hb.block _ h.r.lt)⟩
theorem FV.facts {w : World} {b : Nat} {c a : Int} (h : FV w b c a) : w.cell? ⟨b, 0, none⟩ = some (.int .i64 c) ∧ w.cell? ⟨b, 1, none⟩ = some (.int .i64 a) ∧ w.frozen? ⟨b, 0, none⟩ = false ∧ w.frozen? ⟨b, 1, none⟩ = false ∧ b < w.heap.size :=
  ⟨by rw [h.r.cell (show 0 < 2 by omega)]; rfl, by rw [h.r.cell (show 1 < 2 by omega)]; rfl, h.r.frozen 0, h.r.frozen 1, h.r.lt⟩
theorem FV.new (w : World) (c a : Int) : FV (w.alloc (Obj.cells #[.int .i64 c, .int .i64 a] 28)) w.heap.size c a :=
  ⟨World.rowIs_alloc w #[.int .i64 c, .int .i64 a] 28 (fun i => if i = 0 then .int .i64 c else .int .i64 a) (fun i hi => by
    match i, hi with
    | 0, _ => rfl
    | 1, _ => rfl)⟩
theorem FV.put {w : World} {b : Nat} {c a : Int} (h : FV w b c a) (c' a' : Int) : FV ((w.setCell ⟨b, 0, none⟩ (.int .i64 c')).setCell ⟨b, 1, none⟩ (.int .i64 a')) b c' a' :=
  ⟨((h.r.set 0 (.int .i64 c')).set 1 (.int .i64 a')).congr fun i hi => by
    match i, hi with
    | 0, _ => rfl
    | 1, _ => rfl⟩

end Go.Proofs.Ytbnbhjeknocboaa
