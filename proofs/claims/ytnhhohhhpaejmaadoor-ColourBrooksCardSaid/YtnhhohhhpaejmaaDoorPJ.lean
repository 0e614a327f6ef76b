/- Maps from small numbers to bools, of one's own. Sets of small numbers as maps from numbers to numbers, of one's own; gone through once. Sets of small integers as maps from numbers to true, of one's own. -/
import Derived.Test.YtnhhohhhpaejmaaDoorOpen
import Derived.Maps.Own
import Derived.Maps.OwnOps
import Derived.Maps.OwnSet
import Derived.Maps.RangeWalk
import Derived.Maps.Ext
namespace Go.Proofs.YtnhhohhhpaejmaaDoor
open Go Go.RowKit Go.Maps

theorem intKeyedB : Keyed Tryd.prog 3 := int_keyed Tryd.underlying3
theorem zero_runB (w : World) : (zeroValue 4).run Tryd.prog w = .ok (.bool false) w := by kernel_rfl
theorem small_wfB {i : Nat} (h : i ≤ 1000) : (Lit.int .i64 (i : Int)).wf = true := by simp [Lit.wf, IntKind.min, IntKind.max, IntKind.bits, IntKind.signed]; omega
/-- Block b is such a map of at most n entries: true at the nodes of I. -/
def BMap (w : World) (b n : Nat) (I : Nat → Bool) : Prop :=
  ∃ D : DataW Unit, w.ownsMap Tryd.prog 3 (plainElem Tryd.prog 4) b n D ∧ ∀ v : Nat, D.atKey (.int .i64 (v : Int)) (.lit (.bool false)) = .lit (.bool (I v))
theorem BMap.made (w : World) : BMap (w.alloc (.map #[] 0)) w.heap.size 0 (fun _ => false) :=
  ⟨_, World.ownsMap_made w _ _ _, fun v => by rw [WideAt.atKey_none _ (by simp)]⟩
theorem BMap.kept {w w' : World} {b n : Nat} {I : Nat → Bool} (h : BMap w b n I) (hb : w'.heap[b]? = w.heap[b]?) : BMap w' b n I := by
  obtain ⟨D, ⟨es, clock, h1, h2⟩, hS⟩ := h
  exact ⟨D, ⟨es, clock, by rw [hb]; exact h1, h2⟩, hS⟩
theorem BMap.lt {w : World} {b n : Nat} {I : Nat → Bool} (h : BMap w b n I) : b < w.heap.size := by
  obtain ⟨D, h1, -⟩ := h
  exact h1.lt
theorem BMap.mono {w : World} {b n n' : Nat} {I : Nat → Bool} (h : BMap w b n I) (hn : n ≤ n') : BMap w b n' I := by
  obtain ⟨D, h1, h2⟩ := h
  exact ⟨D, h1.mono hn, h2⟩
theorem BMap.congr {w : World} {b n : Nat} {I J : Nat → Bool} (h : BMap w b n I) (e : ∀ v, I v = J v) : BMap w b n J := by
  have : I = J := funext e
  rw [← this]; exact h
theorem BMap.below {w w' : World} {b n : Nat} {I : Nat → Bool} (h : BMap w b n I) (hb : Below w.heap.size w w') : BMap w' b n I := h.kept (hb.block _ h.lt)
set_option maxRecDepth 100000 in
theorem bool_inv {v : Value} {z : DataW Unit × List MemPlace} (h : plainElem Tryd.prog 4 v = some z) : ∃ x : Bool, v = .bool x ∧ z.1 = .lit (.bool x) := by
  unfold plainElem at h
  rw [Tryd.underlying4] at h
  cases v <;> simp at h
  exact ⟨_, rfl, by rw [← h]⟩
theorem BMap.look {w : World} {b n : Nat} {I : Nat → Bool} (h : BMap w b n I) {v : Nat} (hv : v ≤ 1000) : (Instr.lookup 73 (.map (some b)) (.int .i64 (v : Int)) false).run Tryd.prog w = .ok (.bool (I v)) w := by
  obtain ⟨D, h1, h2⟩ := h
  obtain ⟨c, ps, hrun, hr⟩ := h1.lookup intKeyedB Tryd.underlying73 (zero_runB w) (plainElem_bool Tryd.underlying4 false) (keyOf_int_mk Tryd.underlying3 (small_wfB hv))
  obtain ⟨x, rfl, hx⟩ := bool_inv hr
  simp only at hx
  rw [h2 v] at hx
  simp only [DataW.lit.injEq, Lit.bool.injEq] at hx
  rw [hrun, hx]
theorem BMap.put {w : World} {b n : Nat} {I : Nat → Bool} (h : BMap w b n I) {v : Nat} (hv : v ≤ 1000) (hn : n ≤ 1000000) (x : Bool) :
    ∃ w', (Instr.mapUpdate 73 (.map (some b)) (.int .i64 (v : Int)) (.bool x)).run Tryd.prog w = .ok () w' ∧ BMap w' b (n + 1) (fun u => if u = v then x else I u) ∧ w.grownBy w' (some b) := by
  obtain ⟨D, h1, h2⟩ := h
  have hkey := keyOf_int_mk Tryd.underlying3 (small_wfB hv)
  obtain ⟨w', hr, ho, hg⟩ := h1.update intKeyedB Tryd.underlying73 (by unfold maxLen; omega) hkey (plainElem_bool Tryd.underlying4 x)
  refine ⟨w', hr, ⟨_, ho, fun u => ?_⟩, hg⟩
  by_cases e : u = v
  · subst e
    rw [atKey_put_same h1.isMap (intKeyedB.key hkey)]
    show _ = DataW.lit (Lit.bool (if u = u then x else I u))
    rw [if_pos rfl]
  · rw [atKey_put_other (fun h => e (by simp only [Lit.int.injEq, true_and] at h; omega)), h2 u]
    show _ = DataW.lit (Lit.bool (if u = v then x else I u))
    rw [if_neg e]
theorem wpList_put_bool {w : World} {ops : Array Oper} {rest : List Oper} {o : Oper} {a : Act} {Q : Exit → Act → World → Prop} (hg : o.guard = none) (m x y : Operand) (hop : o.op = Op.mapUpdate 73 m x y)
    {b n : Nat} {I : Nat → Bool} (hm : a.eval m = .map (some b)) (h : BMap w b n I) {v : Nat} (hv : v ≤ 1000) (hn : n ≤ 1000000) (hx : a.eval x = .int .i64 (v : Int)) (z : Bool) (hy : a.eval y = .bool z)
    (hK : ∀ w', BMap w' b (n + 1) (fun u => if u = v then z else I u) → w.grownBy w' (some b) → wpList Tryd.prog ops Q rest (a.put o.dst undef) w') : wpList Tryd.prog ops Q (o :: rest) a w := by
  refine wpList_plain hg fun K' hK' => ?_
  obtain ⟨w', hrun, r1, r2⟩ := h.put hv hn z
  unfold Oper.wp
  simp [execOp, hop, hm, hx, hy, hrun, Result.andThen]
  exact hK' _ _ (hK w' r1 r2)

end Go.Proofs.YtnhhohhhpaejmaaDoor
namespace Go.Proofs.YtnhhohhhpaejmaaDoor
open Go Go.RowKit Go.Maps

theorem one_plain (c : Int) (h : -1000000 ≤ c ∧ c ≤ 1000000) : plainElem (H := Unit) Tryd.prog 3 (.int .i64 c) = some (.lit (.int .i64 c), []) := plainElem_int Tryd.underlying3 (WalkArith.wf_i64 (by omega))
/-- Block b is such a map of at most n entries: there are entries just at the nodes of I below N. -/
def IMap (w : World) (b n N : Nat) (I : Nat → Bool) : Prop :=
  ∃ D : DataW Unit, w.ownsMap Tryd.prog 3 (plainElem Tryd.prog 3) b n D ∧ ∀ l, Maps.has D l = true ↔ ∃ v : Nat, v < N ∧ I v = true ∧ l = .int .i64 (v : Int)
theorem IMap.made (w : World) (N : Nat) : IMap (w.alloc (.map #[] 0)) w.heap.size 0 N (fun _ => false) :=
  ⟨_, World.ownsMap_made w _ _ _, fun l => by simp [Maps.has]⟩
theorem IMap.kept {w w' : World} {b n N : Nat} {I : Nat → Bool} (h : IMap w b n N I) (hb : w'.heap[b]? = w.heap[b]?) : IMap w' b n N I := by
  obtain ⟨D, ⟨es, clock, h1, h2⟩, hS⟩ := h
  exact ⟨D, ⟨es, clock, by rw [hb]; exact h1, h2⟩, hS⟩
theorem IMap.lt {w : World} {b n N : Nat} {I : Nat → Bool} (h : IMap w b n N I) : b < w.heap.size := by
  obtain ⟨D, h1, -⟩ := h
  exact h1.lt
theorem IMap.below {w w' : World} {b n N : Nat} {I : Nat → Bool} (h : IMap w b n N I) (hb : Below w.heap.size w w') : IMap w' b n N I := h.kept (hb.block _ h.lt)
theorem IMap.congr {w : World} {b n N : Nat} {I J : Nat → Bool} (h : IMap w b n N I) (e : ∀ v, v < N → I v = J v) : IMap w b n N J := by
  obtain ⟨D, h1, h2⟩ := h
  refine ⟨D, h1, fun l => (h2 l).trans ⟨fun ⟨v, a, b, c⟩ => ⟨v, a, by rw [← e v a]; exact b, c⟩, fun ⟨v, a, b, c⟩ => ⟨v, a, by rw [e v a]; exact b, c⟩⟩⟩
theorem IMap.put {w : World} {b n N : Nat} {I : Nat → Bool} (h : IMap w b n N I) {v : Nat} (hv : v < N) (hN : N ≤ 1000) (hn : n ≤ 1000000) :
    ∃ w', (Instr.mapUpdate 76 (.map (some b)) (.int .i64 (v : Int)) (.int .i64 1)).run Tryd.prog w = .ok () w' ∧ IMap w' b (n + 1) N (fun u => I u || decide (v = u)) ∧ w.grownBy w' (some b) := by
  obtain ⟨D, h1, h2⟩ := h
  have hkey := keyOf_int_mk Tryd.underlying3 (small_wfB (show v ≤ 1000 by omega))
  obtain ⟨w', hr, ho, hg⟩ := h1.update intKeyedB Tryd.underlying76 (by unfold maxLen; omega) hkey (one_plain 1 (by omega))
  refine ⟨w', hr, ⟨_, ho, fun l => ?_⟩, hg⟩
  by_cases e : l = .int .i64 (v : Int)
  · subst e
    rw [has_put_same h1.isMap (intKeyedB.key hkey)]
    exact ⟨fun _ => ⟨v, hv, by simp, rfl⟩, fun _ => rfl⟩
  · rw [has_put_other e, h2 l]
    refine ⟨fun ⟨u, a, b, c⟩ => ⟨u, a, by simp [b], c⟩, fun ⟨u, a, b, c⟩ => ⟨u, a, ?_, c⟩⟩
    have : ¬ v = u := fun e2 => e (by rw [c, e2])
    simpa [this] using b

/-- What is left of a map that is gone through: those of I that are not in J. -/
def LeftIs (N : Nat) (I J : Nat → Bool) (left : Lit → Bool) : Prop := ∀ l, left l = true ↔ ∃ v : Nat, v < N ∧ I v = true ∧ J v = false ∧ l = .int .i64 (v : Int)
theorem LeftIs.next {N : Nat} {I J : Nat → Bool} {left : Lit → Bool} (h : LeftIs N I J left) {v : Nat} (hv : v ≤ 1000) : LeftIs N I (fun u => J u || decide (v = u)) (fun z => left z && !z.sameKey (.int .i64 (v : Int))) := fun l => by
  have hkey := intKeyedB.key (keyOf_int_mk Tryd.underlying3 (small_wfB hv))
  simp only [Bool.and_eq_true, Bool.not_eq_true']
  rw [h l]
  constructor
  · rintro ⟨⟨u, a, b, c, rfl⟩, h2⟩
    refine ⟨u, a, b, ?_, rfl⟩
    have : v ≠ u := fun e => by subst e; rw [WideAt.sameKey_self hkey] at h2; cases h2
    simp [c, this]
  · rintro ⟨u, a, b, c, rfl⟩
    simp only [Bool.or_eq_false_iff, decide_eq_false_iff_not] at c
    refine ⟨⟨u, a, b, c.1, rfl⟩, sameKey_ne fun e => ?_⟩
    simp only [Lit.int.injEq, true_and] at e
    exact c.2 (by omega)
theorem LeftIs.done {N : Nat} {I J : Nat → Bool} {left : Lit → Bool} (h : LeftIs N I J left) (h0 : ∀ l, left l = false) {v : Nat} (hv : v < N) (hi : I v = true) : J v = true := by
  cases e : J v
  · have := (h (.int .i64 (v : Int))).2 ⟨v, hv, hi, e, rfl⟩
    rw [h0] at this
    cases this
  · rfl

end Go.Proofs.YtnhhohhhpaejmaaDoor
namespace Go.Proofs.YtnhhohhhpaejmaaDoor
open Go Go.RowKit Go.Maps

theorem key_wf {z : Int} (h : -1 ≤ z ∧ z ≤ 1000) : (Lit.int .i64 z).wf = true := WalkArith.wf_i64 (by omega)
/-- Block b is such a map of at most n entries: true at the numbers of P, all of them from -1 to 1000. -/
def SMap (w : World) (b n : Nat) (P : Int → Bool) : Prop :=
  ∃ D : DataW Unit, w.ownsMap Tryd.prog 3 (plainElem Tryd.prog 4) b n D ∧ (∀ l, Maps.has D l = true ↔ ∃ z : Int, (-1 ≤ z ∧ z ≤ 1000) ∧ P z = true ∧ l = .int .i64 z) ∧ ∀ z : Int, -1 ≤ z ∧ z ≤ 1000 → D.atKey (.int .i64 z) (.lit (.bool false)) = .lit (.bool (P z))
theorem SMap.made (w : World) : SMap (w.alloc (.map #[] 0)) w.heap.size 0 (fun _ => false) :=
  ⟨_, World.ownsMap_made w _ _ _, fun l => by simp [Maps.has], fun v _ => by rw [WideAt.atKey_none _ (by simp)]⟩
theorem SMap.kept {w w' : World} {b n : Nat} {P : Int → Bool} (h : SMap w b n P) (hb : w'.heap[b]? = w.heap[b]?) : SMap w' b n P := by
  obtain ⟨D, ⟨es, clock, h1, h2⟩, hS⟩ := h
  exact ⟨D, ⟨es, clock, by rw [hb]; exact h1, h2⟩, hS⟩
theorem SMap.lt {w : World} {b n : Nat} {P : Int → Bool} (h : SMap w b n P) : b < w.heap.size := by
  obtain ⟨D, h1, -⟩ := h
  exact h1.lt
theorem SMap.below {w w' : World} {b n : Nat} {P : Int → Bool} (h : SMap w b n P) (hb : Below w.heap.size w w') : SMap w' b n P := h.kept (hb.block _ h.lt)
theorem SMap.mono {w : World} {b n n' : Nat} {P : Int → Bool} (h : SMap w b n P) (hn : n ≤ n') : SMap w b n' P := by
  obtain ⟨D, h1, h2⟩ := h
  exact ⟨D, h1.mono hn, h2⟩
theorem SMap.congr {w : World} {b n : Nat} {P Q : Int → Bool} (h : SMap w b n P) (e : ∀ z, P z = Q z) : SMap w b n Q := by
  have : P = Q := funext e
  rw [← this]; exact h
theorem SMap.look {w : World} {b n : Nat} {P : Int → Bool} (h : SMap w b n P) {z : Int} (hz : -1 ≤ z ∧ z ≤ 1000) : (Instr.lookup 73 (.map (some b)) (.int .i64 z) false).run Tryd.prog w = .ok (.bool (P z)) w := by
  obtain ⟨D, h1, -, h2⟩ := h
  obtain ⟨c, ps, hrun, hr⟩ := h1.lookup intKeyedB Tryd.underlying73 (zero_runB w) (plainElem_bool Tryd.underlying4 false) (keyOf_int_mk Tryd.underlying3 (key_wf hz))
  obtain ⟨x, rfl, hx⟩ := bool_inv hr
  simp only at hx
  rw [h2 z hz] at hx
  simp only [DataW.lit.injEq, Lit.bool.injEq] at hx
  rw [hrun, hx]
theorem SMap.lookN {w : World} {b n : Nat} {P : Int → Bool} (h : SMap w b n P) {v : Nat} (hv : v ≤ 1000) : (Instr.lookup 73 (.map (some b)) (.int .i64 (v : Int)) false).run Tryd.prog w = .ok (.bool (P v)) w := h.look (by omega)
theorem SMap.put {w : World} {b n : Nat} {P : Int → Bool} (h : SMap w b n P) {z : Int} (hz : -1 ≤ z ∧ z ≤ 1000) (hn : n ≤ 1000000) :
    ∃ w', (Instr.mapUpdate 73 (.map (some b)) (.int .i64 z) (.bool true)).run Tryd.prog w = .ok () w' ∧ SMap w' b (n + 1) (fun u => P u || decide (u = z)) ∧ w.grownBy w' (some b) := by
  obtain ⟨D, h1, h2, h3⟩ := h
  have hkey := keyOf_int_mk Tryd.underlying3 (key_wf hz)
  obtain ⟨w', hr, ho, hg⟩ := h1.update intKeyedB Tryd.underlying73 (by unfold maxLen; omega) hkey (plainElem_bool Tryd.underlying4 true)
  refine ⟨w', hr, ⟨_, ho, fun l => ?_, fun u hu => ?_⟩, hg⟩
  · by_cases e : l = .int .i64 z
    · subst e
      rw [has_put_same h1.isMap (intKeyedB.key hkey)]
      exact ⟨fun _ => ⟨z, hz, by simp, rfl⟩, fun _ => rfl⟩
    · rw [has_put_other e, h2 l]
      refine ⟨fun ⟨u, a, b, c⟩ => ⟨u, a, by simp [b], c⟩, fun ⟨u, a, b, c⟩ => ⟨u, a, ?_, c⟩⟩
      have : ¬ u = z := fun e2 => e (by rw [c, e2])
      simpa [this] using b
  · by_cases e : u = z
    · subst e
      rw [atKey_put_same h1.isMap (intKeyedB.key hkey)]
      simp
    · rw [atKey_put_other (fun h => e (by simpa using h)), h3 u hu]
      simp [e]
theorem wpList_put_set {w : World} {ops : Array Oper} {rest : List Oper} {o : Oper} {a : Act} {Q : Exit → Act → World → Prop} (hg : o.guard = none) (m x y : Operand) (hop : o.op = Op.mapUpdate 73 m x y ∨ o.op = Op.insert 73 m x y)
    {b n : Nat} {P : Int → Bool} (hm : a.eval m = .map (some b)) (h : SMap w b n P) {z : Int} (hz : -1 ≤ z ∧ z ≤ 1000) (hn : n ≤ 1000000) (hx : a.eval x = .int .i64 z) (hy : a.eval y = .bool true)
    (hK : ∀ w', SMap w' b (n + 1) (fun u => P u || decide (u = z)) → w.grownBy w' (some b) → wpList Tryd.prog ops Q rest (a.put o.dst undef) w') : wpList Tryd.prog ops Q (o :: rest) a w := by
  refine wpList_plain hg fun K' hK' => ?_
  obtain ⟨w', hrun, r1, r2⟩ := h.put hz hn
  unfold Oper.wp
  rcases hop with hop | hop
  · simp [execOp, hop, hm, hx, hy, hrun, Result.andThen]
    exact hK' _ _ (hK w' r1 r2)
  · simp [execOp, hop, hm, hx, hy, hrun, Result.andThen]
    exact hK' _ _ (hK w' r1 r2)

end Go.Proofs.YtnhhohhhpaejmaaDoor
