/- Maps from small numbers to bools, of one's own. -/
import Derived.Test.YtnhhohhhpaejmaaOpen
import Derived.Maps.Own
import Derived.Maps.OwnOps
import Derived.Maps.OwnSet
namespace Go.Proofs.Ytnhhohhhpaejmaa
open Go Go.RowKit Go.Maps

theorem intKeyedB : Keyed Try.prog 3 := int_keyed Try.underlying3
theorem zero_runB (w : World) : (zeroValue 4).run Try.prog w = .ok (.bool false) w := by kernel_rfl
theorem small_wfB {i : Nat} (h : i ≤ 1000) : (Lit.int .i64 (i : Int)).wf = true := by simp [Lit.wf, IntKind.min, IntKind.max, IntKind.bits, IntKind.signed]; omega
/-- Block b is such a map of at most n entries: true at the nodes of I. -/
def BMap (w : World) (b n : Nat) (I : Nat → Bool) : Prop :=
  ∃ D : DataW Unit, w.ownsMap Try.prog 3 (plainElem Try.prog 4) b n D ∧ ∀ v : Nat, D.atKey (.int .i64 (v : Int)) (.lit (.bool false)) = .lit (.bool (I v))
theorem BMap.made (w : World) : BMap (w.alloc (.map #[] 0)) w.heap.size 0 (fun _ => false) :=
  ⟨_, World.ownsMap_made w _ _ _, fun v => by rw [WideAt.atKey_none _ (by simp)]⟩
theorem BMap.kept {w w' : World} {b n : Nat} {I : Nat → Bool} (h : BMap w b n I) (hb : w'.heap[b]? = w.heap[b]?) : BMap w' b n I := by
  obtain ⟨D, ⟨es, clock, h1, h2⟩, hS⟩ := h
  exact ⟨D, ⟨es, clock, by rw [hb]; exact h1, h2⟩, hS⟩
theorem BMap.lt {w : World} {b n : Nat} {I : Nat → Bool} (h : BMap w b n I) : b < w.heap.size := by
  obtain ⟨D, h1, -⟩ := h
  exact h1.lt
theorem BMap.mono {w : World} {b n n' : Nat} {I : Nat → Bool} (h : BMap w b n I) (hn : n ≤ n') : BMap w b n' I := by
  obtain ⟨D, h1, h2⟩ := h
  exact ⟨D, h1.mono hn, h2⟩
theorem BMap.congr {w : World} {b n : Nat} {I J : Nat → Bool} (h : BMap w b n I) (e : ∀ v, I v = J v) : BMap w b n J := by
  have : I = J := funext e
  rw [← this]; exact h
theorem BMap.below {w w' : World} {b n : Nat} {I : Nat → Bool} (h : BMap w b n I) (hb : Below w.heap.size w w') : BMap w' b n I := h.kept (hb.block _ h.lt)
set_option maxRecDepth 100000 in
theorem bool_inv {v : Value} {z : DataW Unit × List MemPlace} (h : plainElem Try.prog 4 v = some z) : ∃ x : Bool, v = .bool x ∧ z.1 = .lit (.bool x) := by
  unfold plainElem at h
  rw [Try.underlying4] at h
  cases v <;> simp at h
  exact ⟨_, rfl, by rw [← h]⟩
theorem BMap.look {w : World} {b n : Nat} {I : Nat → Bool} (h : BMap w b n I) {v : Nat} (hv : v ≤ 1000) : (Instr.lookup 93 (.map (some b)) (.int .i64 (v : Int)) false).run Try.prog w = .ok (.bool (I v)) w := by
  obtain ⟨D, h1, h2⟩ := h
  obtain ⟨c, ps, hrun, hr⟩ := h1.lookup intKeyedB Try.underlying93 (zero_runB w) (plainElem_bool Try.underlying4 false) (keyOf_int_mk Try.underlying3 (small_wfB hv))
  obtain ⟨x, rfl, hx⟩ := bool_inv hr
  simp only at hx
  rw [h2 v] at hx
  simp only [DataW.lit.injEq, Lit.bool.injEq] at hx
  rw [hrun, hx]
theorem BMap.put {w : World} {b n : Nat} {I : Nat → Bool} (h : BMap w b n I) {v : Nat} (hv : v ≤ 1000) (hn : n ≤ 1000000) (x : Bool) :
    ∃ w', (Instr.mapUpdate 93 (.map (some b)) (.int .i64 (v : Int)) (.bool x)).run Try.prog w = .ok () w' ∧ BMap w' b (n + 1) (fun u => if u = v then x else I u) ∧ w.grownBy w' (some b) := by
  obtain ⟨D, h1, h2⟩ := h
  have hkey := keyOf_int_mk Try.underlying3 (small_wfB hv)
  obtain ⟨w', hr, ho, hg⟩ := h1.update intKeyedB Try.underlying93 (by unfold maxLen; omega) hkey (plainElem_bool Try.underlying4 x)
  refine ⟨w', hr, ⟨_, ho, fun u => ?_⟩, hg⟩
  by_cases e : u = v
  · subst e
    rw [atKey_put_same h1.isMap (intKeyedB.key hkey)]
    show _ = DataW.lit (Lit.bool (if u = u then x else I u))
    rw [if_pos rfl]
  · rw [atKey_put_other (fun h => e (by simp only [Lit.int.injEq, true_and] at h; omega)), h2 u]
    show _ = DataW.lit (Lit.bool (if u = v then x else I u))
    rw [if_neg e]
theorem wpList_put_bool {w : World} {ops : Array Oper} {rest : List Oper} {o : Oper} {a : Act} {Q : Exit → Act → World → Prop} (hg : o.guard = none) (m x y : Operand) (hop : o.op = Op.mapUpdate 93 m x y)
    {b n : Nat} {I : Nat → Bool} (hm : a.eval m = .map (some b)) (h : BMap w b n I) {v : Nat} (hv : v ≤ 1000) (hn : n ≤ 1000000) (hx : a.eval x = .int .i64 (v : Int)) (z : Bool) (hy : a.eval y = .bool z)
    (hK : ∀ w', BMap w' b (n + 1) (fun u => if u = v then z else I u) → w.grownBy w' (some b) → wpList Try.prog ops Q rest (a.put o.dst undef) w') : wpList Try.prog ops Q (o :: rest) a w := by
  refine wpList_plain hg fun K' hK' => ?_
  obtain ⟨w', hrun, r1, r2⟩ := h.put hv hn z
  unfold Oper.wp
  simp [execOp, hop, hm, hx, hy, hrun, Result.andThen]
  exact hK' _ _ (hK w' r1 r2)

end Go.Proofs.Ytnhhohhhpaejmaa
