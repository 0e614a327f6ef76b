/- Sets of small numbers as maps from numbers to numbers, of one's own; gone through once. -/
import Derived.Test.YtmhcnekbfngafaaBMap
import Derived.Maps.RangeWalk
import Derived.Maps.Ext
namespace Go.Proofs.Ytmhcnekbfngafaa
open Go Go.RowKit Go.Maps

theorem one_plain (c : Int) (h : -1000000 ≤ c ∧ c ≤ 1000000) : plainElem (H := Unit) Try.prog 3 (.int .i64 c) = some (.lit (.int .i64 c), []) := plainElem_int Try.underlying3 (WalkArith.wf_i64 (by omega))
/-- Block b is such a map of at most n entries: there are entries just at the nodes of I below N. -/
def IMap (w : World) (b n N : Nat) (I : Nat → Bool) : Prop :=
  ∃ D : DataW Unit, w.ownsMap Try.prog 3 (plainElem Try.prog 3) b n D ∧ ∀ l, Maps.has D l = true ↔ ∃ v : Nat, v < N ∧ I v = true ∧ l = .int .i64 (v : Int)
theorem IMap.made (w : World) (N : Nat) : IMap (w.alloc (.map #[] 0)) w.heap.size 0 N (fun _ => false) :=
  ⟨_, World.ownsMap_made w _ _ _, fun l => by simp [Maps.has]⟩
theorem IMap.kept {w w' : World} {b n N : Nat} {I : Nat → Bool} (h : IMap w b n N I) (hb : w'.heap[b]? = w.heap[b]?) : IMap w' b n N I := by
  obtain ⟨D, ⟨es, clock, h1, h2⟩, hS⟩ := h
  exact ⟨D, ⟨es, clock, by rw [hb]; exact h1, h2⟩, hS⟩
theorem IMap.lt {w : World} {b n N : Nat} {I : Nat → Bool} (h : IMap w b n N I) : b < w.heap.size := by
  obtain ⟨D, h1, -⟩ := h
  exact h1.lt
theorem IMap.below {w w' : World} {b n N : Nat} {I : Nat → Bool} (h : IMap w b n N I) (hb : Below w.heap.size w w') : IMap w' b n N I := h.kept (hb.block _ h.lt)
theorem IMap.congr {w : World} {b n N : Nat} {I J : Nat → Bool} (h : IMap w b n N I) (e : ∀ v, v < N → I v = J v) : IMap w b n N J := by
  obtain ⟨D, h1, h2⟩ := h
  refine ⟨D, h1, fun l => (h2 l).trans ⟨fun ⟨v, a, b, c⟩ => ⟨v, a, by rw [← e v a]; exact b, c⟩, fun ⟨v, a, b, c⟩ => ⟨v, a, by rw [e v a]; exact b, c⟩⟩⟩
theorem IMap.put {w : World} {b n N : Nat} {I : Nat → Bool} (h : IMap w b n N I) {v : Nat} (hv : v < N) (hN : N ≤ 1000) (hn : n ≤ 1000000) :
    ∃ w', (Instr.mapUpdate 92 (.map (some b)) (.int .i64 (v : Int)) (.int .i64 1)).run Try.prog w = .ok () w' ∧ IMap w' b (n + 1) N (fun u => I u || decide (v = u)) ∧ w.grownBy w' (some b) := by
  obtain ⟨D, h1, h2⟩ := h
  have hkey := keyOf_int_mk Try.underlying3 (small_wfB (show v ≤ 1000 by omega))
  obtain ⟨w', hr, ho, hg⟩ := h1.update intKeyedB Try.underlying92 (by unfold maxLen; omega) hkey (one_plain 1 (by omega))
  refine ⟨w', hr, ⟨_, ho, fun l => ?_⟩, hg⟩
  by_cases e : l = .int .i64 (v : Int)
  · subst e
    rw [has_put_same h1.isMap (intKeyedB.key hkey)]
    exact ⟨fun _ => ⟨v, hv, by simp, rfl⟩, fun _ => rfl⟩
  · rw [has_put_other e, h2 l]
    refine ⟨fun ⟨u, a, b, c⟩ => ⟨u, a, by simp [b], c⟩, fun ⟨u, a, b, c⟩ => ⟨u, a, ?_, c⟩⟩
    have : ¬ v = u := fun e2 => e (by rw [c, e2])
    simpa [this] using b

/-- What is left of a map that is gone through: those of I that are not in J. -/
def LeftIs (N : Nat) (I J : Nat → Bool) (left : Lit → Bool) : Prop := ∀ l, left l = true ↔ ∃ v : Nat, v < N ∧ I v = true ∧ J v = false ∧ l = .int .i64 (v : Int)
theorem LeftIs.next {N : Nat} {I J : Nat → Bool} {left : Lit → Bool} (h : LeftIs N I J left) {v : Nat} (hv : v ≤ 1000) : LeftIs N I (fun u => J u || decide (v = u)) (fun z => left z && !z.sameKey (.int .i64 (v : Int))) := fun l => by
  have hkey := intKeyedB.key (keyOf_int_mk Try.underlying3 (small_wfB hv))
  simp only [Bool.and_eq_true, Bool.not_eq_true']
  rw [h l]
  constructor
  · rintro ⟨⟨u, a, b, c, rfl⟩, h2⟩
    refine ⟨u, a, b, ?_, rfl⟩
    have : v ≠ u := fun e => by subst e; rw [WideAt.sameKey_self hkey] at h2; cases h2
    simp [c, this]
  · rintro ⟨u, a, b, c, rfl⟩
    simp only [Bool.or_eq_false_iff, decide_eq_false_iff_not] at c
    refine ⟨⟨u, a, b, c.1, rfl⟩, sameKey_ne fun e => ?_⟩
    simp only [Lit.int.injEq, true_and] at e
    exact c.2 (by omega)
theorem LeftIs.done {N : Nat} {I J : Nat → Bool} {left : Lit → Bool} (h : LeftIs N I J left) (h0 : ∀ l, left l = false) {v : Nat} (hv : v < N) (hi : I v = true) : J v = true := by
  cases e : J v
  · have := (h (.int .i64 (v : Int))).2 ⟨v, hv, hi, e, rfl⟩
    rw [h0] at this
    cases this
  · rfl

end Go.Proofs.Ytmhcnekbfngafaa
