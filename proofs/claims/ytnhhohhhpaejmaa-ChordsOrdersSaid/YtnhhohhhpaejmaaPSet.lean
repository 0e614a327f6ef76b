/- Sets of pairs of small numbers as maps from pairs to bools, of one's own; gone through once. -/
import Derived.Test.YtnhhohhhpaejmaaBMap
import Derived.Test.YtnhhohhhpaejmaaPT
import Derived.Maps.RangeWalk
import Derived.Maps.Ext
namespace Go.Proofs.Ytnhhohhhpaejmaa
open Go Go.RowKit Go.Maps

/-- The entries are just those at the pairs of I below N, and are true. -/
structure PHolds (D : DataW Unit) (N : Nat) (I : Nat → Nat → Bool) : Prop where
  at' : ∀ (i j : Nat) l, i < N → j < N → KeyP i j l → D.atKey l (.lit (.bool false)) = .lit (.bool (I i j))
  has' : ∀ l, Maps.has D l = true ↔ ∃ i j : Nat, i < N ∧ j < N ∧ I i j = true ∧ KeyP i j l
/-- Block b is such a map of at most n entries. -/
def PSet (w : World) (b n N : Nat) (I : Nat → Nat → Bool) : Prop := ∃ D : DataW Unit, w.ownsMap Try.prog 52 (plainElem Try.prog 4) b n D ∧ PHolds D N I
theorem PSet.made (w : World) (N : Nat) : PSet (w.alloc (.map #[] 0)) w.heap.size 0 N (fun _ _ => false) :=
  ⟨_, World.ownsMap_made w _ _ _, fun i j l _ _ _ => by rw [WideAt.atKey_none _ (by simp)], fun l => by simp [Maps.has]⟩
theorem PSet.kept {w w' : World} {b n N : Nat} {I : Nat → Nat → Bool} (h : PSet w b n N I) (hb : w'.heap[b]? = w.heap[b]?) : PSet w' b n N I := by
  obtain ⟨D, ⟨es, clock, h1, h2⟩, hS⟩ := h
  exact ⟨D, ⟨es, clock, by rw [hb]; exact h1, h2⟩, hS⟩
theorem PSet.lt {w : World} {b n N : Nat} {I : Nat → Nat → Bool} (h : PSet w b n N I) : b < w.heap.size := by
  obtain ⟨D, h1, -⟩ := h
  exact h1.lt
theorem PSet.below {w w' : World} {b n N : Nat} {I : Nat → Nat → Bool} (h : PSet w b n N I) (hb : Below w.heap.size w w') : PSet w' b n N I := h.kept (hb.block _ h.lt)
theorem PSet.congr {w : World} {b n N : Nat} {I J : Nat → Nat → Bool} (h : PSet w b n N I) (e : ∀ i j, I i j = J i j) : PSet w b n N J := by
  have : I = J := funext fun i => funext fun j => e i j
  rw [← this]; exact h
theorem PHolds.put {D : DataW Unit} {N : Nat} {I : Nat → Nat → Bool} (h : PHolds D N I) (hm : IsMap D) {i j : Nat} (hi : i < N) (hj : j < N) {l : Lit} (hl : KeyP i j l) :
    PHolds (D.put l (.lit (.bool true))) N (fun i' j' => I i' j' || (decide (i' = i) && decide (j' = j))) where
  at' := fun i' j' l' hi' hj' hl' => by
    by_cases e : l' = l
    · subst e
      obtain ⟨rfl, rfl⟩ := key_inj hl hl'
      rw [atKey_put_same hm (pairKeyed.key hl)]
      simp
    · have : ¬ (i' = i ∧ j' = j) := fun ⟨h1, h2⟩ => e (by subst h1; subst h2; exact key_one hl' hl)
      rw [atKey_put_other e, h.at' i' j' l' hi' hj' hl']
      have : (decide (i' = i) && decide (j' = j)) = false := by simpa using this
      simp only [this, Bool.or_false]
  has' := fun l' => by
    by_cases e : l' = l
    · subst e
      rw [has_put_same hm (pairKeyed.key hl)]
      exact ⟨fun _ => ⟨i, j, hi, hj, by simp, hl⟩, fun _ => rfl⟩
    · rw [has_put_other e, h.has' l']
      refine ⟨fun ⟨a, b, h1, h2, h3, h4⟩ => ⟨a, b, h1, h2, by simp [h3], h4⟩, fun ⟨a, b, h1, h2, h3, h4⟩ => ⟨a, b, h1, h2, ?_, h4⟩⟩
      have : ¬ (a = i ∧ b = j) := fun ⟨h5, h6⟩ => e (by subst h5; subst h6; exact key_one h4 hl)
      have : (decide (a = i) && decide (b = j)) = false := by simpa using this
      simpa only [this, Bool.or_false] using h3
theorem PSet.look {w : World} {b n N : Nat} {I : Nat → Nat → Bool} (h : PSet w b n N I) {i j : Nat} (hi : i < N) (hj : j < N) (hN : N ≤ 1000) : (Instr.lookup 66 (.map (some b)) (.agg #[.int .i64 (i : Int), .int .i64 (j : Int)]) false).run Try.prog w = .ok (.bool (I i j)) w := by
  obtain ⟨D, h1, h2⟩ := h
  obtain ⟨l, hl⟩ := key_ex (i := i) (j := j) (by omega) (by omega)
  obtain ⟨c, ps, hrun, hr⟩ := h1.lookup pairKeyed Try.underlying66 (zero_runB w) (plainElem_bool Try.underlying4 false) hl
  obtain ⟨x, rfl, hx⟩ := bool_inv hr
  simp only at hx
  rw [h2.at' i j l hi hj hl] at hx
  simp only [DataW.lit.injEq, Lit.bool.injEq] at hx
  rw [hrun, hx]
theorem PSet.put {w : World} {b n N : Nat} {I : Nat → Nat → Bool} (h : PSet w b n N I) {i j : Nat} (hi : i < N) (hj : j < N) (hN : N ≤ 1000) (hn : n ≤ 10000000) :
    ∃ w', (Instr.mapUpdate 66 (.map (some b)) (.agg #[.int .i64 (i : Int), .int .i64 (j : Int)]) (.bool true)).run Try.prog w = .ok () w' ∧ PSet w' b (n + 1) N (fun i' j' => I i' j' || (decide (i' = i) && decide (j' = j))) ∧ w.grownBy w' (some b) := by
  obtain ⟨D, h1, h2⟩ := h
  obtain ⟨l, hl⟩ := key_ex (i := i) (j := j) (by omega) (by omega)
  obtain ⟨w', hr, ho, hg⟩ := h1.update pairKeyed Try.underlying66 (by unfold maxLen; omega) hl (plainElem_bool Try.underlying4 true)
  exact ⟨w', hr, ⟨_, ho, h2.put h1.isMap hi hj hl⟩, hg⟩
theorem wpList_put_pair {w : World} {ops : Array Oper} {rest : List Oper} {o : Oper} {a : Act} {Q : Exit → Act → World → Prop} (hg : o.guard = none) (m x y : Operand) (hop : o.op = Op.mapUpdate 66 m x y ∨ o.op = Op.insert 66 m x y)
    {b n N : Nat} {I : Nat → Nat → Bool} (hm : a.eval m = .map (some b)) (h : PSet w b n N I) {i j : Nat} (hi : i < N) (hj : j < N) (hN : N ≤ 1000) (hn : n ≤ 10000000) (hx : a.eval x = .agg #[.int .i64 (i : Int), .int .i64 (j : Int)]) (hy : a.eval y = .bool true)
    (hK : ∀ w', PSet w' b (n + 1) N (fun i' j' => I i' j' || (decide (i' = i) && decide (j' = j))) → w.grownBy w' (some b) → wpList Try.prog ops Q rest (a.put o.dst undef) w') : wpList Try.prog ops Q (o :: rest) a w := by
  refine wpList_plain hg fun K' hK' => ?_
  obtain ⟨w', hrun, r1, r2⟩ := h.put hi hj hN hn
  unfold Oper.wp
  rcases hop with hop | hop
  · simp [execOp, hop, hm, hx, hy, hrun, Result.andThen]
    exact hK' _ _ (hK w' r1 r2)
  · simp [execOp, hop, hm, hx, hy, hrun, Result.andThen]
    exact hK' _ _ (hK w' r1 r2)

/-- What is left of a set that is gone through: those of I that are not in J. -/
def PLeft (N : Nat) (I J : Nat → Nat → Bool) (left : Lit → Bool) : Prop := ∀ l, left l = true ↔ ∃ i j : Nat, i < N ∧ j < N ∧ I i j = true ∧ J i j = false ∧ KeyP i j l
theorem PHolds.left {D : DataW Unit} {N : Nat} {I : Nat → Nat → Bool} (h : PHolds D N I) : PLeft N I (fun _ _ => false) (Maps.has D) := fun l => by
  rw [h.has' l]
  exact ⟨fun ⟨i, j, a, b, c, d⟩ => ⟨i, j, a, b, c, rfl, d⟩, fun ⟨i, j, a, b, c, _, d⟩ => ⟨i, j, a, b, c, d⟩⟩
theorem PLeft.next {N : Nat} {I J : Nat → Nat → Bool} {left : Lit → Bool} (h : PLeft N I J left) {i j : Nat} {k : Lit} (hk : KeyP i j k) : PLeft N I (fun a b => J a b || (decide (a = i) && decide (b = j))) (fun z => left z && !z.sameKey k) := fun l => by
  have hkey := pairKeyed.key hk
  simp only [Bool.and_eq_true, Bool.not_eq_true']
  rw [h l]
  constructor
  · rintro ⟨⟨a, b, h1, h2, h3, h4, h5⟩, h6⟩
    refine ⟨a, b, h1, h2, h3, ?_, h5⟩
    have : ¬ (a = i ∧ b = j) := fun ⟨e1, e2⟩ => by
      subst e1; subst e2
      rw [key_one h5 hk, WideAt.sameKey_self hkey] at h6
      cases h6
    have : (decide (a = i) && decide (b = j)) = false := by simpa using this
    simp only [h4, this, Bool.or_false]
  · rintro ⟨a, b, h1, h2, h3, h4, h5⟩
    simp only [Bool.or_eq_false_iff] at h4
    refine ⟨⟨a, b, h1, h2, h3, h4.1, h5⟩, sameKey_ne fun e => ?_⟩
    subst e
    obtain ⟨rfl, rfl⟩ := key_inj h5 hk
    simp at h4
theorem PLeft.done {N : Nat} {I J : Nat → Nat → Bool} {left : Lit → Bool} (h : PLeft N I J left) (h0 : ∀ l, left l = false) (hN : N ≤ 1000) {i j : Nat} (hi : i < N) (hj : j < N) (hI : I i j = true) : J i j = true := by
  cases e : J i j
  · obtain ⟨l, hl⟩ := key_ex (i := i) (j := j) (by omega) (by omega)
    have := (h l).2 ⟨i, j, hi, hj, hI, e, hl⟩
    rw [h0] at this
    cases this
  · rfl

end Go.Proofs.Ytnhhohhhpaejmaa
