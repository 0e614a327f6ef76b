/- A region that draws its order, by an invariant: each operation once. No program in sight. -/
import Derived.Orders
import Derived.WalkKit
namespace Go.Proofs.Ytfflnpcbpcldeaa
open Go

variable {P : Program} {ops : Array Oper} {Q : Exit → Act → World → Prop}

theorem count_list : ∀ (m : List Bool) (i : Nat) (hl : i < m.length), m[i] = false → m.count false = (m.set i true).count false + 1
  | [], i, hl, _ => by simp at hl
  | x :: m, 0, _, h => by
    obtain rfl : x = false := by simpa using h
    simp
  | x :: m, i + 1, hl, h => by
    have := count_list m i (by simpa using hl) (by simpa using h)
    simp only [List.set_cons_succ, List.count_cons]
    omega
theorem count_set (l : Array Bool) (i : Nat) (h : l.getD i true = false) : (l.setIfInBounds i true).toList.count false + 1 = l.toList.count false := by
  have hi : i < l.size := by
    rcases Nat.lt_or_ge i l.size with h' | h'
    · exact h'
    · simp [Array.getElem?_eq_none h'] at h
  have hv : l[i] = false := by simpa [hi] using h
  rw [Array.toList_setIfInBounds]
  have := count_list l.toList i (by simpa using hi) (by simpa using hv)
  omega

theorem ready_nil {md : Region.Mode} {l : Array Bool} (h : l.toList.count false = 0) (hs : l.size = ops.size) : Region.ready md ops l = [] := by
  rw [List.eq_nil_iff_forall_not_mem]
  intro j hj
  rw [mem_ready] at hj
  have := count_set l j hj.1
  omega

theorem wpAny_inv (I : Array Bool → Act → World → Prop) (stop : Array Bool → Prop)
    (hstep : ∀ (l : Array Bool) a w i, l.size = ops.size → ¬ stop l → i ∈ Region.ready .any ops l → I l a w → wpOp P ops Q i (I (l.setIfInBounds i true)) a w)
    (hdone : ∀ (l : Array Bool) a w, l.size = ops.size → ¬ stop l → Region.ready .any ops l = [] → I l a w → Q .normal a w)
    (hstop : ∀ (l : Array Bool) a w, l.size = ops.size → stop l → I l a w → ∀ fuel, l.toList.count false ≤ fuel → wpAny P .any ops Q fuel l a w) :
    ∀ (fuel : Nat) (l : Array Bool) a w, l.size = ops.size → l.toList.count false ≤ fuel → I l a w → wpAny P .any ops Q fuel l a w := by
  intro fuel
  induction fuel with
  | zero =>
    intro l a w hs hc hI
    by_cases hst : stop l
    · exact hstop l a w hs hst hI 0 hc
    have := ready_nil (ops := ops) (md := .any) (l := l) (by omega) hs
    exact ⟨this, hdone l a w hs hst this hI⟩
  | succ fuel ih =>
    intro l a w hs hc hI
    by_cases hst : stop l
    · exact hstop l a w hs hst hI _ hc
    refine ⟨fun h => hdone l a w hs hst h hI, fun i hi => ?_⟩
    have h0 := (mem_ready.1 hi).1
    have := count_set l i h0
    exact wpOp_mono (fun a w h => ih _ a w (by simpa using hs) (by omega) h) (hstep l a w i hs hst hi hI)

theorem wp_region_inv {id : Nat} {a : Act} {w : World} (I : Array Bool → Act → World → Prop) (stop : Array Bool → Prop) (hm : P.follows .mixedOrders = true)
    (h0 : I (Array.replicate ops.size false) a w.drew)
    (hstep : ∀ (l : Array Bool) a w i, l.size = ops.size → ¬ stop l → i ∈ Region.ready .any ops l → I l a w → wpOp P ops Q i (I (l.setIfInBounds i true)) a w)
    (hdone : ∀ (l : Array Bool) a w, l.size = ops.size → ¬ stop l → Region.ready .any ops l = [] → I l a w → Q .normal a w)
    (hstop : ∀ (l : Array Bool) a w, l.size = ops.size → stop l → I l a w → ∀ fuel, l.toList.count false ≤ fuel → wpAny P .any ops Q fuel l a w) :
    (Code.region id ops true).wp P Q a w :=
  wp_region_any hm (wpAny_inv I stop hstep hdone hstop _ _ _ _ (by simp) (by rw [Array.toList_replicate, List.count_replicate]; simp) h0)

theorem wpOp_of {i : Nat} {o : Oper} {K : Act → World → Prop} {a : Act} {w : World} (hi : ops[i]? = some o) (hg : o.guard = none) (h : o.wp P a w K Q) : wpOp P ops Q i K a w := by
  unfold wpOp
  simp only [hi]
  rw [if_pos (by simp [Region.wanted, hg])]
  exact Or.inl h
theorem wpOp_list {i : Nat} {o : Oper} {rest : List Oper} {a : Act} {w : World} (hi : ops[i]? = some o) (h : wpList P ops Q (o :: rest) a w) : wpOp P ops Q i (wpList P ops Q rest) a w := by
  unfold wpOp
  simp only [hi]
  exact h

/-- A temporary that may have been put. -/
def pp (b : Bool) (d : Tmp) (v : Value) (a : Act) : Act := if b then a.put (some d) v else a
theorem pp_put {b : Bool} {d e : Tmp} {v u : Value} {a : Act} (h : d ≠ e) : (pp b d v a).put (some e) u = pp b d v (a.put (some e) u) := by
  cases b
  · rfl
  · exact Act.put_comm (x := some d) (y := some e) a v u (fun k hk he => h (by injection hk with hk; injection he with he; exact hk.trans he.symm))
theorem pp_eval {b : Bool} {d s : Tmp} {v : Value} {a : Act} (h : d ≠ s) : (pp b d v a).eval (.tmp s) = a.eval (.tmp s) := by
  cases b
  · rfl
  · exact Act.eval_put (dst := some d) (x := .tmp s) (fun k hk he => h (by injection hk with hk; injection he with he; exact hk.trans he.symm))
theorem pp_same {d : Tmp} {v : Value} {a : Act} (h : d < a.tmps.size) : (pp true d v a).eval (.tmp d) = v := by
  simp [pp, Act.eval, Act.put, h]
theorem pp_size {b : Bool} {d : Tmp} {v : Value} {a : Act} : (pp b d v a).tmps.size = a.tmps.size := by
  cases b <;> simp [pp, Act.put]

end Go.Proofs.Ytfflnpcbpcldeaa
