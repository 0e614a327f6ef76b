/- Two calls in a region that draws its order: 'p, q := f(a), g(b)', both put into variables of their own. No program in sight. -/
import Derived.Test.YtfflnpcbpcldeaaInv
import Derived.Test.YtfflnpcbpcldeaaMem
namespace Go.Proofs.Ytfflnpcbpcldeaa
open Go Go.RowKit

/-- What stands when some of the operations are done: 1 and 3 the calls, 4 and 5 the variables. -/
structure TwoI (w0 : World) (RA RB : Nat → Nat → World → Value → Prop) (obj : Obj) (b1 b3 b4 b5 : Bool) (w : World) (vA vB : Value) (X Y BA TA BB TB : Nat) : Prop where
  below : Below w0.heap.size w0 w
  hA : b1 = true → RA BA TA w vA ∧ w0.heap.size ≤ BA ∧ BA ≤ TA ∧ TA ≤ w.heap.size
  hB : b3 = true → RB BB TB w vB ∧ w0.heap.size ≤ BB ∧ BB ≤ TB ∧ TB ≤ w.heap.size
  hX : b4 = true → w.heap[X]? = some obj ∧ w0.heap.size ≤ X ∧ X < w.heap.size
  hY : b5 = true → w.heap[Y]? = some obj ∧ w0.heap.size ≤ Y ∧ Y < w.heap.size
  xy : b4 = true → b5 = true → X ≠ Y
  xA : b4 = true → b1 = true → X < BA ∨ TA ≤ X
  xB : b4 = true → b3 = true → X < BB ∨ TB ≤ X
  yA : b5 = true → b1 = true → Y < BA ∨ TA ≤ Y
  yB : b5 = true → b3 = true → Y < BB ∨ TB ≤ Y
  ab : b1 = true → b3 = true → TA ≤ BB ∨ TB ≤ BA

/-- It stays where memory is made. -/
def Stays (R : Nat → Nat → World → Value → Prop) : Prop := ∀ B T w w' v, R B T w v → T ≤ w.heap.size → Below w.heap.size w w' → R B T w' v

section
variable {w0 : World} {RA RB : Nat → Nat → World → Value → Prop} {obj : Obj} {b1 b3 b4 b5 : Bool} {w w' : World} {vA vB : Value} {X Y BA TA BB TB : Nat}

theorem TwoI.step (h : TwoI w0 RA RB obj b1 b3 b4 b5 w vA vB X Y BA TA BB TB) (sA : Stays RA) (sB : Stays RB) (hb : Below w.heap.size w w') : TwoI w0 RA RB obj b1 b3 b4 b5 w' vA vB X Y BA TA BB TB where
  below := h.below.trans (hb.mono h.below.size)
  hA e := by
    obtain ⟨h1, h2, h3, h4⟩ := h.hA e
    exact ⟨sA _ _ _ _ _ h1 h4 hb, h2, h3, Nat.le_trans h4 hb.size⟩
  hB e := by
    obtain ⟨h1, h2, h3, h4⟩ := h.hB e
    exact ⟨sB _ _ _ _ _ h1 h4 hb, h2, h3, Nat.le_trans h4 hb.size⟩
  hX e := by
    obtain ⟨h1, h2, h3⟩ := h.hX e
    exact ⟨by rw [hb.block _ h3]; exact h1, h2, Nat.lt_of_lt_of_le h3 hb.size⟩
  hY e := by
    obtain ⟨h1, h2, h3⟩ := h.hY e
    exact ⟨by rw [hb.block _ h3]; exact h1, h2, Nat.lt_of_lt_of_le h3 hb.size⟩
  xy := h.xy
  xA := h.xA
  xB := h.xB
  yA := h.yA
  yB := h.yB
  ab := h.ab

theorem TwoI.callA {v : Value} (h : TwoI w0 RA RB obj false b3 b4 b5 w vA vB X Y BA TA BB TB) (sA : Stays RA) (sB : Stays RB) (hb : Below w.heap.size w w') (hr : RA w.heap.size w'.heap.size w' v) : TwoI w0 RA RB obj true b3 b4 b5 w' v vB X Y w.heap.size w'.heap.size BB TB :=
  have k := h.step sA sB hb
  { below := k.below
    hA := fun _ => ⟨hr, h.below.size, hb.size, Nat.le_refl _⟩
    hB := k.hB
    hX := k.hX
    hY := k.hY
    xy := k.xy
    xA := fun e _ => Or.inl (h.hX e).2.2
    xB := k.xB
    yA := fun e _ => Or.inl (h.hY e).2.2
    yB := k.yB
    ab := fun _ e => Or.inr (h.hB e).2.2.2 }
theorem TwoI.callB {v : Value} (h : TwoI w0 RA RB obj b1 false b4 b5 w vA vB X Y BA TA BB TB) (sA : Stays RA) (sB : Stays RB) (hb : Below w.heap.size w w') (hr : RB w.heap.size w'.heap.size w' v) : TwoI w0 RA RB obj b1 true b4 b5 w' vA v X Y BA TA w.heap.size w'.heap.size :=
  have k := h.step sA sB hb
  { below := k.below
    hA := k.hA
    hB := fun _ => ⟨hr, h.below.size, hb.size, Nat.le_refl _⟩
    hX := k.hX
    hY := k.hY
    xy := k.xy
    xA := k.xA
    xB := fun e _ => Or.inl (h.hX e).2.2
    yA := k.yA
    yB := fun e _ => Or.inl (h.hY e).2.2
    ab := fun e _ => Or.inl (h.hA e).2.2.2 }
theorem TwoI.allocX (h : TwoI w0 RA RB obj b1 b3 false b5 w vA vB X Y BA TA BB TB) (sA : Stays RA) (sB : Stays RB) : TwoI w0 RA RB obj b1 b3 true b5 (w.alloc obj) vA vB w.heap.size Y BA TA BB TB :=
  have k := h.step sA sB ((Below.refl _ _).alloc (Nat.le_refl _) obj)
  { below := k.below
    hA := k.hA
    hB := k.hB
    hX := fun _ => ⟨heap_alloc_new w _, h.below.size, by rw [World.size_alloc]; omega⟩
    hY := k.hY
    xy := fun _ e => by have := (h.hY e).2.2; omega
    xA := fun _ e => Or.inr (h.hA e).2.2.2
    xB := fun _ e => Or.inr (h.hB e).2.2.2
    yA := k.yA
    yB := k.yB
    ab := k.ab }
theorem TwoI.allocY (h : TwoI w0 RA RB obj b1 b3 b4 false w vA vB X Y BA TA BB TB) (sA : Stays RA) (sB : Stays RB) : TwoI w0 RA RB obj b1 b3 b4 true (w.alloc obj) vA vB X w.heap.size BA TA BB TB :=
  have k := h.step sA sB ((Below.refl _ _).alloc (Nat.le_refl _) obj)
  { below := k.below
    hA := k.hA
    hB := k.hB
    hX := k.hX
    hY := fun _ => ⟨heap_alloc_new w _, h.below.size, by rw [World.size_alloc]; omega⟩
    xy := fun e _ => by have := (h.hX e).2.2; omega
    xA := k.xA
    xB := k.xB
    yA := fun _ e => Or.inr (h.hA e).2.2.2
    yB := fun _ e => Or.inr (h.hB e).2.2.2
    ab := k.ab }
end

/-- A pointer to a block. -/
abbrev ptr (b : Nat) : Value := .pointer (some ⟨b, 0, none⟩)

/-- The temporaries when some of the operations are done. -/
def TwoA (a : Act) (tA cA tB cB tX tY : Tmp) (x y : Value) (b0 b1 b2 b3 b4 b5 : Bool) (vA vB : Value) (X Y : Nat) : Act :=
  pp b5 tY (ptr Y) (pp b4 tX (ptr X) (pp b3 cB vB (pp b2 tB y (pp b1 cA vA (pp b0 tA x a)))))

/-- All six are different, and they lie in the frame; the two that are read lie besides. -/
structure TwoT (n : Nat) (tA cA tB cB tX tY sA sB : Tmp) : Prop where
  d1 : tA ≠ cA
  d2 : tA ≠ tB
  d3 : tA ≠ cB
  d4 : tA ≠ tX
  d5 : tA ≠ tY
  d6 : cA ≠ tB
  d7 : cA ≠ cB
  d8 : cA ≠ tX
  d9 : cA ≠ tY
  d10 : tB ≠ cB
  d11 : tB ≠ tX
  d12 : tB ≠ tY
  d13 : cB ≠ tX
  d14 : cB ≠ tY
  d15 : tX ≠ tY
  e1 : tA ≠ sA ∧ cA ≠ sA ∧ tB ≠ sA ∧ cB ≠ sA ∧ tX ≠ sA ∧ tY ≠ sA
  e2 : tA ≠ sB ∧ cA ≠ sB ∧ tB ≠ sB ∧ cB ≠ sB ∧ tX ≠ sB ∧ tY ≠ sB
  s1 : tA < n
  s2 : tB < n

theorem ret_post {P : Program} {f : FuncId} {args : Array Value} {w : World} {R : Value → World → Prop} {K : Act → World → Prop} {Q : Exit → Act → World → Prop} {a : Act} {d : Tmp}
    (h : Calls P f args w fun e w' => ∃ v, e = .returned v ∧ R v w') (hk : ∀ v w', R v w' → K (a.put (some d) v) w') :
    Calls P f args w fun
      | .returned v, w'' => K (a.put (some d) v) w''
      | .panicked chain, w'' => Q (.panic chain) a w''
      | .outgrown, _ => LetsOut Q :=
  h.mono fun e w' ⟨v, he, hr⟩ => by subst he; exact hk v w' hr

theorem wp_value {P : Program} {o : Oper} {a : Act} {w w' : World} {v : Value} {K : Act → World → Prop} {Q : Exit → Act → World → Prop} (h : (execOp a.eval o).run P w = .ok (.value v) w') (hk : K (a.put o.dst v) w') : o.wp P a w K Q := by
  unfold Oper.wp; rw [h]; exact hk
theorem wp_enter {P : Program} {o : Oper} {a : Act} {w w' : World} {f : FuncId} {args : Array Value} {K : Act → World → Prop} {Q : Exit → Act → World → Prop} {R : Value → World → Prop} (h : (execOp a.eval o).run P w = .ok (.enter f args) w') (hc : Calls P f args w' fun e w'' => ∃ v, e = .returned v ∧ R v w'') (hk : ∀ v w'', R v w'' → K (a.put o.dst v) w'') : o.wp P a w K Q := by
  unfold Oper.wp; rw [h]
  exact hc.mono fun e w'' ⟨v, he, hr⟩ => by subst he; exact hk v w'' hr

theorem two_calls {P : Program} {Q : Exit → Act → World → Prop} {id : Nat} {a : Act} {w : World} {E U R : TypeId} {f g : FuncId} {tA cA tB cB tX tY sA sB : Tmp} {pos : String} {obj : Obj} {x y pA pB : Value}
    {RA RB : Nat → Nat → World → Value → Prop} {aft6 aft7 : Array Edge}
    (hT : TwoT a.tmps.size tA cA tB cB tX tY sA sB)
    (hm : P.follows .mixedOrders = true) (sA' : Stays RA) (sB' : Stays RB)
    (hef : ∀ args w, (callFunc f args).run P w = .ok (.enter f args) w) (heg : ∀ args w, (callFunc g args).run P w = .ok (.enter g args) w)
    (hal : ∀ w : World, (Instr.alloc R true (.tuple #[])).run P w = .ok (ptr w.heap.size) (w.alloc obj))
    (hpA : a.eval (.tmp sA) = pA) (hpB : a.eval (.tmp sB) = pB)
    (hlA : ∀ w', Below w.drew.heap.size w.drew w' → (Instr.loadAt E pA).run P w' = .ok x w') (hlB : ∀ w', Below w.drew.heap.size w.drew w' → (Instr.loadAt U pB).run P w' = .ok y w')
    (hcA : ∀ w', Below w.drew.heap.size w.drew w' → Calls P f #[x] w' fun e w'' => ∃ v, e = .returned v ∧ RA w'.heap.size w''.heap.size w'' v ∧ Below w'.heap.size w' w'')
    (hcB : ∀ w', Below w.drew.heap.size w.drew w' → Calls P g #[y] w' fun e w'' => ∃ v, e = .returned v ∧ RB w'.heap.size w''.heap.size w'' v ∧ Below w'.heap.size w' w'')
    {ops : Array Oper}
    (hops : ops = #[{ dst := some tA, op := .load E (.tmp sA), type := E, pos := pos, after := #[], guard := none },
          { dst := some cA, op := .call { callee := .value (.func f), args := #[.tmp tA], argTypes := #[E] }, type := R, pos := pos, after := #[{ on := 0, ground := .data }], guard := none },
          { dst := some tB, op := .load U (.tmp sB), type := U, pos := pos, after := #[], guard := none },
          { dst := some cB, op := .call { callee := .value (.func g), args := #[.tmp tB], argTypes := #[U] }, type := R, pos := pos, after := #[{ on := 2, ground := .data }, { on := 1, ground := .chain }], guard := none },
          { dst := some tX, op := .alloc R, type := 0, pos := pos, after := #[], guard := none },
          { dst := some tY, op := .alloc R, type := 0, pos := pos, after := #[], guard := none },
          { dst := none, op := .store R (.tmp tX) (.tmp cA), type := 0, pos := pos, after := aft6, guard := none },
          { dst := none, op := .store R (.tmp tY) (.tmp cB), type := 0, pos := pos, after := aft7, guard := none }])
    (hr6 : Region.ready .any ops #[true, true, true, true, true, true, false, false] = [6]) (hr7 : Region.ready .any ops #[true, true, true, true, true, true, true, false] = [7])
    (h6 : ((aft6.toList.any fun e => Region.binds .any e && e.on == 0) && (aft6.toList.any fun e => Region.binds .any e && e.on == 1) && (aft6.toList.any fun e => Region.binds .any e && e.on == 3) && (aft6.toList.any fun e => Region.binds .any e && e.on == 4) && (aft6.toList.any fun e => Region.binds .any e && e.on == 5)) = true)
    (h7 : (aft7.toList.any fun e => Region.binds .any e && e.on == 6) = true)
    (h : ∀ X Y vA vB BA TA BB TB w', TwoI w.drew RA RB obj true true true true w' vA vB X Y BA TA BB TB → wpList P ops Q
      [{ dst := none, op := .store R (.tmp tX) (.tmp cA), type := 0, pos := pos, after := aft6, guard := none },
       { dst := none, op := .store R (.tmp tY) (.tmp cB), type := 0, pos := pos, after := aft7, guard := none }]
      ((((((a.put (some tA) x).put (some cA) vA).put (some tB) y).put (some cB) vB).put (some tX) (ptr X)).put (some tY) (ptr Y)) w') :
    (Code.region id ops true).wp P Q a w := by
  refine wp_region_inv (fun l a' w' => ∃ b0 b1 b2 b3 b4 b5, l = #[b0, b1, b2, b3, b4, b5, false, false] ∧ (b1 = true → b0 = true) ∧ (b3 = true → b1 = true ∧ b2 = true) ∧
      ∃ vA vB X Y BA TA BB TB, a' = TwoA a tA cA tB cB tX tY x y b0 b1 b2 b3 b4 b5 vA vB X Y ∧ TwoI w.drew RA RB obj b1 b3 b4 b5 w' vA vB X Y BA TA BB TB)
    (fun l => l = #[true, true, true, true, true, true, false, false]) hm ?_ ?_ ?_ ?_
  · refine ⟨false, false, false, false, false, false, by rw [hops]; rfl, by simp, by simp, undef, undef, 0, 0, 0, 0, 0, 0, rfl, ?_⟩
    exact ⟨Below.refl _ _, by simp, by simp, by simp, by simp, by simp, by simp, by simp, by simp, by simp, by simp⟩
  · rintro l a' w' i hs hst hi ⟨b0, b1, b2, b3, b4, b5, rfl, c1, c3, vA, vB, X, Y, BA, TA, BB, TB, rfl, hI⟩
    rw [mem_ready] at hi
    obtain ⟨hi0, o, ho, hafter⟩ := hi
    have hi8 : i < 8 := by
      have := (Array.getElem?_eq_some_iff.1 ho).1
      rw [hops] at this
      simpa using this
    have t := hT
    have ho' := ho
    rw [hops] at ho'
    match i, hi8 with
    | 0, _ =>
      obtain rfl : b0 = false := by simpa using hi0
      simp at ho'
      subst ho'
      refine wpOp_of ho rfl (wp_value (v := x) (w' := w') ?_ ?_)
      · have e1 : (TwoA a tA cA tB cB tX tY x y false b1 b2 b3 b4 b5 vA vB X Y).eval (.tmp sA) = pA := by
          unfold TwoA
          rw [pp_eval t.e1.2.2.2.2.2, pp_eval t.e1.2.2.2.2.1, pp_eval t.e1.2.2.2.1, pp_eval t.e1.2.2.1, pp_eval t.e1.2.1, pp_eval t.e1.1, hpA]
        simp [execOp, e1, hlA w' hI.below]
      · refine ⟨true, b1, b2, b3, b4, b5, rfl, by simp, c3, vA, vB, X, Y, BA, TA, BB, TB, ?_, hI⟩
        unfold TwoA
        rw [pp_put (Ne.symm t.d5), pp_put (Ne.symm t.d4), pp_put (Ne.symm t.d3), pp_put (Ne.symm t.d2), pp_put (Ne.symm t.d1)]
        rfl
    | 1, _ =>
      obtain rfl : b1 = false := by simpa using hi0
      simp at ho'
      subst ho'
      obtain rfl : b0 = true := by simpa using hafter { on := 0, ground := .data } (by simp) rfl
      refine wpOp_of ho rfl (wp_enter (f := f) (args := #[x]) (w' := w') ?_ (hcA w' hI.below) ?_)
      · have e1 : (TwoA a tA cA tB cB tX tY x y true false b2 b3 b4 b5 vA vB X Y).eval (.tmp tA) = x := by
          unfold TwoA
          rw [pp_eval (Ne.symm t.d5), pp_eval (Ne.symm t.d4), pp_eval (Ne.symm t.d3), pp_eval (Ne.symm t.d2), pp_eval (Ne.symm t.d1)]
          exact pp_same t.s1
        simp only [execOp, resolve, e1, invoke, Act.eval]
        simp [e1, hef, Deferred.ofValue]
      · rintro v w'' ⟨hr, hb⟩
        refine ⟨true, true, b2, b3, b4, b5, rfl, by simp, fun e => ⟨rfl, (c3 e).2⟩, v, vB, X, Y, _, _, BB, TB, ?_, hI.callA sA' sB' hb hr⟩
        unfold TwoA
        rw [pp_put (Ne.symm t.d9), pp_put (Ne.symm t.d8), pp_put (Ne.symm t.d7), pp_put (Ne.symm t.d6)]
        rfl
    | 2, _ =>
      obtain rfl : b2 = false := by simpa using hi0
      simp at ho'
      subst ho'
      refine wpOp_of ho rfl (wp_value (v := y) (w' := w') ?_ ?_)
      · have e1 : (TwoA a tA cA tB cB tX tY x y b0 b1 false b3 b4 b5 vA vB X Y).eval (.tmp sB) = pB := by
          unfold TwoA
          rw [pp_eval t.e2.2.2.2.2.2, pp_eval t.e2.2.2.2.2.1, pp_eval t.e2.2.2.2.1, pp_eval t.e2.2.2.1, pp_eval t.e2.2.1, pp_eval t.e2.1, hpB]
        simp [execOp, e1, hlB w' hI.below]
      · refine ⟨b0, b1, true, b3, b4, b5, rfl, c1, fun e => ⟨(c3 e).1, rfl⟩, vA, vB, X, Y, BA, TA, BB, TB, ?_, hI⟩
        unfold TwoA
        rw [pp_put (Ne.symm t.d12), pp_put (Ne.symm t.d11), pp_put (Ne.symm t.d10)]
        rfl
    | 3, _ =>
      obtain rfl : b3 = false := by simpa using hi0
      simp at ho'
      subst ho'
      obtain rfl : b2 = true := by simpa using hafter { on := 2, ground := .data } (by simp) rfl
      obtain rfl : b1 = true := by simpa using hafter { on := 1, ground := .chain } (by simp) rfl
      refine wpOp_of ho rfl (wp_enter (f := g) (args := #[y]) (w' := w') ?_ (hcB w' hI.below) ?_)
      · have e1 : (TwoA a tA cA tB cB tX tY x y b0 true true false b4 b5 vA vB X Y).eval (.tmp tB) = y := by
          unfold TwoA
          rw [pp_eval (Ne.symm t.d12), pp_eval (Ne.symm t.d11), pp_eval (Ne.symm t.d10)]
          exact pp_same (by rw [pp_size, pp_size]; exact t.s2)
        simp only [execOp, resolve, e1, invoke, Act.eval]
        simp [e1, heg, Deferred.ofValue]
      · rintro v w'' ⟨hr, hb⟩
        refine ⟨b0, true, true, true, b4, b5, rfl, c1, fun _ => ⟨rfl, rfl⟩, vA, v, X, Y, BA, TA, _, _, ?_, hI.callB sA' sB' hb hr⟩
        unfold TwoA
        rw [pp_put (Ne.symm t.d14), pp_put (Ne.symm t.d13)]
        rfl
    | 4, _ =>
      obtain rfl : b4 = false := by simpa using hi0
      simp at ho'
      subst ho'
      refine wpOp_of ho rfl (wp_value (v := ptr w'.heap.size) (w' := w'.alloc obj) ?_ ?_)
      · simp [execOp, hal]
      · refine ⟨b0, b1, b2, b3, true, b5, rfl, c1, c3, vA, vB, _, Y, BA, TA, BB, TB, ?_, hI.allocX sA' sB'⟩
        unfold TwoA
        rw [pp_put (Ne.symm t.d15)]
        rfl
    | 5, _ => 
      obtain rfl : b5 = false := by simpa using hi0
      simp at ho'
      subst ho'
      refine wpOp_of ho rfl (wp_value (v := ptr w'.heap.size) (w' := w'.alloc obj) ?_ ?_)
      · simp [execOp, hal]
      · refine ⟨b0, b1, b2, b3, b4, true, rfl, c1, c3, vA, vB, X, _, BA, TA, BB, TB, ?_, hI.allocY sA' sB'⟩
        rfl
    | 6, _ =>
      exfalso
      simp at ho'
      subst ho'
      simp only [Bool.and_eq_true, List.any_eq_true, beq_iff_eq] at h6
      obtain ⟨⟨⟨⟨⟨e0, m0, k0, f0⟩, e1, m1, k1, f1⟩, e3, m3, k3, f3⟩, e4, m4, k4, f4⟩, e5, m5, k5, f5⟩ := h6
      have g0 := hafter e0 (by simpa using m0) k0
      have g1 := hafter e1 (by simpa using m1) k1
      have g3 := hafter e3 (by simpa using m3) k3
      have g4 := hafter e4 (by simpa using m4) k4
      have g5 := hafter e5 (by simpa using m5) k5
      rw [f0] at g0
      rw [f1] at g1
      rw [f3] at g3
      rw [f4] at g4
      rw [f5] at g5
      have g0 : b0 = true := by simpa using g0
      have g1 : b1 = true := by simpa using g1
      have g3 : b3 = true := by simpa using g3
      have g4 : b4 = true := by simpa using g4
      have g5 : b5 = true := by simpa using g5
      have g2 := (c3 g3).2
      subst g0 g1 g2 g3 g4 g5
      exact hst rfl
    | 7, _ =>
      exfalso
      simp at ho'
      subst ho'
      simp only [Bool.and_eq_true, List.any_eq_true, beq_iff_eq] at h7
      obtain ⟨e0, m0, k0, f0⟩ := h7
      have g0 := hafter e0 (by simpa using m0) k0
      rw [f0] at g0
      simp at g0
  · rintro l a' w' hs hst hr ⟨b0, b1, b2, b3, b4, b5, rfl, c1, c3, vA, vB, X, Y, BA, TA, BB, TB, rfl, hI⟩
    exfalso
    have no : ∀ i, ¬ i ∈ Region.ready .any ops #[b0, b1, b2, b3, b4, b5, false, false] := fun i hi => by rw [hr] at hi; exact absurd hi (List.not_mem_nil)
    have n0 : b0 = true := by
      cases b0
      · exact absurd (mem_ready.2 ⟨by rfl, _, by rw [hops]; rfl, by simp⟩) (no 0)
      · rfl
    subst n0
    have n1 : b1 = true := by
      cases b1
      · exact absurd (mem_ready.2 ⟨by rfl, _, by rw [hops]; rfl, by simp⟩) (no 1)
      · rfl
    subst n1
    have n2 : b2 = true := by
      cases b2
      · exact absurd (mem_ready.2 ⟨by rfl, _, by rw [hops]; rfl, by simp⟩) (no 2)
      · rfl
    subst n2
    have n3 : b3 = true := by
      cases b3
      · exact absurd (mem_ready.2 ⟨by rfl, _, by rw [hops]; rfl, by simp⟩) (no 3)
      · rfl
    subst n3
    have n4 : b4 = true := by
      cases b4
      · exact absurd (mem_ready.2 ⟨by rfl, _, by rw [hops]; rfl, by simp⟩) (no 4)
      · rfl
    subst n4
    have n5 : b5 = true := by
      cases b5
      · exact absurd (mem_ready.2 ⟨by rfl, _, by rw [hops]; rfl, by simp⟩) (no 5)
      · rfl
    subst n5
    exact hst rfl
  · rintro l a' w' hs rfl ⟨b0, b1, b2, b3, b4, b5, hl, c1, c3, vA, vB, X, Y, BA, TA, BB, TB, rfl, hI⟩ fuel hf
    simp at hl
    obtain ⟨rfl, rfl, rfl, rfl, rfl, rfl⟩ := hl
    have hf2 : 2 ≤ fuel := by simpa using hf
    obtain ⟨k, rfl⟩ : ∃ k, fuel = k + 1 + 1 := ⟨fuel - 2, by omega⟩
    have hw := h X Y vA vB BA TA BB TB w' hI
    refine ⟨fun e => (by rw [hr6] at e; cases e), fun i hi => ?_⟩
    rw [hr6] at hi
    obtain rfl : i = 6 := by simpa using hi
    refine wpOp_mono ?_ (wpOp_list (by rw [hops]; rfl) hw)
    intro a2 w2 h2
    refine ⟨fun e => (by rw [show (#[true, true, true, true, true, true, false, false] : Array Bool).setIfInBounds 6 true = #[true, true, true, true, true, true, true, false] from rfl, hr7] at e; cases e), fun i hi => ?_⟩
    rw [show (#[true, true, true, true, true, true, false, false] : Array Bool).setIfInBounds 6 true = #[true, true, true, true, true, true, true, false] from rfl, hr7] at hi
    obtain rfl : i = 7 := by simpa using hi
    refine wpOp_mono ?_ (wpOp_list (by rw [hops]; rfl) h2)
    intro a3 w3 h3
    refine wpAny_done ?_ h3 k
    rw [List.eq_nil_iff_forall_not_mem]
    intro j hj
    have := (mem_ready.1 hj).1
    have hj8 : j < 8 := by
      obtain ⟨o, ho, _⟩ := (mem_ready.1 hj).2
      have := (Array.getElem?_eq_some_iff.1 ho).1
      rw [hops] at this
      simpa using this
    match j, hj8 with
    | 0, _ | 1, _ | 2, _ | 3, _ | 4, _ | 5, _ | 6, _ | 7, _ => simp at this

end Go.Proofs.Ytfflnpcbpcldeaa
