/- The memory of a push: pipes whose rows stay where they are, levels, what is next. -/
import Derived.Test.YtbnbhjeknocboaaLevels
import Derived.Test.YtbnbhjeknocboaaPA
namespace Go.Proofs.Ytbnbhjeknocboaa
open Go.RowKit

section
variable {w w' : World} {base bP bA N : Nat} {V : Nat → Value} {X : Nat → List Nat}
/-- A store into row r. -/
theorem PB.setRow (h : PB w base bP bA N V X) {r g c : Nat} (hr : r < N + 2) (e : V r = .slice (some ⟨g, 0, none⟩) (X r).length c) (i x : Nat) :
    PB (w.setCell ⟨g, i, none⟩ (.int .i64 (x : Int))) base bP bA N V (fun q => if q = r then (X r).set i x else X q) := by
  have ho := h.owns hr
  rw [e] at ho
  have hlt := ho.lt g rfl
  obtain ⟨s1, s2⟩ := ho.stored i (.int .i64 (x : Int))
  have hP : bP ≠ g := by have := h.lt; omega
  have hA : bA ≠ g := by have := h.lt; omega
  refine ⟨h.rP.setOther (a := ⟨g, i, none⟩) hP _, h.rA.setOther (a := ⟨g, i, none⟩) hA _, ⟨fun q hq => ?_, h.bank.sep⟩, h.lt, h.ne, by rw [size_setCell]; exact h.sz⟩
  by_cases eq : q = r
  · subst eq
    simp only [if_true]
    rw [e, List.length_map, ints_length, List.length_set]
    have e2 : (ints ((X q).set i x)).map (Value.int .i64) = ((ints (X q)).map (Value.int .i64)).set i (.int .i64 (x : Int)) := by
      simp [ints, List.map_set]
    rw [e2]
    exact s1
  · simp only [if_neg eq]
    refine (h.bank.own q hq).kept s2 ?_
    cases hv : (V q).ownBlock with
    | none => exact Or.inl rfl
    | some k =>
      refine Or.inr fun hk => ?_
      cases hk
      exact h.bank.sep q r hq hr eq g hv (by rw [e]; rfl)
/-- A store elsewhere. -/
theorem PB.setFar (h : PB w base bP bA N V X) {g : Nat} (hP : bP ≠ g) (hA : bA ≠ g) (hV : ∀ r, r < N + 2 → (V r).ownBlock ≠ some g) (k : Nat) (x : Value) : PB (w.setCell ⟨g, k, none⟩ x) base bP bA N V X where
  rP := h.rP.setOther (a := ⟨g, k, none⟩) hP _
  rA := h.rA.setOther (a := ⟨g, k, none⟩) hA _
  bank := ⟨fun r hr => (h.bank.own r hr).kept (row := some g) (grown_setc w g k x) (by
      cases hv : (V r).ownBlock with
      | none => exact Or.inl rfl
      | some q => exact Or.inr (fun e => hV r hr (hv.trans e))), h.bank.sep⟩
  lt := h.lt
  ne := h.ne
  sz := by rw [size_setCell]; exact h.sz
where
  grown_setc (w : World) (B k : Nat) (x : Value) : w.grownBy (w.setCell ⟨B, k, none⟩ x) (some B) :=
    ⟨rfl, rfl, rfl, by simp [World.setCell], fun i _ hi => Below.heap_setCell w ⟨B, k, none⟩ x i (fun e => hi (by rw [e]))⟩
end

/-- Where all lies: pipes below S, levels and what is next from S on. -/
structure Lies (base bP bA N : Nat) (V : Nat → Value) (S bV bX gL : Nat) : Prop where
  pP : bP < S
  pA : bA < S
  rows : ∀ r, r < N + 2 → ∀ g, (V r).ownBlock = some g → g < S
  left : (V 1).ownBlock = some gL
  lev : S ≤ bV
  nxt : S ≤ bX
  ne : bV ≠ bX
/-- What a push finds. -/
structure PuEnv (w : World) (base bP bA N : Nat) (V : Nat → Value) (bV bX : Nat) (X : Nat → List Nat) (lev : Nat → Int) (nx : Nat → Nat) : Prop where
  pb : PB w base bP bA N V X
  lev : w.rowIs bV 3 N (ri lev)
  nxt : w.rowIs bX 3 N (rn nx)
/-- What a push may turn. -/
abbrev PuTurns (gL bX : Nat) : Nat → Prop := fun k => k = gL ∨ k = bX

section
variable {w w' : World} {base bP bA N S bV bX gL : Nat} {V : Nat → Value} {X : Nat → List Nat} {lev : Nat → Int} {nx : Nat → Nat}
theorem PuEnv.below (h : PuEnv w base bP bA N V bV bX X lev nx) (hb : Below w.heap.size w w') : PuEnv w' base bP bA N V bV bX X lev nx :=
  ⟨h.pb.below hb, h.lev.of_block (hb.block _ h.lev.lt), h.nxt.of_block (hb.block _ h.nxt.lt)⟩
theorem PuEnv.drewN (h : PuEnv w base bP bA N V bV bX X lev nx) (n : Nat) : PuEnv (w.drewN n) base bP bA N V bV bX X lev nx := h.below (Below.drewN' (Below.refl _ _) n)
theorem PuEnv.setNx (L : Lies base bP bA N V S bV bX gL) (h : PuEnv w base bP bA N V bV bX X lev nx) (k x : Nat) :
    PuEnv (w.setCell ⟨bX, k, none⟩ (.int .i64 (x : Int))) base bP bA N V bV bX X lev (fun q => if q = k then x else nx q) where
  pb := h.pb.setFar (by have := L.pP; have := L.nxt; omega) (by have := L.pA; have := L.nxt; omega) (fun r hr e => by have := L.rows r hr bX e; have := L.nxt; omega) k _
  lev := h.lev.setOther (a := ⟨bX, k, none⟩) L.ne _
  nxt := row_set_rn h.nxt k x
theorem PuEnv.setLeft (L : Lies base bP bA N V S bV bX gL) (h : PuEnv w base bP bA N V bV bX X lev nx) {c : Nat} (e : V 1 = .slice (some ⟨gL, 0, none⟩) (X 1).length c) (i x : Nat) :
    PuEnv (w.setCell ⟨gL, i, none⟩ (.int .i64 (x : Int))) base bP bA N V bV bX (fun q => if q = 1 then (X 1).set i x else X q) lev nx where
  pb := h.pb.setRow (by omega) e i x
  lev := h.lev.setOther (a := ⟨gL, i, none⟩) (by have := L.rows 1 (by omega) gL L.left; have := L.lev; show bV ≠ gL; omega) _
  nxt := h.nxt.setOther (a := ⟨gL, i, none⟩) (by have := L.rows 1 (by omega) gL L.left; have := L.nxt; show bX ≠ gL; omega) _
end

theorem op_xor {i : Nat} (h : i ^^^ 1 < 1000000) (hi : i < 1000000) : bits .xor .i64 (i : Int) 1 = ((i ^^^ 1 : Nat) : Int) := by
  unfold bits
  show IntKind.i64.wrap (((BitVec.ofInt 64 (i : Int)) ^^^ (BitVec.ofInt 64 ((1 : Nat) : Int))).toNat : Int) = _
  rw [BitVec.toNat_xor, ofInt_nat (by omega), ofInt_nat (by omega)]
  exact wrap_nat (by omega)

/-- One further at node v. -/
theorem pu_next {w wr : World} {base bP bA N S bV bX gL t v j : Nat} {V : Nat → Value} {X : Nat → List Nat} {lev : Nat → Int} {nx nx1 : Nat → Nat} (L : Lies base bP bA N V S bV bX gL) (hv : v < N) (h : PuEnv wr base bP bA N V bV bX X lev nx1) (hc : Chg (PuTurns gL bX) w wr)
    (hle : ∀ u, u < N → nx1 u ≤ (X (u + 2)).length) (hlow : ∀ u, u < N → lev u < lev v → nx1 u = nx u) (hdead : Dead N X lev t nx → Dead N X lev t nx1) (hj : nx1 v = j) (hlt : j < (X (v + 2)).length)
    (hu : Dead N X lev t nx → (leftX X ((X (v + 2)).getD j 0) = 0 ∨ lev (toX X ((X (v + 2)).getD j 0)) ≠ lev v + 1 ∨ (toX X ((X (v + 2)).getD j 0) ≠ t ∧ nx1 (toX X ((X (v + 2)).getD j 0)) = (X (toX X ((X (v + 2)).getD j 0) + 2)).length))) :
    ∃ nx5 : Nat → Nat, nx5 v = j + 1 ∧ PuEnv (wr.setCell ⟨bX, v, none⟩ (.int .i64 ((j : Int) + 1))) base bP bA N V bV bX X lev nx5 ∧ Chg (PuTurns gL bX) w (wr.setCell ⟨bX, v, none⟩ (.int .i64 ((j : Int) + 1))) ∧ (∀ u, u < N → nx5 u ≤ (X (u + 2)).length) ∧ (∀ u, u < N → lev u < lev v → nx5 u = nx u) ∧ (Dead N X lev t nx → Dead N X lev t nx5) := by
  refine ⟨fun q => if q = v then j + 1 else nx1 q, if_pos rfl, h.setNx L v (j + 1), hc.setCell (fun _ => Or.inr rfl) _, fun u huN => ?_, fun u huN hl => ?_, fun hd => ?_⟩
  · by_cases e : u = v
    · subst e; simp only [if_true]; omega
    · simp only [if_neg e]; exact hle u huN
  · have e : u ≠ v := fun e => by subst e; omega
    simp only [if_neg e]; exact hlow u huN hl
  · subst hj
    exact (hdead hd).next hlt (hu hd)

/-- A push comes back: with nothing, or with n. -/
def PushPost (base bP bA N M : Nat) (V : Nat → Value) (bV bX gL : Nat) (X : Nat → List Nat) (lev : Nat → Int) (nx : Nat → Nat) (t v most : Nat) (w : World) (e : Ending) (w' : World) : Prop :=
  ∃ (n : Nat) (X' : Nat → List Nat) (nx' : Nat → Nat), e = .returned (.int .i64 (n : Int)) ∧ PuEnv w' base bP bA N V bV bX X' lev nx' ∧ Chg (PuTurns gL bX) w w' ∧
    (∀ u, u < N → nx' u ≤ (X (u + 2)).length) ∧ (∀ u, u < N → lev u < lev v → nx' u = nx u) ∧
    ((n = 0 ∧ X' = X ∧ v ≠ t ∧ (Dead N X lev t nx → Dead N X lev t nx' ∧ nx' v = (X (v + 2)).length)) ∨ (0 < n ∧ n ≤ most ∧ Aug N M lev t v n X X'))

end Go.Proofs.Ytbnbhjeknocboaa
