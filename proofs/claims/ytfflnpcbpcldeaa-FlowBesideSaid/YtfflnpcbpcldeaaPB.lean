/- flow.pipes that are being built. -/
import Derived.Test.YtfflnpcbpcldeaaBank
import Derived.Test.YtfflnpcbpcldeaaMasks
import Derived.Test.YtfflnpcbpcldeaaP4
namespace Go.Proofs.Ytfflnpcbpcldeaa
open Go.RowKit

/-- Pipes that are being built: row 0 where they lead to, row 1 what is left, row v + 2 those at node v. -/
structure PB (w : World) (base bP bA N : Nat) (V : Nat → Value) (X : Nat → List Nat) : Prop where
  rP : w.rowIs bP 101 3 (fun i => if i = 0 then V 0 else if i = 1 then V 1 else .slice (some ⟨bA, 0, none⟩) N N)
  rA : w.rowIs bA 51 N (fun v => V (v + 2))
  bank : Bank w base 3 (N + 2) V (fun r => (ints (X r)).map (Value.int .i64))
  lt : bP < base ∧ bA < base
  ne : bP ≠ bA
  sz : base ≤ w.heap.size

/-- A list has grown. -/
def upX (X : Nat → List Nat) (r : Nat) (m : List Nat) : Nat → List Nat := fun q => if q = r then X r ++ m else X q
/-- What add does to the rows. -/
def addX (X : Nat → List Nat) (u v c : Nat) : Nat → List Nat := upX (upX (upX (upX X (u + 2) [(X 0).length]) (v + 2) [(X 0).length + 1]) 0 [v, u]) 1 [c, 0]

theorem PB.form {w : World} {base bP bA N : Nat} {V : Nat → Value} {X : Nat → List Nat} (h : PB w base bP bA N V X) {r : Nat} (hr : r < N + 2) : ∃ a c, V r = .slice a (X r).length c := by
  obtain ⟨a, c, e⟩ := ownsRow_form (h.bank.own r hr)
  exact ⟨a, c, by rw [e]; simp [ints_length]⟩

/-- What may turn. -/
abbrev PTurns (base bP bA : Nat) : Nat → Prop := fun k => k = bP ∨ k = bA ∨ base ≤ k


theorem HasCells.two (w : World) (x y : Value) (t : TypeId) (hx : x.oneCell' = true) (hy : y.oneCell' = true) : HasCells (w.alloc (.cells #[x, y] t)) (.slice (some ⟨w.heap.size, 0, none⟩) 2 2) 2 [x, y] := by
  refine ⟨_, _, rfl, rfl, by simp, fun ad had j u hu => ?_, by simp [hx, hy]⟩
  obtain rfl := Option.some.inj had
  have hj : j < 2 := by have := (List.getElem?_eq_some_iff.1 hu).1; simpa using this
  match j, hj with
  | 0, _ =>
    simp only [List.getElem?_cons_zero, Option.some.injEq] at hu
    subst hu
    simp [Addr.add]
  | 1, _ =>
    simp only [List.getElem?_cons_succ, List.getElem?_cons_zero, Option.some.injEq] at hu
    subst hu
    simp [Addr.add]

section
variable {w w' : World} {base bP bA N : Nat} {V : Nat → Value} {X : Nat → List Nat}
theorem PB.below (h : PB w base bP bA N V X) (hb : Below w.heap.size w w') : PB w' base bP bA N V X where
  rP := h.rP.of_block (hb.block _ h.rP.lt)
  rA := h.rA.of_block (hb.block _ h.rA.lt)
  bank := h.bank.below hb
  lt := h.lt
  ne := h.ne
  sz := Nat.le_trans h.sz hb.size
theorem PB.alloc (h : PB w base bP bA N V X) (o : Obj) : PB (w.alloc o) base bP bA N V X := h.below ((Below.refl _ _).alloc (Nat.le_refl _) o)
theorem PB.owns (h : PB w base bP bA N V X) {r : Nat} (hr : r < N + 2) : w.ownsRow base 3 1 (V r) (X r).length ((ints (X r)).map (Value.int .i64)) := by
  have := h.bank.own r hr
  rwa [List.length_map, ints_length] at this
theorem PB.ge (h : PB w base bP bA N V X) {r g : Nat} (hr : r < N + 2) (e : (V r).ownBlock = some g) : base ≤ g := ((h.owns hr).lt g e).1

/-- Row r has grown; not yet told where it is said. -/
theorem PB.grown (h : PB w base bP bA N V X) {r : Nat} (hr : r < N + 2) {v' : Value} {m : List Nat} (ho : w'.ownsRow base 3 1 v' ((X r).length + m.length) ((ints (X r)).map (Value.int .i64) ++ (ints m).map (Value.int .i64))) (hg : w.grownBy w' (V r).ownBlock) (hat : v'.ownBlock = (V r).ownBlock ∨ v'.ownBlock = some w.heap.size) :
    Bank w' base 3 (N + 2) (fun q => if q = r then v' else V q) (fun q => (ints (upX X r m q)).map (Value.int .i64)) ∧ Chg (PTurns base bP bA) w w' := by
  refine ⟨?_, hg.os, hg.tape, hg.output, hg.size, fun k hk hs => hg.block k hk fun e => hs (Or.inr (Or.inr (h.ge hr e.symm)))⟩
  have hl : ((ints (X r)).map (Value.int .i64)).length = (X r).length := by rw [List.length_map, ints_length]
  have hm : ((ints m).map (Value.int .i64)).length = m.length := by rw [List.length_map, ints_length]
  refine (h.bank.app hr (news := (ints m).map (Value.int .i64)) (by rw [hl, hm]; exact ho) hg hat).congr (fun _ _ => rfl) (fun q _ => ?_)
  unfold upX
  by_cases e : q = r
  · subst e; simp [ints, List.map_append]
  · simp [e]

theorem PB.appA (h : PB w base bP bA N V X) {u : Nat} (hu : u < N) {v' : Value} {m : List Nat} (ho : w'.ownsRow base 3 1 v' ((X (u + 2)).length + m.length) ((ints (X (u + 2))).map (Value.int .i64) ++ (ints m).map (Value.int .i64))) (hg : w.grownBy w' (V (u + 2)).ownBlock) (hat : v'.ownBlock = (V (u + 2)).ownBlock ∨ v'.ownBlock = some w.heap.size) :
    PB (w'.setCell ⟨bA, u, none⟩ v') base bP bA N (fun q => if q = u + 2 then v' else V q) (upX X (u + 2) m) ∧ Chg (PTurns base bP bA) w (w'.setCell ⟨bA, u, none⟩ v') := by
  obtain ⟨h1, h2⟩ := h.grown (show u + 2 < N + 2 by omega) ho hg hat
  have hP : w'.heap[bP]? = w.heap[bP]? := hg.block _ h.rP.lt fun e => by have := h.ge (show u + 2 < N + 2 by omega) e.symm; have := h.lt; omega
  have hA : w'.heap[bA]? = w.heap[bA]? := hg.block _ h.rA.lt fun e => by have := h.ge (show u + 2 < N + 2 by omega) e.symm; have := h.lt; omega
  refine ⟨⟨?_, ?_, h1.set h.lt.2 _ _, h.lt, h.ne, ?_⟩, h2.setCell (fun _ => Or.inr (Or.inl rfl)) _⟩
  · exact ((h.rP.of_block hP).setOther (a := ⟨bA, u, none⟩) h.ne _).congr fun i _ => by
      simp only [show ¬ (0 : Nat) = u + 2 by omega, show ¬ (1 : Nat) = u + 2 by omega, if_false]
  · exact ((h.rA.of_block hA).set u v').congr fun i _ => by
      simp only [show (i + 2 = u + 2) = (i = u) by simp]
  · rw [size_setCell]; exact Nat.le_trans h.sz hg.size

theorem PB.appP (h : PB w base bP bA N V X) {r : Nat} (hr : r < 2) {v' : Value} {m : List Nat} (ho : w'.ownsRow base 3 1 v' ((X r).length + m.length) ((ints (X r)).map (Value.int .i64) ++ (ints m).map (Value.int .i64))) (hg : w.grownBy w' (V r).ownBlock) (hat : v'.ownBlock = (V r).ownBlock ∨ v'.ownBlock = some w.heap.size) :
    PB (w'.setCell ⟨bP, r, none⟩ v') base bP bA N (fun q => if q = r then v' else V q) (upX X r m) ∧ Chg (PTurns base bP bA) w (w'.setCell ⟨bP, r, none⟩ v') := by
  obtain ⟨h1, h2⟩ := h.grown (show r < N + 2 by omega) ho hg hat
  have hP : w'.heap[bP]? = w.heap[bP]? := hg.block _ h.rP.lt fun e => by have := h.ge (show r < N + 2 by omega) e.symm; have := h.lt; omega
  have hA : w'.heap[bA]? = w.heap[bA]? := hg.block _ h.rA.lt fun e => by have := h.ge (show r < N + 2 by omega) e.symm; have := h.lt; omega
  refine ⟨⟨?_, ?_, h1.set h.lt.1 _ _, h.lt, h.ne, ?_⟩, h2.setCell (fun _ => Or.inl rfl) _⟩
  · refine ((h.rP.of_block hP).set r v').congr fun i _ => ?_
    rcases (show r = 0 ∨ r = 1 by omega) with rfl | rfl
    · match i with
      | 0 => rfl
      | 1 => rfl
      | i + 2 => simp
    · match i with
      | 0 => rfl
      | 1 => rfl
      | i + 2 => simp
  · exact ((h.rA.of_block hA).setOther (a := ⟨bP, r, none⟩) (Ne.symm h.ne) _).congr fun i _ => by
      simp only [show ¬ (i + 2 = r) by omega, if_false]
  · rw [size_setCell]; exact Nat.le_trans h.sz hg.size
end

end Go.Proofs.Ytfflnpcbpcldeaa
