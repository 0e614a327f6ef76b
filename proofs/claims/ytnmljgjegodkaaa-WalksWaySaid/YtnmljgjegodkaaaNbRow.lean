/- A table of rows of one's own, in memory: rows grow. No library's sort. -/
import Derived.Test.YtnmljgjegodkaaaPB
import Derived.Test.YtnmljgjegodkaaaNbrs
import Derived.Test.YtnmljgjegodkaaaPA
namespace Go.Proofs.Ytnmljgjegodkaaa
open Go.RowKit

/-- The cells of a list of nodes. -/
abbrev nvals (l : List Nat) : List Value := (ints l).map (Value.int .i64)
theorem nvals_length (l : List Nat) : (nvals l).length = l.length := by simp [nvals, ints]
/-- Row r has grown. -/
def growN (X : Nat → List Nat) (r : Nat) (m : List Nat) : Nat → List Nat := fun q => if q = r then X r ++ m else X q
/-- Row r is another one. -/
def putN (X : Nat → List Nat) (r : Nat) (m : List Nat) : Nat → List Nat := fun q => if q = r then m else X q

/-- N rows, in a table. -/
structure NB (w : World) (B N : Nat) (V : Nat → Value) (X : Nat → List Nat) : Prop where
  ro : w.rowIs B 29 N V
  bk : Bank w (B + 1) 3 N V (fun r => nvals (X r))
section
variable {w w' : World} {B N : Nat} {V : Nat → Value} {X : Nat → List Nat}
theorem NB.below (h : NB w B N V X) (hb : Below w.heap.size w w') : NB w' B N V X := ⟨h.ro.of_block (hb.block _ h.ro.lt), h.bk.below hb⟩
theorem NB.form (h : NB w B N V X) {r : Nat} (hr : r < N) : ∃ a c, V r = .slice a (X r).length c := by
  have := h.bk.own r hr
  rw [nvals_length] at this
  exact ownsRow_form this
theorem NB.owns (h : NB w B N V X) {r : Nat} (hr : r < N) : w.ownsRow (B + 1) 3 1 (V r) (X r).length (nvals (X r)) := by
  have := h.bk.own r hr
  rwa [nvals_length] at this
theorem NB.low (h : NB w B N V X) {r : Nat} (hr : r < N) : ∀ g, (V r).ownBlock = some g → B + 1 ≤ g ∧ g < w.heap.size := fun g e => (h.bk.own r hr).lt g e
theorem NB.congr {X' : Nat → List Nat} (h : NB w B N V X) (e : ∀ r, r < N → X r = X' r) : NB w B N V X' := ⟨h.ro, h.bk.congr (fun _ _ => rfl) fun r hr => by rw [e r hr]⟩
/-- Behind 'append', ahead of the store. -/
theorem NB.mid (h : NB w B N V X) {r : Nat} (hr : r < N) (hg : w.grownBy w' (V r).ownBlock) : w'.rowIs B 29 N V :=
  h.ro.of_block (hg.block _ h.ro.lt (fun e => by have := (h.low hr _ e.symm).1; omega))
theorem NB.app (h : NB w B N V X) {r : Nat} (hr : r < N) {v' : Value} {m : List Nat} (ho : w'.ownsRow (B + 1) 3 1 v' ((X r).length + m.length) (nvals (X r) ++ nvals m)) (hg : w.grownBy w' (V r).ownBlock) (hat : v'.ownBlock = (V r).ownBlock ∨ v'.ownBlock = some w.heap.size) :
    NB (w'.setCell ⟨B, r, none⟩ v') B N (fun q => if q = r then v' else V q) (growN X r m) := by
  have hm := h.mid hr hg
  refine ⟨hm.set r v', ?_⟩
  have h1 := (h.bk.app hr (news := nvals m) (by rw [nvals_length, nvals_length]; exact ho) hg hat).set (show B < B + 1 by omega) r v'
  refine h1.congr (fun _ _ => rfl) fun q _ => ?_
  unfold growN
  by_cases e : q = r
  · simp [e, nvals, ints]
  · simp [e]
/-- Row r holds others, where it lies. -/
theorem NB.put (h : NB w B N V X) {r : Nat} (hr : r < N) {m : List Nat} (ho : w'.ownsRow (B + 1) 3 1 (V r) m.length (nvals m)) (hg : w.grownBy w' (V r).ownBlock) : NB w' B N V (putN X r m) := by
  refine ⟨h.mid hr hg, ⟨fun q hq => ?_, h.bk.sep⟩⟩
  unfold putN
  by_cases e : q = r
  · subst e; simp only [if_true]; rw [nvals_length]; exact ho
  · simp only [if_neg e]
    refine (h.bk.own q hq).kept hg ?_
    cases hv : (V q).ownBlock with
    | none => exact Or.inl rfl
    | some g => exact Or.inr (fun e2 => h.bk.sep q r hq hr e g hv e2.symm)
theorem NB.rows (h : NB w B N V X) (hN : N ≤ 100) {Y : List (List Int)} (hY : Y = (List.range N).map fun r => ints (X r)) : IsRows w (.slice (some ⟨B, 0, none⟩) N N) Y := by
  subst hY
  have hl : ((List.range N).map fun r => ints (X r)).length = N := by simp
  refine ⟨some ⟨B, 0, none⟩, N, B, 0, by rw [hl], by rw [hl]; omega, by omega, fun _ => rfl, by simp, fun j hj => ?_⟩
  rw [hl] at hj
  refine ⟨V j, by rw [Nat.zero_add]; exact h.ro.cell hj, ?_⟩
  have e : ((List.range N).map fun r => ints (X r)).getD j [] = ints (X j) := by simp [List.getD, hj]
  rw [e]
  exact IsInts.owned (h.owns hj)
end

end Go.Proofs.Ytnmljgjegodkaaa
