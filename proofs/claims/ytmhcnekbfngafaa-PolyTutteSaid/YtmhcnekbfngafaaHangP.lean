/- Do two nodes hang together by edges: gone over the edges until nothing is new: plain. No program in sight. -/
import Derived.Test.YtmhcnekbfngafaaTutP
import Derived.Test.YtmhcnekbfngafaaRch
namespace Go.Proofs.Ytmhcnekbfngafaa
open Go Go.RowKit

/-- A pass under way: k edges have been gone over. -/
structure HgP (N : Nat) (c : Nat → Nat) (L : EL) (a : Nat) (I0 I : Nat → Bool) (ag : Bool) (k : Nat) : Prop where
  has : I (c a) = true
  con : ∀ v, I v = true → v < N ∧ foldN c L v = foldN c L a
  old : cnt I0 N ≤ cnt I N
  more : ag = true → cnt I0 N < cnt I N
  same : ag = false → ∀ j, j < k → I (c (L.getD j (0, 0)).1) = I (c (L.getD j (0, 0)).2)
section
variable {N : Nat} {c : Nat → Nat} {L : EL} {a : Nat} {I0 I : Nat → Bool} {ag : Bool} {k : Nat} (hc : Canon N c) (hL : ∀ x ∈ L, x.1 < N ∧ x.2 < N)
theorem fold_root (hc : Canon N c) {v : Nat} (hv : v < N) : foldN c L (c v) = foldN c L v := fold_keeps L c _ _ (hc.top v hv)
include hc in
theorem HgP.init (ha : a < N) : HgP N c L a (fun v => decide (v = c a)) (fun v => decide (v = c a)) false 0 where
  has := by simp
  con := fun v h => by
    have := of_decide_eq_true h
    subst this
    exact ⟨hc.lt a ha, fold_root hc ha⟩
  old := Nat.le_refl _
  more := fun h => by cases h
  same := fun _ j h => by omega
theorem HgP.again (h : HgP N c L a I0 I ag k) : HgP N c L a I I false 0 :=
  ⟨h.has, h.con, Nat.le_refl _, fun h => (by cases h), fun _ j h => by omega⟩
theorem HgP.skip (h : HgP N c L a I0 I ag k) (e : I (c (L.getD k (0, 0)).1) = I (c (L.getD k (0, 0)).2)) : HgP N c L a I0 I ag (k + 1) :=
  ⟨h.has, h.con, h.old, h.more, fun h1 j hj => by
    by_cases e2 : j = k
    · subst e2; exact e
    · exact h.same h1 j (by omega)⟩
include hc hL in
theorem HgP.add (h : HgP N c L a I0 I ag k) (hk : k < L.length) (e : I (c (L.getD k (0, 0)).1) ≠ I (c (L.getD k (0, 0)).2)) :
    HgP N c L a I0 (fun v => if v = c (L.getD k (0, 0)).1 ∨ v = c (L.getD k (0, 0)).2 then true else I v) true (k + 1) := by
  have hm : L.getD k (0, 0) ∈ L := by rw [List.getD, List.getElem?_eq_getElem hk]; exact List.getElem_mem hk
  generalize L.getD k (0, 0) = x at *
  obtain ⟨h1, h2⟩ := hL x hm
  have ef := fold_edge L c x hm
  have r1 := fold_root (L := L) hc h1
  have r2 := fold_root (L := L) hc h2
  have l1 := hc.lt _ h1
  have l2 := hc.lt _ h2
  -- one of the two is in
  have key : foldN c L x.1 = foldN c L a := by
    cases e1 : I (c x.1)
    · cases e2 : I (c x.2)
      · exact absurd (e1.trans e2.symm) e
      · rw [ef, ← r2]; exact (h.con _ e2).2
    · rw [← r1]; exact (h.con _ e1).2
  have up : ∀ v, v < N → I v = true → (if v = c x.1 ∨ v = c x.2 then true else I v) = true := fun v _ hv => by split <;> simp_all
  have lt : cnt I0 N < cnt (fun v => if v = c x.1 ∨ v = c x.2 then true else I v) N := by
    refine Nat.lt_of_le_of_lt h.old ?_
    cases e1 : I (c x.1)
    · exact cnt_more up l1 e1 (by simp)
    · cases e2 : I (c x.2)
      · exact cnt_more up l2 e2 (by simp)
      · exact absurd (e1.trans e2.symm) e
  refine ⟨?_, fun v hv => ?_, Nat.le_of_lt lt, fun _ => lt, fun h => (by cases h)⟩
  · show (if _ then true else I (c a)) = true
    rw [h.has]; simp
  · by_cases e1 : v = c x.1
    · subst e1; exact ⟨l1, r1.trans key⟩
    · by_cases e2 : v = c x.2
      · subst e2; exact ⟨l2, r2.trans (ef.symm.trans key)⟩
      · simp only [e1, e2, or_self, if_false] at hv
        exact h.con v hv
theorem hg_up {x : Nat × Nat} (l1 : c x.1 < N) (l2 : c x.2 < N) (e : I (c x.1) ≠ I (c x.2)) : cnt I N < cnt (fun v => if v = c x.1 ∨ v = c x.2 then true else I v) N := by
  have up : ∀ v, v < N → I v = true → (if v = c x.1 ∨ v = c x.2 then true else I v) = true := fun v _ hv => by split <;> simp_all
  cases e1 : I (c x.1)
  · exact cnt_more up l1 e1 (by simp)
  · cases e2 : I (c x.2)
    · exact cnt_more up l2 e2 (by simp)
    · exact absurd (e1.trans e2.symm) e
theorem HgP.shut (h : HgP N c L a I0 I false k) : HgP N c L a I I false k := ⟨h.has, h.con, Nat.le_refl _, fun h => (by cases h), h.same⟩
include hc in
theorem HgP.fin (h : HgP N c L a I0 I false L.length) {b : Nat} (hb : b < N) : I (c b) = decide (Hang c L (a, b)) := by
  have hk : Keeps (foldN c L) (fun v => (I (c v)).toNat) := keeps_fold L c (fun u v e => by simp only [e]) fun e he => by
    obtain ⟨j, hj, rfl⟩ := List.getElem_of_mem he
    have := h.same rfl j hj
    rw [List.getD, List.getElem?_eq_getElem hj, Option.getD_some] at this
    simp only [this]
  rw [Bool.eq_iff_iff, decide_eq_true_eq]
  unfold Hang
  constructor
  · intro hi
    have := (h.con _ hi).2
    rw [fold_root hc hb] at this
    exact this.symm
  · intro e
    have := hk a b e
    simp only [h.has] at this
    cases e2 : I (c b)
    · rw [e2] at this; cases this
    · rfl
end

end Go.Proofs.Ytmhcnekbfngafaa
