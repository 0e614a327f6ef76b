/- Lists in order, by a number: plain. No program in sight. The world behind a sort of a row. No program in sight. -/
import Derived.Test.YtnhhohhhpaejmaaPA
import Derived.Shelf.SlSortCmp.Whole1
namespace Go.Proofs.Ytnhhohhhpaejmaa
open Go.RowKit Go.Sort

/-- How two lists stand. -/
def cmpI : List Int → List Int → Int
  | [], [] => 0
  | [], _ :: _ => -1
  | _ :: _, [] => 1
  | a :: l, b :: m => if Lib.compareInt a b = 0 then cmpI l m else Lib.compareInt a b
def cmpN (a b : List Nat) : Int := cmpI (ints a) (ints b)
theorem cmpI_neg : ∀ a b : List Nat, cmpN a b < 0 ↔ LstLt a b
  | [], [] => by simp [cmpN, ints, cmpI, LstLt]
  | [], _ :: _ => by simp [cmpN, ints, cmpI, LstLt]
  | _ :: _, [] => by simp [cmpN, ints, cmpI, LstLt]
  | a :: l, b :: m => by
    have ih := cmpI_neg l m
    unfold cmpN at ih ⊢
    simp only [ints, List.map_cons, cmpI, LstLt] at ih ⊢
    unfold Lib.compareInt
    by_cases h1 : a < b
    · have : (a : Int) < (b : Int) := by omega
      simp [h1, this]
    · by_cases h2 : b < a
      · have e1 : ¬ (a : Int) < (b : Int) := by omega
        have e2 : (a : Int) > (b : Int) := by omega
        have e3 : a ≠ b := by omega
        simp [h1, e1, e2, e3]
      · obtain rfl : a = b := by omega
        simp [ih]
instance decLst (a b : List Nat) : Decidable (LstLt a b) := decidable_of_iff _ (cmpI_neg a b)
theorem ltOf_cmpN (a b : List Nat) : ltOf cmpN a b = decide (LstLt a b) := by
  have := cmpI_neg a b
  unfold ltOf
  by_cases h : LstLt a b
  · simp [h, this.2 h]
  · simp [h]; exact Int.not_lt.1 fun h2 => h (this.1 h2)
theorem cmpN_swo : SWO (ltOf cmpN) where
  irrefl x := by rw [ltOf_cmpN]; simp [LstLt.irr]
  trans x y z h1 h2 := by rw [ltOf_cmpN] at *; simp only [decide_eq_true_eq] at *; exact LstLt.tr _ _ _ h1 h2
  ntrans x y z h1 h2 := by
    rw [ltOf_cmpN] at *
    simp only [decide_eq_false_iff_not] at *
    intro h3
    rcases LstLt.tri x y with h | h | h
    · exact h1 h
    · subst h; exact h2 h3
    · exact h2 (LstLt.tr _ _ _ h h3)
/-- What is in order, and without two alike, rises. -/
theorem rises {L : List (List Nat)} (h : L.Pairwise fun a b => ¬ LstLt b a) (hn : L.Nodup) : L.Pairwise LstLt := by
  refine (List.Pairwise.and h hn).imp fun ⟨h1, h2⟩ => ?_
  rcases LstLt.tri _ _ with k | k | k
  · exact k
  · exact absurd k h2
  · exact absurd k h1

theorem cmpI_at {L M : List Int} {k : Nat} (h1 : k < L.length) (h2 : k < M.length) : cmpI (L.drop k) (M.drop k) = if Lib.compareInt (L.getD k 0) (M.getD k 0) = 0 then cmpI (L.drop (k + 1)) (M.drop (k + 1)) else Lib.compareInt (L.getD k 0) (M.getD k 0) := by
  rw [List.drop_eq_getElem_cons h1, List.drop_eq_getElem_cons h2]
  have e1 : L.getD k 0 = L[k] := by rw [List.getD, List.getElem?_eq_getElem h1]; rfl
  have e2 : M.getD k 0 = M[k] := by rw [List.getD, List.getElem?_eq_getElem h2]; rfl
  rw [e1, e2]; rfl
theorem cmpI_long {L M : List Int} {k : Nat} (h1 : k < L.length) (h2 : M.length ≤ k) : cmpI (L.drop k) (M.drop k) = 1 := by
  rw [List.drop_eq_getElem_cons h1, List.drop_eq_nil_of_le h2]; rfl
theorem cmpI_end {L M : List Int} {k : Nat} (h1 : L.length = k) (h2 : k ≤ M.length) : cmpI (L.drop k) (M.drop k) = if k < M.length then -1 else 0 := by
  rw [List.drop_eq_nil_of_le (by omega)]
  by_cases h : k < M.length
  · rw [List.drop_eq_getElem_cons h, if_pos h]; rfl
  · rw [List.drop_eq_nil_of_le (by omega), if_neg h]; rfl
theorem getD_ints (X : List (List Nat)) (j : Nat) : (X.map ints).getD j [] = ints (X.getD j []) := by
  rw [List.getD, List.getD, List.getElem?_map]
  cases X[j]? <;> rfl
end Go.Proofs.Ytnhhohhhpaejmaa
namespace Go.Proofs.Ytnhhohhhpaejmaa
open Go.RowKit Go.Sort

section
variable {α : Type} [Inhabited α]
theorem heap_sorted1 {w : World} {g n : Nat} {os : Array Obj} {cur : Array Value} {e : TypeId} {fr : Nat × Nat} (enc : α → Value) (d : Array α) (hb : w.heap[g]? = some (.cells cur e fr)) :
    (sortWorld enc w g 0 n d os).heap[g]? = some (.cells (putCells enc 0 d cur) e fr) := by
  have hg : g < w.heap.size := (Array.getElem?_eq_some_iff.1 hb).1
  unfold sortWorld
  rw [heap_grow_old _ _ (by simpa using hg)]
  simp [putRow, mapBlock, Sort.ahead, Array.getElem?_modify, hb, onCells]
theorem grownBy_sorted1 {w : World} {g n : Nat} {os : Array Obj} (enc : α → Value) (d : Array α) : w.grownBy (sortWorld enc w g 0 n d os) (some g) := by
  unfold sortWorld
  refine ⟨rfl, rfl, rfl, by simp, fun k hk hne => ?_⟩
  rw [heap_grow_old _ _ (by simpa using hk)]
  have : g ≠ k := fun e => hne (by rw [e])
  simp [putRow, mapBlock, Sort.ahead, Array.getElem?_modify, this]
end

end Go.Proofs.Ytnhhohhhpaejmaa
