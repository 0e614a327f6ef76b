/- Edges of one's own, put in order by the library (slices.SortFunc). -/
import Derived.Sort.OwnSortedInts
import Derived.Shelf.SlSortCmp.WholeK
import Derived.Shelf.SlSortCmp.NoneTotal
import Derived.Test.YtnhhohhhpaejmaaDoorPC
import Derived.Test.YtnhhohhhpaejmaaDoorPA
namespace Go.Proofs.YtnhhohhhpaejmaaDoor
open Go.RowKit Go.Sort Go.Lib

/-- An edge's two cells. -/
def encE (e : Int × Int) : List Value := [.int .i64 e.1, .int .i64 e.2]
/-- How two edges stand to each other. -/
def cmpE (a b : Int × Int) : Int := if Lib.compareInt a.1 b.1 = 0 then Lib.compareInt a.2 b.2 else Lib.compareInt a.1 b.1
theorem cmpE_lt (a b : Int × Int) : ltOf cmpE a b = decide (LexLt a b) := by
  unfold ltOf cmpE Lib.compareInt LexLt
  by_cases h1 : a.1 < b.1
  · simp [h1]
  · by_cases h2 : b.1 < a.1
    · have : ¬ a.1 = b.1 := by omega
      simp [h1, h2, this]
    · have h3 : a.1 = b.1 := by omega
      by_cases h4 : a.2 < b.2
      · simp [h3, h4]
      · by_cases h5 : b.2 < a.2 <;> simp [h3, h4, h5]
theorem cmpE_swo : SWO (ltOf cmpE) where
  irrefl x := by rw [cmpE_lt]; exact decide_eq_false (LexLt.irr x)
  trans x y z h1 h2 := by rw [cmpE_lt] at *; exact decide_eq_true (LexLt.tr x y z (of_decide_eq_true h1) (of_decide_eq_true h2))
  ntrans x y z h1 h2 := by
    rw [cmpE_lt] at *
    have h1 := of_decide_eq_false h1; have h2 := of_decide_eq_false h2
    refine decide_eq_false ?_
    unfold LexLt at *
    omega

theorem flatE (L : List (Int × Int)) : flatK encE 2 L.toArray = (cells2 L).toArray := by
  apply ext_get!
  · simp [cells2_length]
  · intro t ht
    have ht' : t < L.toArray.size * 2 := by simpa using ht
    rw [get_flatK _ _ _ _ ht']
    have hj : t / 2 < L.length := by simp at ht'; omega
    obtain ⟨c1, c2⟩ := cells2_get L (t / 2) hj
    have e0 : L.toArray[t / 2]! = L.getD (t / 2) (0, 0) := by simp [List.getD, hj]
    have hsz : t < (cells2 L).length := by rw [cells2_length]; omega
    have ex : (cells2 L).toArray[t]! = ((cells2 L)[t]?).getD default := by simp [hsz]
    rw [e0, ex]
    rcases Nat.mod_two_eq_zero_or_one t with h | h
    · have : t = t / 2 * 2 := by omega
      rw [h]
      conv => rhs; rw [this, c1]
      rfl
    · have : t = t / 2 * 2 + 1 := by omega
      rw [h]
      conv => rhs; rw [this, c2]
      rfl

theorem OwnE.holds {w : World} {base g cap : Nat} {L : List (Int × Int)} (h : OwnE w base (.slice (some ⟨g, 0, none⟩) L.length cap) L) : HoldsK encE 2 w g 0 L.toArray := by
  unfold HoldsK
  rw [flatE]
  have h0 : w.ownsRow base 39 2 (.slice (some ⟨g, 0, none⟩) L.length cap) L.length (cells2 L) := h
  rcases h0.2 with ⟨h1, _⟩ | ⟨g', cap', cur, e, hb, hgg, h3, h4, h5, h6⟩
  · cases h1
  · simp only [Value.slice.injEq, Option.some.injEq, Addr.mk.injEq, and_true, true_and] at e
    obtain ⟨rfl, rfl⟩ := e
    intro j hj
    have hj' : j < (cells2 L).length := by simpa using hj
    refine ⟨?_, by simp [World.frozen?, hgg]⟩
    have h1 : (cur.toList.take (L.length * 2))[j]? = (cells2 L)[j]? := by rw [h6]
    rw [List.getElem?_take_of_lt (by rw [cells2_length] at hj'; exact hj')] at h1
    simp only [World.cell?, hgg, Nat.zero_add, Option.isSome_none, Bool.false_eq_true, if_false]
    rw [← Array.getElem?_toList, h1]
    simp [hj']

theorem OwnE.sorted {w : World} {base g cap : Nat} {L L' : List (Int × Int)} (h : OwnE w base (.slice (some ⟨g, 0, none⟩) L.length cap) L) (hl : L'.length = L.length) (n : Nat) (os : Array Obj) :
    OwnE (sortWorldK encE 2 w g 0 n L'.toArray os) base (.slice (some ⟨g, 0, none⟩) L.length cap) L' ∧ w.grownBy (sortWorldK encE 2 w g 0 n L'.toArray os) (some g) := by
  have h0 : w.ownsRow base 39 2 (.slice (some ⟨g, 0, none⟩) L.length cap) L.length (cells2 L) := h
  rcases h0.2 with ⟨h1, _⟩ | ⟨g', cap', cur, e, hb, hgg, h3, h4, h5, h6⟩
  · cases h1
  · simp only [Value.slice.injEq, Option.some.injEq, Addr.mk.injEq, and_true, true_and] at e
    obtain ⟨rfl, rfl⟩ := e
    have hg : g < w.heap.size := (Array.getElem?_eq_some_iff.1 hgg).1
    have hh : (sortWorldK encE 2 w g 0 n L'.toArray os).heap[g]? = some (.cells (putCells id 0 (cells2 L').toArray cur) 39 (0, 0)) := by
      unfold sortWorldK putRowK
      rw [flatE, heap_grow_old _ _ (by simpa using hg)]
      simp [putRow, mapBlock, Sort.ahead, Array.getElem?_modify, hgg, onCells]
    have hsz : (cells2 L').length ≤ cur.size := by rw [cells2_length, h5]; omega
    refine ⟨⟨cells2_length L', Or.inr ⟨g, cap, _, by rw [hl], hb, hh, by omega, h4, by simp [putCells, h5], ?_⟩⟩, ?_⟩
    · rw [← cells2_length]
      apply List.ext_getElem?
      intro j
      by_cases hj : j < (cells2 L').length
      · rw [List.getElem?_take_of_lt hj, Array.getElem?_toList]
        simp [putCells, hj, show j < cur.size by omega]
      · rw [List.getElem?_take_eq_none (by omega), List.getElem?_eq_none (by omega)]
    · refine ⟨rfl, rfl, rfl, by unfold sortWorldK putRowK; simp, fun k hk hne => ?_⟩
      unfold sortWorldK putRowK
      rw [heap_grow_old _ _ (by simpa using hk)]
      have : g ≠ k := fun e => hne (by rw [e])
      simp [putRow, mapBlock, Sort.ahead, Array.getElem?_modify, this]

/-- What the library's sort has made of a list. -/
theorem sorted_list {L : List (Int × Int)} {d' : Array (Int × Int)} (hp : PermIn 0 L.toArray.size L.toArray d') (hs : SortedIn (ltOf cmpE) 0 L.toArray.size d') :
    ∃ L' : List (Int × Int), d' = L'.toArray ∧ L'.length = L.length ∧ L'.Perm L ∧ L'.Pairwise fun a b => ¬ LexLt b a := by
  obtain ⟨h1, -, h3⟩ := hp
  refine ⟨d'.toList, by simp, by simpa using h1, ?_, ?_⟩
  · have e1 : (d'.extract 0 L.toArray.size) = d' := by rw [← h1]; simp
    have e2 : (L.toArray.extract 0 L.toArray.size) = L.toArray := by simp
    rw [e1, e2] at h3
    simpa using h3
  · rw [List.pairwise_iff_getElem]
    intro i j hi hj hij
    have hz : d'.size = L.toArray.size := h1
    have hi' : i < d'.size := by simpa using hi
    have hj' : j < d'.size := by simpa using hj
    have := hs i j (Nat.zero_le _) hij (by rw [← hz]; exact hj')
    rw [cmpE_lt] at this
    have := of_decide_eq_false this
    simpa [getElem!_pos, hi', hj'] using this

end Go.Proofs.YtnhhohhhpaejmaaDoor
