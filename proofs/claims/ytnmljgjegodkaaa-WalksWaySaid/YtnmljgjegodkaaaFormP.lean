/- Edges in form: normed and in order they are the table's pairs. No program in sight. -/
import Derived.Test.YtnmljgjegodkaaaComplS
import Derived.Test.YtnmljgjegodkaaaPA
namespace Go.Proofs.Ytnmljgjegodkaaa
open Go.RowKit

theorem norm_meets (e : Int × Int) : Meets e (norm e).1 (norm e).2 := by
  unfold Meets norm
  by_cases h : e.1 ≤ e.2 <;> simp [h]
theorem meets_norm {e : Int × Int} {a b : Int} (h : Meets e a b) (hab : a < b) : norm e = (a, b) := by
  obtain ⟨x, y⟩ := e
  unfold Meets at h
  unfold norm
  simp only at *
  rcases h with ⟨rfl, rfl⟩ | ⟨rfl, rfl⟩
  · have : x ≤ y := by omega
    simp [this]
  · have : ¬ x ≤ y := by omega
    simp [this]
theorem norm_lt {e : Int × Int} (h : e.1 ≠ e.2) : (norm e).1 < (norm e).2 := by
  unfold norm
  by_cases h' : e.1 ≤ e.2
  · simp only [h', if_true]; omega
  · simp only [h', if_false]; omega
theorem norm_ends {e : Int × Int} {n : Int} (h : EndsOk n e) : EndsOk n (norm e) := by
  unfold EndsOk norm at *
  by_cases h' : e.1 ≤ e.2 <;> simp only [h', if_true, if_false] <;> omega

theorem form_mem {l : List (Int × Int)} {N : Nat} (hg : GoodGraph N l) (e : Int × Int) : e ∈ l.map norm ↔ e ∈ prsTo N (adj l) N := by
  rw [mem_prsTo, List.mem_map]
  constructor
  · rintro ⟨f, hf, rfl⟩
    obtain ⟨k, hk, rfl⟩ := List.getElem_of_mem hf
    have hfine := hg.fine k hk
    have eg : l.getD k (0, 0) = l[k] := by simp [List.getD, hk]
    have h1 := norm_ends hfine.1
    have h2 := norm_lt hfine.2.1
    rw [eg] at h1 h2
    unfold EndsOk at h1
    refine ⟨(norm l[k]).1.toNat, (norm l[k]).2.toNat, by omega, by omega, by omega, ?_, ?_⟩
    · unfold adj
      refine hasE_yes hk ?_
      rw [eg, Int.toNat_of_nonneg (by omega), Int.toNat_of_nonneg (by omega)]
      exact norm_meets _
    · rw [Int.toNat_of_nonneg (by omega), Int.toNat_of_nonneg (by omega)]
  · rintro ⟨i, j, h1, h2, h3, h4, rfl⟩
    unfold adj hasE at h4
    obtain ⟨f, hf, hm⟩ := List.any_eq_true.1 h4
    exact ⟨f, hf, meets_norm (of_decide_eq_true hm) (by omega)⟩

theorem meets_of_norm {e f : Int × Int} (h : norm e = norm f) : Meets e f.1 f.2 := by
  have h1 := norm_meets e
  rw [h] at h1
  unfold norm at h1
  by_cases h' : f.1 ≤ f.2
  · simp only [h', if_true] at h1; exact h1
  · simp only [h', if_false] at h1; unfold Meets at *; omega

theorem form_nodup {l : List (Int × Int)} {N : Int} (hg : GoodGraph N l) : (l.map norm).Nodup := by
  rw [List.Nodup, List.pairwise_map, List.pairwise_iff_getElem]
  intro i j hi hj hij e
  have hfine := (hg.fine j hj).2.2
  have ej : l.getD j (0, 0) = l[j] := by simp [List.getD, hj]
  rw [ej] at hfine
  have hi' : i < (l.take j).length := by simp; omega
  have := hasE_yes (l := l.take j) (a := l[j].1) (b := l[j].2) hi' (by
    have e' : (l.take j).getD i (0, 0) = l[i] := by simp [List.getD, hij, hi]
    rw [e']
    exact meets_of_norm e)
  rw [this] at hfine
  cases hfine

theorem form_is_prs {l L' : List (Int × Int)} {N : Nat} (hg : GoodGraph N l) (hp : L'.Perm (l.map norm)) (hs : L'.Pairwise fun a b => ¬ LexLt b a) : L' = prsTo N (adj l) N :=
  rise_uniq LexLt.irr LexLt.tr (rise_of hs (hp.nodup_iff.2 (form_nodup hg))) (prsTo_rise _ _ _) fun e => by rw [hp.mem_iff]; exact form_mem hg e

theorem adj_prs {N i j : Nat} {p : Nat → Nat → Bool} (hij : i < j) (hj : j < N) : adj (prsTo N p N) i j = p i j := by
  unfold adj
  cases h : p i j with
  | true =>
    have hm : ((i : Int), (j : Int)) ∈ prsTo N p N := mem_prsTo.2 ⟨i, j, by omega, hij, hj, h, rfl⟩
    unfold hasE
    exact List.any_eq_true.2 ⟨_, hm, by simp [Meets]⟩
  | false =>
    unfold hasE
    refine List.any_eq_false.2 fun e he hm => ?_
    obtain ⟨i', j', -, h2, -, h4, rfl⟩ := mem_prsTo.1 he
    have hm := of_decide_eq_true hm
    unfold Meets at hm
    simp only at hm
    have e1 : i' = i := by omega
    have e2 : j' = j := by omega
    rw [e1, e2, h] at h4
    cases h4

theorem good_rise {N : Nat} {L : List (Int × Int)} (hN : N ≤ 100) (hl : L.length ≤ 1000) (hr : L.Pairwise LexLt) (h : ∀ e ∈ L, 0 ≤ e.1 ∧ e.1 < e.2 ∧ e.2 < (N : Int)) : GoodGraph N L where
  lo := by omega
  hi := by omega
  len := hl
  fine := fun j hj => by
    have ej : L.getD j (0, 0) = L[j] := by simp [List.getD, hj]
    have hj' := h L[j] (List.getElem_mem hj)
    refine ⟨?_, ?_, ?_⟩
    · rw [ej]; unfold EndsOk; omega
    · rw [ej]; omega
    · refine hasE_no fun k hk hm => ?_
      have hk' : k < j := by simp at hk; omega
      have hkl : k < L.length := by omega
      have ek : (L.take j).getD k (0, 0) = L[k] := by simp [List.getD, hk', hkl]
      rw [ej, ek] at hm
      have := List.pairwise_iff_getElem.1 hr k j hkl hj hk'
      have hk2 := h L[k] (List.getElem_mem hkl)
      unfold Meets at hm
      unfold LexLt at this
      omega
theorem prs_ends {N : Nat} {p : Nat → Nat → Bool} : ∀ e ∈ prsTo N p N, 0 ≤ e.1 ∧ e.1 < e.2 ∧ e.2 < (N : Int) := fun e he => by
  obtain ⟨i, j, h1, h2, h3, -, rfl⟩ := mem_prsTo.1 he
  simp only; omega
theorem good_prs {N : Nat} {p : Nat → Nat → Bool} (hN : N ≤ 100) (hl : (prsTo N p N).length ≤ 1000) : GoodGraph N (prsTo N p N) := good_rise hN hl (prsTo_rise _ _ _) prs_ends
/-- A graph in form has as many edges as the graph. -/
theorem form_length {l : List (Int × Int)} {N : Nat} (hg : GoodGraph N l) : (prsTo N (adj l) N).length = l.length := by
  have h1 : (prsTo N (adj l) N).Perm (l.map norm) := (List.perm_ext_iff_of_nodup (rise_nodup (prsTo_rise _ _ _)) (form_nodup hg)).2 fun e => (form_mem hg e).symm
  rw [h1.length_eq, List.length_map]

end Go.Proofs.Ytnmljgjegodkaaa
