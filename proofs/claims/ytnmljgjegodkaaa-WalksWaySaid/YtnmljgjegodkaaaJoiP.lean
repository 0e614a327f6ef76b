/- Do all edges hang together; how many nodes have an odd number of edges: plain. No program in sight. -/
import Derived.Test.YtnmljgjegodkaaaPA
import Derived.Test.YtnmljgjegodkaaaGrGood
import Derived.Test.YtnmljgjegodkaaaRCompW
import Derived.Test.YtnmljgjegodkaaaTraM
namespace Go.Proofs.Ytnmljgjegodkaaa
open Go.RowKit

/-- All edges hang together. -/
def HangE (N : Nat) (G : Nat → Nat → Bool) : Prop := ∀ x y a b, AG N G x y → AG N G a b → Rch N G (fun _ => false) x a
/-- How many parts have an edge. -/
noncomputable def bigC (N : Nat) (G : Nat → Nat → Bool) : Nat := ((compsL N G).filter fun c => decide (1 < c.length)).length
section
variable {N : Nat} {G : Nat → Nat → Bool}
theorem cls_mem (hG : Gr N G) {v w : Nat} (hv : v < N) : w ∈ cls N (conB N G) v ↔ w < N ∧ Rch N G (fun _ => false) v w := by
  unfold cls
  rw [List.mem_filter, List.mem_range, con_eqv hG.sym hv, rchB_iff]
theorem two_long {l : List Nat} {x y : Nat} (hx : x ∈ l) (hy : y ∈ l) (hne : x ≠ y) : 1 < l.length := by
  match l with
  | [] => cases hx
  | [a] =>
    rw [List.mem_singleton] at hx hy
    exact absurd (hx.trans hy.symm) hne
  | a :: b :: t => simp
theorem rch_first {v w : Nat} (h : Rch N G (fun _ => false) v w) (hne : w ≠ v) : ∃ z, AG N G v z := by
  induction h with
  | refl => exact absurd rfl hne
  | @step b c _ h1 h2 h3 _ ih =>
    by_cases e : b = v
    · subst e; exact ⟨c, h1, h2, h3⟩
    · exact ih e
theorem big_edge (hG : Gr N G) {v : Nat} (hv : v < N) (h : 1 < (cls N (conB N G) v).length) : ∃ z, AG N G v z := by
  have : ∃ w ∈ cls N (conB N G) v, w ≠ v := by
    refine Classical.byContradiction fun hn => ?_
    have hall : ∀ w ∈ cls N (conB N G) v, w = v := fun w hw => Classical.byContradiction fun k => hn ⟨w, hw, k⟩
    have hnd : (cls N (conB N G) v).Nodup := by unfold cls; exact List.nodup_range.filter _
    match hc : cls N (conB N G) v, h with
    | a :: b :: t, _ =>
      rw [hc] at hall hnd
      have e1 := hall a (by simp)
      have e2 := hall b (by simp)
      rw [e1, e2] at hnd
      simp at hnd
  obtain ⟨w, hw, hne⟩ := this
  exact rch_first ((cls_mem hG hv).1 hw).2 hne
theorem joined_iff (hG : Gr N G) : bigC N G < 2 ↔ HangE N G := by
  have hs := hG.sym
  have hbig : 1 < bigC N G ↔ ∃ i j, i < j ∧ j < (lds (conB N G) N).length ∧ 1 < (cls N (conB N G) ((lds (conB N G) N).getD i 0)).length ∧ 1 < (cls N (conB N G) ((lds (conB N G) N).getD j 0)).length := by
    unfold bigC
    rw [filter_two (d := [])]
    simp only [List.length_map, decide_eq_true_eq]
    constructor
    · rintro ⟨i, j, h1, h2, h3, h4⟩
      refine ⟨i, j, h1, h2, ?_, ?_⟩
      · have : ((lds (conB N G) N).map (cls N (conB N G))).getD i [] = cls N (conB N G) ((lds (conB N G) N).getD i 0) := by simp [List.getD, List.getElem?_eq_getElem (show i < (lds (conB N G) N).length by omega)]
        rwa [this] at h3
      · have : ((lds (conB N G) N).map (cls N (conB N G))).getD j [] = cls N (conB N G) ((lds (conB N G) N).getD j 0) := by simp [List.getD, List.getElem?_eq_getElem h2]
        rwa [this] at h4
    · rintro ⟨i, j, h1, h2, h3, h4⟩
      refine ⟨i, j, h1, h2, ?_, ?_⟩
      · have : ((lds (conB N G) N).map (cls N (conB N G))).getD i [] = cls N (conB N G) ((lds (conB N G) N).getD i 0) := by simp [List.getD, List.getElem?_eq_getElem (show i < (lds (conB N G) N).length by omega)]
        rwa [this]
      · have : ((lds (conB N G) N).map (cls N (conB N G))).getD j [] = cls N (conB N G) ((lds (conB N G) N).getD j 0) := by simp [List.getD, List.getElem?_eq_getElem h2]
        rwa [this]
  have hrise : (lds (conB N G) N).Pairwise (· < ·) := List.pairwise_lt_range.filter _
  have hld : ∀ i, i < (lds (conB N G) N).length → (lds (conB N G) N).getD i 0 < N ∧ ldB (conB N G) ((lds (conB N G) N).getD i 0) = true := fun i hi => lds_mem.1 (getD_mem hi)
  constructor
  · intro h x y a b hxy hab
    refine Classical.byContradiction fun hno => ?_
    have : 1 < bigC N G := by
      rw [hbig]
      have key : ∀ x y, AG N G x y → ∃ i, i < (lds (conB N G) N).length ∧ 1 < (cls N (conB N G) ((lds (conB N G) N).getD i 0)).length ∧ Rch N G (fun _ => false) ((lds (conB N G) N).getD i 0) x := by
        intro x y hxy
        obtain ⟨u, hu, he⟩ := lead_ex (con_pre (N := N) (G := G)) hxy.1
        have hu2 := lds_mem.1 hu
        rw [con_eqv hs hu2.1] at he
        have hr := rchB_iff.1 he
        obtain ⟨i, hi, e⟩ := mem_getD (d := 0) hu
        refine ⟨i, hi, ?_, by rw [e]; exact hr⟩
        rw [e]
        refine two_long ((cls_mem hG hu2.1).2 ⟨hxy.1, hr⟩) ((cls_mem hG hu2.1).2 ⟨hxy.2.1, hr.trans (.step .refl hxy.1 hxy.2.1 hxy.2.2 rfl)⟩) fun k => ?_
        have := hG.irr x hxy.1
        rw [k] at hxy
        have := hxy.2.2
        rw [hG.irr y hxy.1] at this
        cases this
      obtain ⟨i, hi, h1, h2⟩ := key x y hxy
      obtain ⟨j, hj, h3, h4⟩ := key a b hab
      have hij : i ≠ j := fun k => by
        subst k
        exact hno ((rch_symS hs rfl h2).trans h4)
      rcases Nat.lt_or_gt_of_ne hij with k | k
      · exact ⟨i, j, k, hj, h1, h3⟩
      · exact ⟨j, i, k, hi, h3, h1⟩
    omega
  · intro h
    refine Classical.byContradiction fun hno => ?_
    obtain ⟨i, j, h1, h2, h3, h4⟩ := hbig.1 (by omega)
    obtain ⟨p1, p2⟩ := hld i (by omega)
    obtain ⟨q1, q2⟩ := hld j h2
    obtain ⟨z, hz⟩ := big_edge hG p1 h3
    obtain ⟨t, ht⟩ := big_edge hG q1 h4
    have hr := h _ _ _ _ hz ht
    have hlt : (lds (conB N G) N).getD i 0 < (lds (conB N G) N).getD j 0 := by
      have e1 : (lds (conB N G) N).getD i 0 = (lds (conB N G) N)[i] := by rw [List.getD, List.getElem?_eq_getElem (show i < (lds (conB N G) N).length by omega)]; rfl
      have e2 : (lds (conB N G) N).getD j 0 = (lds (conB N G) N)[j] := by rw [List.getD, List.getElem?_eq_getElem h2]; rfl
      rw [e1, e2]
      exact List.pairwise_iff_getElem.1 hrise i j (by omega) h2 h1
    have := (con_pre (N := N) (G := G)).ge q2 hlt
    rw [con_eqv hs q1] at this
    have h9 : conB N G ((lds (conB N G) N).getD j 0) ((lds (conB N G) N).getD i 0) = true := rchB_iff.2 (rch_symS hs rfl hr)
    rw [h9] at this
    cases this
end

/-- The parity of a sum is that of the number of its odd members. -/
theorem sum_odd (f : Nat → Nat) : ∀ n, sumN n f % 2 = cntN n (fun v => decide (f v % 2 = 1)) % 2
  | 0 => rfl
  | n + 1 => by
    rw [sumN_succ, cntN_succ]
    have := sum_odd f n
    by_cases h : f n % 2 = 1
    · simp only [h, decide_true, if_true]; omega
    · simp only [h, decide_false, Bool.false_eq_true, if_false]; omega
/-- The nodes with an odd number of edges. -/
def oddL (N : Nat) (G : Nat → Nat → Bool) : List Nat := (List.range N).filter fun v => decide (cntN N (G v) % 2 = 1)
theorem odd_even {l : List (Int × Int)} {N : Nat} (hg : GoodGraph N l) : (oddL N (adj l)).length % 2 = 0 := by
  have h1 := (deg_all hg l.length (Nat.le_refl _)).2
  rw [List.take_length] at h1
  have h2 := sum_odd (fun v => cntN N (adj l v)) N
  have h3 : (oddL N (adj l)).length = cntN N (fun v => decide (cntN N (adj l v) % 2 = 1)) := rfl
  rw [h3, ← h2, h1]
  omega
theorem rem_deg {l : List (Int × Int)} {N : Nat} (hg : GoodGraph N l) (v : Nat) : remE (edE l) l.length (fun _ => false) v = cntN N (adj l v) := by
  have h1 := (deg_all hg l.length (Nat.le_refl _)).1 v
  rw [List.take_length] at h1
  rw [h1]
  unfold remE
  refine cntN_congr fun i hi => ?_
  obtain ⟨X, Y, he, -⟩ := hg.at hi
  rw [touch_at he]
  unfold incE edE
  rw [he]
  simp only [Int.toNat_natCast, Bool.not_false, Bool.true_and]
  rw [Bool.eq_iff_iff]
  simp
  omega

end Go.Proofs.Ytnmljgjegodkaaa
