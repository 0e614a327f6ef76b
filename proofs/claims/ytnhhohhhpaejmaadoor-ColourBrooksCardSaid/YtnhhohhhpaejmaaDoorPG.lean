/- Brooks: what follows where a graph is of neither kind; plain. No program in sight. Brooks: the law's own words for the kinds; plain. No program in sight. -/
import Derived.Test.YtnhhohhhpaejmaaDoorPN
import Derived.Test.YtnhhohhhpaejmaaDoorPH
import Derived.Test.YtnhhohhhpaejmaaDoorPI
import Derived.Test.YtnhhohhhpaejmaaDoorPT
import Derived.Test.YtnhhohhhpaejmaaDoorPA
namespace Go.Proofs.YtnhhohhhpaejmaaDoor
open Go.RowKit

/-- The greatest number of neighbours. -/
def mostN (l : List (Int × Int)) (N : Nat) : Nat := maxC (fun v => (nbrs l N v).length) N
/-- Of the kind that is left out: not one component, or all edges, or a ring of an odd number. -/
def KindB (N : Nat) (l : List (Int × Int)) : Prop := (compsL N (adj l)).length ≠ 1 ∨ l.length = N * (N - 1) / 2 ∨ (mostN l N = 2 ∧ l.length = N ∧ N % 2 = 1)
theorem maxC_has (f : Nat → Nat) : ∀ n, 0 < maxC f n → ∃ k, k < n ∧ f k = maxC f n
  | 0, h => absurd h (Nat.lt_irrefl _)
  | n + 1, h => by
    unfold maxC at h ⊢
    split
    · exact ⟨n, by omega, rfl⟩
    · rename_i h1
      rw [if_neg h1] at h
      obtain ⟨k, hk, e⟩ := maxC_has f n h
      exact ⟨k, by omega, e⟩
section
variable {N : Nat} {l : List (Int × Int)}
theorem nbrs_nr (hg : GoodGraph N l) : NrOk N (adj l) (nbrs l N) where
  sym := (good_gr hg).sym
  irr := (good_gr hg).irr
  mem v w _ := by unfold nbrs; rw [List.mem_filter, List.mem_range]
  nd v _ := List.Nodup.sublist List.filter_sublist List.nodup_range
theorem nbrs_le (hN : N ≤ 100) (v : Nat) : (nbrs l N v).length ≤ 100 := by
  have := List.length_filter_le (adj l v) (List.range N)
  rw [List.length_range] at this
  exact Nat.le_trans this hN
theorem comps_one (hg : GoodGraph N l) (h : (compsL N (adj l)).length = 1) : 0 < N ∧ ∀ u v, u < N → v < N → Rch N (adj l) (fun _ => false) u v := by
  have hG := good_gr hg
  rw [List.length_map] at h
  obtain ⟨a, ha⟩ := List.length_eq_one_iff.1 h
  have haN : a < N := (lds_mem.1 (by rw [ha]; simp : a ∈ lds (conB N (adj l)) N)).1
  have key : ∀ v, v < N → Rch N (adj l) (fun _ => false) a v := fun v hv => by
    obtain ⟨u, hu, he⟩ := lead_ex con_pre hv
    rw [ha, List.mem_singleton] at hu
    subst hu
    rw [con_eqv hG.sym haN] at he
    exact rchB_iff.1 he
  exact ⟨by omega, fun u v hu hv => (rch_sym hG.sym haN (key u hu)).trans (key v hv)⟩
theorem not_full (hg : GoodGraph N l) (h : l.length ≠ N * (N - 1) / 2) : ∃ u v, u < N ∧ v < N ∧ u ≠ v ∧ adj l u v = false := by
  refine Classical.byContradiction fun hn => h ?_
  have hall : ∀ i j, i < N → j < N → i ≠ j → adj l i j = true := fun i j hi hj hne => by
    cases e : adj l i j
    · exact absurd ⟨i, j, hi, hj, hne, e⟩ hn
    · rfl
  have h1 := prsTo_len_not (adj l) N
  have h2 : (prsTo N (fun i j => !adj l i j) N) = [] := List.eq_nil_iff_forall_not_mem.2 fun e he => by
    obtain ⟨i, j, a1, a2, a3, a4, -⟩ := mem_prsTo.1 he
    rw [hall i j a1 a3 (by omega)] at a4
    cases a4
  rw [h2, form_length hg] at h1
  simp only [List.length_nil, Nat.add_zero] at h1
  omega
theorem deg_two (hg : GoodGraph N l) : sumN N (fun v => (nbrs l N v).length) = 2 * l.length := by
  have := (deg_all hg l.length (Nat.le_refl _)).2
  rw [List.take_length] at this
  exact this
theorem most_le (v : Nat) (hv : v < N) : (nbrs l N v).length ≤ mostN l N := maxC_le (fun v => (nbrs l N v).length) N v hv
theorem most_two (hg : GoodGraph N l) (h : ¬ KindB N l) : 2 ≤ mostN l N ∧ mostN l N ≤ 100 := by
  have hc := comps_one hg (Classical.byContradiction fun k => h (.inl k))
  obtain ⟨v, hv, h2⟩ := two_nb (nbrs_nr hg) hc.2 (not_full hg fun k => h (.inr (.inl k)))
  have hN : N ≤ 100 := by have := hg.hi; omega
  exact ⟨Nat.le_trans h2 (most_le v hv), maxC_top _ 100 (fun k => nbrs_le hN k) N⟩
theorem ring_kind (hg : GoodGraph N l) (h : ¬ KindB N l) (h2 : mostN l N = 2) {m : List Nat} (hr : RingOk N (adj l) m) (hodd : m.length % 2 = 1) : False := by
  have hc := comps_one hg (Classical.byContradiction fun k => h (.inl k))
  obtain ⟨e1, e2⟩ := ring_all (nbrs_nr hg) (fun v hv => by rw [← h2]; exact most_le v hv) hr.ge hr.lt hr.nd hr.on hc.2
  have h3 := deg_two hg
  have h4 : sumN N (fun v => (nbrs l N v).length) = 2 * N := by
    rw [sumN_congr (g := fun _ => 2) e2]
    have : ∀ n, sumN n (fun _ => 2) = 2 * n := fun n => by
      induction n with
      | zero => rfl
      | succ n ih => rw [sumN_succ, ih]; omega
    exact this N
  exact h (.inr (.inr ⟨h2, by omega, by omega⟩))
theorem side_col (hg : GoodGraph N l) {S Fr : Nat → Int} {P D R : Nat → Nat} (h : SidI N (adj l) N [] S Fr P D R) (h2 : mostN l N = 2) : ColD N (adj l) (mostN l N) S := by
  obtain ⟨h1, h3⟩ := h.proper (Nat.le_refl _)
  exact ⟨fun v hv => by have := h1 v hv; omega, h3⟩
theorem cut_node (hg : GoodGraph N l) {x : Nat} (hx : x ∈ cutsL N (blkD l N)) : x < N ∧ ∃ a b, a < N ∧ b < N ∧ adj l x a = true ∧ adj l x b = true ∧ ¬ Rch N (adj l) (shutO x) a b := by
  have hG := good_gr hg
  rw [cutsL_ok hG (blkD_ok hg).1] at hx
  obtain ⟨hxN, hc⟩ := List.mem_filter.1 hx
  rw [List.mem_range] at hxN
  have hlt : partsF N (adj l) (fun _ => false) < partsF N (adj l) (shut1 x) := of_decide_eq_true hc
  refine ⟨hxN, Classical.byContradiction fun hn => ?_⟩
  have := parts_shut_le hG hxN fun a b ha hb => Classical.byContradiction fun hr => hn ⟨a, b, ha.2.1, hb.2.1, ha.2.2, hb.2.2, hr⟩
  omega
theorem no_cut (hg : GoodGraph N l) (h : cutsL N (blkD l N) = []) (hc : ∀ u v, u < N → v < N → Rch N (adj l) (fun _ => false) u v) : ∀ x, x < N → ∀ u v, u < N → v < N → u ≠ x → v ≠ x → Rch N (adj l) (shutO x) u v := by
  have hG := good_gr hg
  intro x hx
  have hnc : ∀ a b, AG N (adj l) x a → AG N (adj l) x b → Rch N (adj l) (shut1 x) a b := fun a b ha hb => Classical.byContradiction fun hr => by
    have h1 := parts_shut_lt hG hx ha hb hr
    have : x ∈ cutsL N (blkD l N) := by
      rw [cutsL_ok hG (blkD_ok hg).1]
      exact List.mem_filter.2 ⟨List.mem_range.2 hx, decide_eq_true h1⟩
    rw [h] at this; cases this
  intro u v hu hv hux hvx
  show Rch N (adj l) (shut1 x) u v
  rcases rch_avoid hux (hc u v hu hv) with ⟨-, k⟩ | ⟨a, ha, ka⟩
  · exact k
  · rcases rch_avoid hvx (hc v u hv hu) with ⟨-, k⟩ | ⟨b, hb, kb⟩
    · exact rch_symS hG.sym (shut1_ne hvx) k
    · have hax : AG N (adj l) x a := ⟨ha.2.1, ha.1, by rw [hG.sym _ _ ha.2.1 ha.1]; exact ha.2.2⟩
      have hbx : AG N (adj l) x b := ⟨hb.2.1, hb.1, by rw [hG.sym _ _ hb.2.1 hb.1]; exact hb.2.2⟩
      exact (ka.trans (hnc a b hax hbx)).trans (rch_symS hG.sym (shut1_ne hvx) kb)
/-- A node and two of its neighbours that serve. -/
def HitB (N : Nat) (G : Nat → Nat → Bool) (v a b : Nat) : Prop := G a b = false ∧ ∀ u, u < N → u ≠ a → u ≠ b → Rch N G (shutT a b) v u
theorem hit_swap (hs : ∀ a b, a < N → b < N → adj l a b = adj l b a) {v a b : Nat} (ha : a < N) (hb : b < N) (h : HitB N (adj l) v a b) : HitB N (adj l) v b a := by
  refine ⟨by rw [hs _ _ hb ha]; exact h.1, fun u hu h1 h2 => ?_⟩
  have e : shutT b a = shutT a b := by funext q; simp only [shutT]; exact Bool.or_comm _ _
  rw [e]; exact h.2 u hu h2 h1
theorem hit_ex (hg : GoodGraph N l) (h : ¬ KindB N l) (h3 : 3 ≤ mostN l N) (hreg : ∀ v, v < N → (nbrs l N v).length = mostN l N) (hcut : cutsL N (blkD l N) = []) :
    ∃ v, v < N ∧ ∃ i, i < (nbrs l N v).length ∧ ∃ q, q < i ∧ HitB N (adj l) v ((nbrs l N v).getD i 0) ((nbrs l N v).getD q 0) := by
  have hX := nbrs_nr hg
  have hc := comps_one hg (Classical.byContradiction fun k => h (.inl k))
  obtain ⟨v, a, b, hv, ha, hb, h1, h2, hab, hGab, hall⟩ := fork_ex hX.sym hX.irr (fun d hd x y => three_nb hX hd (by rw [hreg d hd]; exact h3) x y) (no_cut hg hcut hc.2) hc.2 (not_full hg fun k => h (.inr (.inl k)))
  obtain ⟨i, hi, ei⟩ := List.getElem_of_mem ((hX.mem v a hv).2 ⟨ha, h1⟩)
  obtain ⟨j, hj, ej⟩ := List.getElem_of_mem ((hX.mem v b hv).2 ⟨hb, h2⟩)
  have ei' : (nbrs l N v).getD i 0 = a := by rw [List.getD, List.getElem?_eq_getElem hi, Option.getD_some, ei]
  have ej' : (nbrs l N v).getD j 0 = b := by rw [List.getD, List.getElem?_eq_getElem hj, Option.getD_some, ej]
  have hij : i ≠ j := fun e => by subst e; exact hab (ei'.symm.trans ej')
  rcases Nat.lt_or_gt_of_ne hij with k | k
  · exact ⟨v, hv, j, hj, i, k, by rw [ei', ej']; exact hit_swap hX.sym ha hb ⟨hGab, hall⟩⟩
  · exact ⟨v, hv, i, hi, j, k, by rw [ei', ej']; exact ⟨hGab, hall⟩⟩
end
end Go.Proofs.YtnhhohhhpaejmaaDoor
namespace Go.Proofs.YtnhhohhhpaejmaaDoor
open Go.RowKit

/-- How many least nodes there are. -/
theorem lds_partsB {N : Nat} {G : Nat → Nat → Bool} (hG : Gr N G) : (lds (conB N G) N).length = partsF N G (fun _ => false) := by
  have e : (lds (conB N G) N).length = cntN N (ldB (conB N G)) := rfl
  unfold partsF
  rw [e, cnt_eq]
  refine cntN_congr fun v hv => ?_
  rw [Bool.eq_iff_iff, leadB_iff]
  unfold ldB Lead
  simp only [Bool.not_eq_true', List.any_eq_false, List.mem_range]
  constructor
  · intro h
    refine ⟨trivial, fun u hu _ hr => ?_⟩
    have := h u hu
    rw [con_eqv hG.sym (by omega)] at this
    exact this (rchB_iff.2 hr)
  · rintro ⟨-, h⟩ u hu he
    rw [con_eqv hG.sym (by omega)] at he
    exact h u hu trivial (rchB_iff.1 he)
theorem most_deg {l : List (Int × Int)} {N : Nat} : maxC (fun v => cnt (adj l v) N) N = mostN l N := by
  have e : (fun v => cnt (adj l v) N) = fun v => (nbrs l N v).length := by funext v; rw [cnt_eq]; rfl
  unfold mostN; rw [e]
theorem kind_iff {l : List (Int × Int)} {N : Nat} (hg : GoodGraph N l) : KindB N l ↔ (partsF N (adj l) (fun _ => false) ≠ 1 ∨ l.length = N * (N - 1) / 2 ∨ (N % 2 = 1 ∧ l.length = N ∧ mostN l N = 2)) := by
  have h1 : (compsL N (adj l)).length = partsF N (adj l) (fun _ => false) := by rw [List.length_map]; exact lds_partsB (good_gr hg)
  unfold KindB
  rw [h1]
  constructor
  · rintro (h | h | ⟨a, b, c⟩)
    · exact .inl h
    · exact .inr (.inl h)
    · exact .inr (.inr ⟨c, b, a⟩)
  · rintro (h | h | ⟨a, b, c⟩)
    · exact .inl h
    · exact .inr (.inl h)
    · exact .inr (.inr ⟨c, b, a⟩)

end Go.Proofs.YtnhhohhhpaejmaaDoor
