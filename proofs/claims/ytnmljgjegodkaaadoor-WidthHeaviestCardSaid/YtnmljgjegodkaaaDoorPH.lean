/- One component just where all hang together. Plain: no program in sight. (As in MinorPlain, without a walk.) Neighbours both ways. No walk. -/
import Derived.Test.YtnmljgjegodkaaaDoorPA
import Derived.Test.YtnmljgjegodkaaaDoorPB
namespace Go.Proofs.YtnmljgjegodkaaaDoor
open Go Go.RowKit

theorem cnt_posW {I : Nat → Bool} : ∀ {n}, cnt I n ≠ 0 ↔ ∃ x, x < n ∧ I x = true
  | 0 => by simp [cnt]
  | n + 1 => by
    rw [cnt]
    constructor
    · intro h
      by_cases e : I n = true
      · exact ⟨n, by omega, e⟩
      · rw [if_neg e] at h
        obtain ⟨x, h1, h2⟩ := cnt_posW.1 h
        exact ⟨x, by omega, h2⟩
    · rintro ⟨x, h1, h2⟩
      by_cases e : x = n
      · subst e; rw [if_pos h2]; omega
      · have := cnt_posW.2 ⟨x, show x < n by omega, h2⟩
        omega
theorem cnt_twoW {I : Nat → Bool} {x y : Nat} : ∀ {n}, x < y → y < n → I x = true → I y = true → 2 ≤ cnt I n
  | 0, _, h, _, _ => absurd h (Nat.not_lt_zero _)
  | n + 1, hxy, hy, h1, h2 => by
    rw [cnt]
    by_cases e : y = n
    · subst e
      have := cnt_posW.2 ⟨x, hxy, h1⟩
      rw [if_pos h2]; omega
    · have := cnt_twoW (n := n) hxy (by omega) h1 h2
      omega
theorem cnt_oneW {I : Nat → Bool} {x : Nat} : ∀ {n}, x < n → I x = true → (∀ u, u < n → I u = true → u = x) → cnt I n = 1
  | 0, h, _, _ => absurd h (Nat.not_lt_zero _)
  | n + 1, hx, h1, h2 => by
    rw [cnt]
    by_cases e : x = n
    · subst e
      have : cnt I x = 0 := by
        rcases Nat.eq_zero_or_pos (cnt I x) with h | h
        · exact h
        · obtain ⟨u, hu, hi⟩ := cnt_posW.1 (show cnt I x ≠ 0 by omega)
          have := h2 u (by omega) hi
          omega
      rw [if_pos h1, this]
    · rw [if_neg (fun h => e (h2 n (by omega) h).symm), cnt_oneW (n := n) (by omega) h1 fun u hu hi => h2 u (by omega) hi]

/-- One component just where all hang together. -/
theorem parts_oneW {N : Nat} {G : Nat → Nat → Bool} {S : Nat → Bool} (hG : ∀ i j, G i j = G j i) : (∃ x, x < N ∧ S x = false) → (partsF N G S = 1 ↔ ∀ a b, a < N → b < N → S a = false → S b = false → Rch N G S a b) := by
  rintro ⟨x, hx, hs⟩
  have symm : ∀ a b, S a = false → Rch N G S a b → Rch N G S b a := fun a b ha h => by
    induction h with
    | refl => exact .refl
    | @step b c h1 h2 h3 h4 h5 ih => exact (Rch.step .refl h3 h2 (by rw [hG]; exact h4) (h1.free ha)).trans ih
  -- each open node is reached from the first node of its component
  have lead : ∀ n a, a ≤ n → a < N → S a = false → ∃ u, u ≤ a ∧ Lead N G S u ∧ Rch N G S u a := by
    intro n
    induction n with
    | zero =>
      intro a h0 hN ha
      obtain rfl : a = 0 := by omega
      exact ⟨0, Nat.le_refl _, ⟨ha, fun u hu => absurd hu (Nat.not_lt_zero _)⟩, .refl⟩
    | succ n ih =>
      intro a h0 hN ha
      by_cases h : ∃ u, u < a ∧ S u = false ∧ Rch N G S u a
      · obtain ⟨u, hu, hsu, hr⟩ := h
        obtain ⟨v, hv, hl, hr2⟩ := ih u (by omega) (by omega) hsu
        exact ⟨v, by omega, hl, hr2.trans hr⟩
      · exact ⟨a, Nat.le_refl _, ⟨ha, fun u hu hsu hr => h ⟨u, hu, hsu, hr⟩⟩, .refl⟩
  constructor
  · intro h1 a b ha hb hsa hsb
    obtain ⟨u, hu, hlu, hru⟩ := lead a a (Nat.le_refl _) ha hsa
    obtain ⟨v, hv, hlv, hrv⟩ := lead b b (Nat.le_refl _) hb hsb
    have e : u = v := by
      rcases Nat.lt_trichotomy u v with h | h | h
      · have := cnt_twoW (I := leadB N G S) h (show v < N by omega) (leadB_iff.2 hlu) (leadB_iff.2 hlv)
        unfold partsF at h1; omega
      · exact h
      · have := cnt_twoW (I := leadB N G S) h (show u < N by omega) (leadB_iff.2 hlv) (leadB_iff.2 hlu)
        unfold partsF at h1; omega
    subst e
    exact (symm u a hlu.1 hru).trans hrv
  · intro h
    obtain ⟨u, hu, hlu, hru⟩ := lead x x (Nat.le_refl _) hx hs
    refine cnt_oneW (x := u) (by omega) (leadB_iff.2 hlu) fun v hv hi => ?_
    have hlv := leadB_iff.1 hi
    rcases Nat.lt_trichotomy u v with h2 | h2 | h2
    · exact absurd (h u v (by omega) hv hlu.1 hlv.1) (hlv.2 u h2 hlu.1)
    · exact h2.symm
    · exact absurd (h v u hv (by omega) hlv.1 hlu.1) (hlu.2 v h2 hlv.1)

end Go.Proofs.YtnmljgjegodkaaaDoor
namespace Go.Proofs.YtnmljgjegodkaaaDoor
open Go Go.RowKit

theorem adj_sy (l : List (Int × Int)) (i j : Nat) : adj l i j = adj l j i := by
  unfold adj hasE
  congr 1
  funext e
  simp only [decide_eq_decide]
  unfold Meets
  omega
theorem adj_self {l : List (Int × Int)} (h : ∀ j, j < l.length → (l.getD j (0, 0)).1 ≠ (l.getD j (0, 0)).2) (i : Nat) : adj l i i = false := by
  cases e : adj l i i with
  | false => rfl
  | true =>
    unfold adj hasE at e
    obtain ⟨x, hx, hm⟩ := List.any_eq_true.1 e
    obtain ⟨j, hj, rfl⟩ := List.getElem_of_mem hx
    have h1 := h j hj
    have h2 : l.getD j (0, 0) = l[j] := by simp [List.getD, hj]
    rw [h2] at h1
    have hm := of_decide_eq_true hm
    unfold Meets at hm
    omega

end Go.Proofs.YtnmljgjegodkaaaDoor
