/- The bags of an order lie over the graph. Plain: no program in sight. -/
import Derived.Test.YtnmljgjegodkaaaDoorPD
import Derived.Test.YtnmljgjegodkaaaDoorOver
import Derived.Test.YtnmljgjegodkaaaDoorPH
namespace Go.Proofs.YtnmljgjegodkaaaDoor
open Go.RowKit

theorem parts_top {M t : Nat} {G : Nat → Nat → Bool} {S : Nat → Bool} (hG : ∀ i j, G i j = G j i) (ht : t < M) (hst : S t = false)
    (h : ∀ i, i < M → S i = false → i ≠ t → ∃ p, i < p ∧ p ≤ t ∧ S p = false ∧ G i p = true) : partsF M G S = 1 := by
  have sy : ∀ {a b}, S a = false → Rch M G S a b → Rch M G S b a := fun {a b} ha h => by
    induction h with
    | refl => exact .refl
    | @step b c h1 h2 h3 h4 h5 ih => exact (Rch.step .refl h3 h2 (by rw [hG]; exact h4) (h1.free ha)).trans ih
  have key : ∀ n i, M - i ≤ n → i < M → S i = false → Rch M G S i t := by
    intro n
    induction n with
    | zero => intro i h1 h2; omega
    | succ n ih =>
      intro i h1 h2 h3
      by_cases e : i = t
      · subst e; exact .refl
      · obtain ⟨p, h4, h5, h6, h7⟩ := h i h2 h3 e
        exact (Rch.step .refl h2 (by omega) h7 h6).trans (ih p (by omega) (by omega) h6)
  exact (parts_oneW hG ⟨t, ht, hst⟩).2 fun a b ha hb hsa hsb => (key _ a (Nat.le_refl _) ha hsa).trans (sy hsb (key _ b (Nat.le_refl _) hb hsb))
theorem links_mem {u : List Int} {i : Nat} (h : u.getD i 0 ≠ -1) : ∀ {k : Nat}, i < k → ((i : Int), u.getD i 0) ∈ linksL u k
  | 0, hi => absurd hi (Nat.not_lt_zero _)
  | k + 1, hi => by
    rw [linksL, List.mem_append]
    by_cases e : i = k
    · subst e; rw [if_neg h]; exact .inr (List.mem_singleton.2 rfl)
    · exact .inl (links_mem h (by omega))
theorem adj_of_mem {l : List (Int × Int)} {i j : Nat} (h : ((i : Int), (j : Int)) ∈ l) : adj l i j = true := by
  unfold adj hasE
  exact List.any_eq_true.2 ⟨_, h, decide_eq_true (.inl ⟨rfl, rfl⟩)⟩
theorem roots_zero {u : List Int} : ∀ {k : Nat}, (∀ i, i < k → u.getD i 0 ≠ -1) → rootsN u k = 0
  | 0, _ => rfl
  | k + 1, h => by rw [rootsN, if_neg (h k (by omega)), roots_zero fun i hi => h i (by omega)]
section
variable {N : Nat} {G : Nat → Nat → Bool} {L ps : List Nat}
noncomputable abbrev bagsL (N : Nat) (G : Nat → Nat → Bool) (L : List Nat) : List (List Nat) := (List.range N).map (bagL N G L)
theorem bagsL_at {i : Nat} (hi : i < N) : (bagsL N G L).getD i [] = bagL N G L i := by
  rw [List.getD, List.getElem?_map, List.getElem?_range hi]; rfl
theorem hasB_iff {i v : Nat} (hi : i < N) : hasB (bagsL N G L) v i = true ↔ v < N ∧ (v = L.getD i 0 ∨ restL N G L i v = true) := by
  unfold hasB
  rw [bagsL_at hi, List.contains_iff_mem]
  unfold bagL
  rw [List.mem_filter, List.mem_range, Bool.or_eq_true, decide_eq_true_eq]
theorem ParOk.gt (hO : Ord N L) {i p : Nat} (hi : i < N) (h : ParOk N G L i p) : i < p := by
  rcases h with ⟨-, e⟩ | ⟨h1, h2, -⟩
  · omega
  · exact rest_later hO hi h1 h2
theorem up_at {i : Nat} (hl : ps.length = N) (hi : i < N) : (ps.map (upI N)).getD i 0 = upI N (ps.getD i 0) := by
  have h1 : i < ps.length := by omega
  simp [List.getD, h1]
theorem least_over {l : List (Int × Int)} (hG : Gr N (adj l)) (hok : ∀ j, j < l.length → EndsOk (N : Int) (l.getD j (0, 0)) ∧ (l.getD j (0, 0)).1 ≠ (l.getD j (0, 0)).2) (hO : Ord N L) (hl : ps.length = N)
    (hp : ∀ i, i < N → ParOk N (adj l) L i (ps.getD i 0) ∧ ps.getD i 0 ≤ N) : OverT N l (bagsL N (adj l) L) (ps.map (upI N)) := by
  have hbl : (bagsL N (adj l) L).length = N := by simp
  have hul : (ps.map (upI N)).length = N := by simp [hl]
  have hgt : ∀ i, i < N → i < ps.getD i 0 := fun i hi => (hp i hi).1.gt hO hi
  have hup : ∀ i, i < N → ps.getD i 0 < N → (ps.map (upI N)).getD i 0 = ((ps.getD i 0 : Nat) : Int) := fun i hi h => by
    rw [up_at hl hi, upI, if_neg (by omega)]
  have hlast : ∀ i, i < N → ps.getD i 0 = N → i + 1 = N := fun i hi e => by
    rcases (hp i hi).1 with ⟨-, e2⟩ | ⟨h1, -, -⟩
    · omega
    · omega
  have hadj : ∀ i, i < N → ps.getD i 0 < N → adj (linksL (ps.map (upI N)) N) i (ps.getD i 0) = true := fun i hi h => by
    refine adj_of_mem ?_
    have := links_mem (u := ps.map (upI N)) (i := i) (by rw [hup i hi h]; omega) hi
    rwa [hup i hi h] at this
  refine ⟨fun i hi => ?_, fun h0 => ?_, fun h0 => ?_, fun j hj => ?_, fun v hv => ?_⟩
  · rw [hul] at hi
    by_cases e : ps.getD i 0 = N
    · left; rw [up_at hl hi, upI, if_pos e]
    · right
      have h1 := (hp i hi).2
      rw [hup i hi (by omega), hul]
      have := hgt i hi
      exact ⟨by omega, by omega, by omega⟩
  · rw [hbl] at h0
    rw [hul]
    obtain ⟨n, rfl⟩ : ∃ n, N = n + 1 := ⟨N - 1, by omega⟩
    rw [rootsN, roots_zero fun i hi => ?_, if_pos ?_]
    · have h1 := hgt n (by omega)
      have h2 := (hp n (by omega)).2
      rw [up_at hl (by omega), upI, if_pos (by omega)]
    · have h2 := (hp i (by omega)).2
      have h3 : ps.getD i 0 ≠ n + 1 := fun e => by have := hlast i (by omega) e; omega
      rw [hup i (by omega) (by omega)]
      omega
  · rw [hbl] at h0
    rw [hul, hbl]
    refine parts_top (t := N - 1) (adj_sy _) (by omega) rfl fun i hi _ hit => ?_
    have h2 := (hp i hi).2
    have h3 : ps.getD i 0 ≠ N := fun e => by have := hlast i hi e; omega
    exact ⟨_, hgt i hi, by omega, rfl, hadj i hi (by omega)⟩
  · obtain ⟨⟨x0, y0, x1, y1⟩, hne⟩ := hok j hj
    obtain ⟨x, hx⟩ := Int.eq_ofNat_of_zero_le x0
    obtain ⟨y, hy⟩ := Int.eq_ofNat_of_zero_le y0
    have hxy : adj l x y = true := adj_of_mem (by
      have e : l.getD j (0, 0) = ((x : Int), (y : Int)) := Prod.ext hx hy
      rw [← e, List.getD, List.getElem?_eq_getElem hj]
      exact List.getElem_mem hj)
    rw [hx, hy]
    simp only [Int.toNat_natCast]
    obtain ⟨a, ha, ea⟩ := hO.all (v := x) (by omega)
    obtain ⟨b, hb, eb⟩ := hO.all (v := y) (by omega)
    rw [hbl]
    rcases Nat.lt_trichotomy a b with e | e | e
    · exact ⟨a, ha, (hasB_iff ha).2 ⟨by omega, .inl ea.symm⟩, (hasB_iff ha).2 ⟨by omega, .inr (by rw [← eb]; exact rest_edge hO ha hb e (by rw [ea, eb]; exact hxy))⟩⟩
    · subst e
      rw [ea] at eb
      exact absurd (show (l.getD j (0, 0)).1 = (l.getD j (0, 0)).2 by rw [hx, hy, eb]) hne
    · exact ⟨b, hb, (hasB_iff hb).2 ⟨by omega, .inr (by rw [← ea]; exact rest_edge hO hb ha e (by rw [ea, eb, adj_sy]; exact hxy))⟩, (hasB_iff hb).2 ⟨by omega, .inl eb.symm⟩⟩
  · obtain ⟨t, ht, et⟩ := hO.all hv
    rw [hbl, hul]
    have hsh : ∀ i, i < N → (shutB (bagsL N (adj l) L) v i = false ↔ (v = L.getD i 0 ∨ restL N (adj l) L i v = true)) := fun i hi => by
      unfold shutB
      rw [hbl, decide_eq_true hi, Bool.true_and, Bool.not_eq_false', hasB_iff hi]
      exact ⟨fun h => h.2, fun h => ⟨hv, h⟩⟩
    refine ⟨⟨t, ht, (hasB_iff ht).2 ⟨hv, .inl et.symm⟩⟩, parts_top (t := t) (adj_sy _) ht ((hsh t ht).2 (.inl et.symm)) fun i hi hs hit => ?_⟩
    rcases (hsh i hi).1 hs with e | hr
    · exact absurd (hO.inj hi ht (e.symm.trans et.symm)) hit
    · rw [← et] at hr
      rcases (hp i hi).1 with ⟨h1, -⟩ | ⟨h1, h2, h3⟩
      · have := h1 (L.getD t 0) (hO.at ht).1
        rw [hr] at this; cases this
      · have hle := h3 t ht hr
        refine ⟨_, hgt i hi, hle, (hsh _ h1).2 ?_, hadj i hi h1⟩
        rcases Nat.eq_or_lt_of_le hle with e | e
        · exact .inl (by rw [e, et])
        · exact .inr (by rw [← et]; exact rest_next hG hO hi h1 ht h2 hr e)
end
end Go.Proofs.YtnmljgjegodkaaaDoor
