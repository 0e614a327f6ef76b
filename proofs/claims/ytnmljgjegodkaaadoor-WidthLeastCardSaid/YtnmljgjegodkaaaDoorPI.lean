/- arborref.Width's orders: what is near, what is filled in. Plain: no program in sight. The table of the edges of a table. Plain: no program in sight. (As in FormP, without a walk.) -/
import Derived.Test.YtnmljgjegodkaaaDoorPA
import Derived.Test.YtnmljgjegodkaaaDoorTableM
import Derived.Test.YtnmljgjegodkaaaDoorPH
namespace Go.Proofs.YtnmljgjegodkaaaDoor
open Go Go.RowKit

/-- The table is the graph with what has been filled in, among those that are left. -/
def FillT (N : Nat) (G : Nat → Nat → Bool) (L : List Nat) (i : Nat) (H : Nat → Nat → Bool) : Prop := ∀ a b, a < N → b < N → a ≠ b → goneL L i a = false → goneL L i b = false → H a b = fillG N G L i a b
/-- Those near step i's node, as they are gathered. -/
def nearL (L : List Nat) (H : Nat → Nat → Bool) (i : Nat) : Nat → List Nat
  | 0 => []
  | j + 1 => nearL L H i j ++ if i < j ∧ H (L.getD i 0) (L.getD j 0) = true then [L.getD j 0] else []
/-- While they are made a clique. -/
structure ClqI (A : List Nat) (H H' : Nat → Nat → Bool) (a b : Nat) : Prop where
  more : ∀ x y, H x y = true → H' x y = true
  only : ∀ x y, H' x y = true → H x y = true ∨ (x ∈ A ∧ y ∈ A)
  set : ∀ p q, p < A.length → q < p → (p < a ∨ (p = a ∧ q < b)) → H' (A.getD p 0) (A.getD q 0) = true ∧ H' (A.getD q 0) (A.getD p 0) = true
section
variable {N i j : Nat} {G H H' : Nat → Nat → Bool} {L A : List Nat}
theorem near_mem {u : Nat} : ∀ {j : Nat}, u ∈ nearL L H i j ↔ ∃ k, i < k ∧ k < j ∧ L.getD k 0 = u ∧ H (L.getD i 0) u = true
  | 0 => ⟨fun h => (by cases h), fun ⟨k, _, h, _⟩ => absurd h (Nat.not_lt_zero _)⟩
  | j + 1 => by
    rw [nearL, List.mem_append, near_mem]
    constructor
    · rintro (⟨k, h1, h2, h3, h4⟩ | h)
      · exact ⟨k, h1, by omega, h3, h4⟩
      · split at h
        · rename_i e
          rw [List.mem_singleton] at h
          subst h
          exact ⟨j, e.1, by omega, rfl, e.2⟩
        · cases h
    · rintro ⟨k, h1, h2, h3, h4⟩
      by_cases e : k = j
      · subst e
        right
        rw [if_pos ⟨h1, by rw [h3]; exact h4⟩, h3]
        exact List.mem_singleton.2 rfl
      · exact .inl ⟨k, h1, by omega, h3, h4⟩
theorem near_start : ∀ {j : Nat}, j ≤ i + 1 → nearL L H i j = []
  | 0, _ => rfl
  | j + 1, h => by rw [nearL, near_start (by omega), if_neg (by omega)]; rfl
theorem near_nodup (hO : Ord N L) (hi : i < N) : ∀ {j : Nat}, j ≤ N → (nearL L H i j).Nodup
  | 0, _ => List.nodup_nil
  | j + 1, hj => by
    rw [nearL]
    split
    · rw [List.nodup_append]
      refine ⟨near_nodup hO hi (by omega), by simp, fun x hx y hy e => ?_⟩
      rw [List.mem_singleton] at hy
      subst e
      obtain ⟨k, h1, h2, h3, -⟩ := near_mem.1 hx
      have := hO.inj (i := k) (j := j) (by omega) (by omega) (by rw [h3, hy])
      omega
    · rw [List.append_nil]; exact near_nodup hO hi (by omega)
theorem near_rest (hO : Ord N L) (hi : i < N) (hH : FillT N G L i H) {u : Nat} : u ∈ nearL L H i N ↔ u < N ∧ restL N G L i u = true := by
  rw [near_mem]
  have hgi : goneL L i (L.getD i 0) = false := by
    cases e : goneL L i (L.getD i 0)
    · rfl
    · have := (gone_iff hO hi).1 e; omega
  constructor
  · rintro ⟨k, h1, h2, rfl, h4⟩
    have hne : L.getD i 0 ≠ L.getD k 0 := fun e => by have := hO.inj hi h2 e; omega
    have hgk : goneL L i (L.getD k 0) = false := by
      cases e : goneL L i (L.getD k 0)
      · rfl
      · have := (gone_iff hO h2).1 e; omega
    rw [hH _ _ (hO.at hi).1 (hO.at h2).1 hne hgi hgk] at h4
    exact ⟨(hO.at h2).1, bey_iff.2 ⟨fill_iff.1 h4, hgk, hne.symm⟩⟩
  · rintro ⟨hu, hr⟩
    obtain ⟨k, hk, rfl⟩ := hO.all hu
    have hik := rest_later hO hi hk hr
    obtain ⟨h1, h2, h3⟩ := bey_iff.1 hr
    exact ⟨k, hik, hk, rfl, by rw [hH _ _ (hO.at hi).1 (hO.at hk).1 h3.symm hgi h2]; exact fill_iff.2 h1⟩
/-- As many as are left behind. -/
theorem near_len (hO : Ord N L) (hi : i < N) (hH : FillT N G L i H) : (nearL L H i N).length = degB N G (goneL L i) (L.getD i 0) := by
  have hp : (nearL L H i N).Perm ((List.range N).filter (restL N G L i)) := (List.perm_ext_iff_of_nodup (near_nodup hO hi (Nat.le_refl _)) (List.nodup_range.filter _)).2 fun u => by
    rw [near_rest hO hi hH, List.mem_filter, List.mem_range]
  exact hp.length_eq
theorem ClqI.start : ClqI A H H 0 0 := ⟨fun _ _ h => h, fun _ _ h => .inl h, fun p q h1 h2 h3 => by omega⟩
theorem ClqI.row {a : Nat} (h : ClqI A H H' a a) : ClqI A H H' (a + 1) 0 := ⟨h.more, h.only, fun p q h1 h2 h3 => h.set p q h1 h2 (by omega)⟩
theorem ClqI.step {a b : Nat} (h : ClqI A H H' a b) (ha : a < A.length) (hb : b < a) {H2 : Nat → Nat → Bool} (h2 : ∀ x y, H2 x y = true ↔ H' x y = true ∨ (x = A.getD a 0 ∧ y = A.getD b 0) ∨ (x = A.getD b 0 ∧ y = A.getD a 0)) : ClqI A H H2 a (b + 1) := by
  have ma : A.getD a 0 ∈ A := by rw [List.getD, List.getElem?_eq_getElem ha]; exact List.getElem_mem ha
  have mb : A.getD b 0 ∈ A := by rw [List.getD, List.getElem?_eq_getElem (show b < A.length by omega)]; exact List.getElem_mem _
  refine ⟨fun x y k => (h2 x y).2 (.inl (h.more x y k)), fun x y k => ?_, fun p q h3 h4 h5 => ?_⟩
  · rcases (h2 x y).1 k with k | ⟨rfl, rfl⟩ | ⟨rfl, rfl⟩
    · exact h.only x y k
    · exact .inr ⟨ma, mb⟩
    · exact .inr ⟨mb, ma⟩
  · by_cases e : p = a ∧ q = b
    · obtain ⟨rfl, rfl⟩ := e
      exact ⟨(h2 _ _).2 (.inr (.inl ⟨rfl, rfl⟩)), (h2 _ _).2 (.inr (.inr ⟨rfl, rfl⟩))⟩
    · obtain ⟨k1, k2⟩ := h.set p q h3 h4 (by omega)
      exact ⟨(h2 _ _).2 (.inl k1), (h2 _ _).2 (.inl k2)⟩
/-- A step is done. -/
theorem FillT.next (hG : Gr N G) (hO : Ord N L) (hi : i < N) (hH : FillT N G L i H) (hc : ClqI (nearL L H i N) H H' (nearL L H i N).length 0) : FillT N G L (i + 1) H' := by
  intro x y hx hy hxy gx gy
  rw [gone_succ hO hi, Bool.or_eq_false_iff, decide_eq_false_iff_not] at gx gy
  have hv := (hO.at hi).1
  have memA : ∀ u, u < N → goneL L i u = false → u ≠ L.getD i 0 → (u ∈ nearL L H i N ↔ fillG N G L i (L.getD i 0) u = true) := fun u hu g1 g2 => by
    rw [near_rest hO hi hH]
    exact ⟨fun h => fill_iff.2 (bey_iff.1 h.2).1, fun h => ⟨hu, bey_iff.2 ⟨fill_iff.1 h, g1, g2⟩⟩⟩
  have hsy : fillG N G L i x (L.getD i 0) = fillG N G L i (L.getD i 0) x := by
    rw [Bool.eq_iff_iff, fill_iff, fill_iff]
    exact ⟨fun h => h.symm hG hx, fun h => h.symm hG hv⟩
  rw [fill_succ hO hi, hsy, Bool.eq_iff_iff, Bool.or_eq_true, Bool.and_eq_true, ← hH x y hx hy hxy gx.1 gy.1, ← memA x hx gx.1 gx.2, ← memA y hy gy.1 gy.2]
  constructor
  · exact hc.only x y
  · rintro (h | ⟨h1, h2⟩)
    · exact hc.more x y h
    · obtain ⟨p, hp, ep⟩ := List.getElem_of_mem h1
      obtain ⟨q, hq, eq⟩ := List.getElem_of_mem h2
      have ep' : (nearL L H i N).getD p 0 = x := by rw [List.getD, List.getElem?_eq_getElem hp]; exact ep
      have eq' : (nearL L H i N).getD q 0 = y := by rw [List.getD, List.getElem?_eq_getElem hq]; exact eq
      rcases Nat.lt_trichotomy p q with e | e | e
      · have := (hc.set q p hq e (.inl hq)).2
        rwa [ep', eq'] at this
      · subst e; exact absurd (ep'.symm.trans eq') hxy
      · have := (hc.set p q hp e (.inl hp)).1
        rwa [ep', eq'] at this
theorem FillT.start : FillT N G L 0 G := fun a b _ hb _ _ _ => (fill_zero hb).symm
theorem FillT.congr {H2 : Nat → Nat → Bool} (h : FillT N G L i H) (e : ∀ a b, a < N → b < N → H a b = H2 a b) : FillT N G L i H2 := fun a b ha hb hn g1 g2 => (e a b ha hb).symm.trans (h a b ha hb hn g1 g2)
end
end Go.Proofs.YtnmljgjegodkaaaDoor
namespace Go.Proofs.YtnmljgjegodkaaaDoor
open Go.RowKit

theorem adj_prsW {N i j : Nat} {p : Nat → Nat → Bool} (hij : i < j) (hj : j < N) : adj (prsTo N p N) i j = p i j := by
  unfold adj
  cases h : p i j with
  | true =>
    have hm : ((i : Int), (j : Int)) ∈ prsTo N p N := mem_prsTo.2 ⟨i, j, by omega, hij, hj, h, rfl⟩
    unfold hasE
    exact List.any_eq_true.2 ⟨_, hm, by simp [Meets]⟩
  | false =>
    unfold hasE
    refine List.any_eq_false.2 fun e he hm => ?_
    obtain ⟨i', j', -, h2, -, h4, rfl⟩ := mem_prsTo.1 he
    have hm := of_decide_eq_true hm
    unfold Meets at hm
    simp only at hm
    have e1 : i' = i := by omega
    have e2 : j' = j := by omega
    rw [e1, e2, h] at h4
    cases h4

theorem prs_endsW {N : Nat} {p : Nat → Nat → Bool} : ∀ j, j < (prsTo N p N).length → EndsOk (N : Int) ((prsTo N p N).getD j (0, 0)) ∧ ((prsTo N p N).getD j (0, 0)).1 ≠ ((prsTo N p N).getD j (0, 0)).2 := fun j hj => by
  have he : (prsTo N p N).getD j (0, 0) ∈ prsTo N p N := by rw [List.getD, List.getElem?_eq_getElem hj]; exact List.getElem_mem hj
  obtain ⟨i, k, h1, h2, h3, -, e⟩ := mem_prsTo.1 he
  rw [e]
  unfold EndsOk
  simp only
  omega
theorem adj_prsG {N i j : Nat} {p : Nat → Nat → Bool} (hp : Gr N p) (hi : i < N) (hj : j < N) (hij : i ≠ j) : adj (prsTo N p N) i j = p i j := by
  rcases Nat.lt_or_gt_of_ne hij with h | h
  · exact adj_prsW h hj
  · rw [adj_sy, adj_prsW h hi, hp.sym _ _ hj hi]
end Go.Proofs.YtnmljgjegodkaaaDoor
