/- What arborref.Tutte keeps: the chosen edges, the table of sums. -/
import Derived.Test.YtmhcnekbfngafaaTutteP
import Derived.Test.YtmhcnekbfngafaaPow
import Derived.Test.YtmhcnekbfngafaaGridOf
import Derived.Test.YtmhcnekbfngafaaParts
namespace Go.Proofs.Ytmhcnekbfngafaa
open Go Go.RowKit

def selE (l : List (Int × Int)) (s : Nat) : Nat → List (Int × Int)
  | 0 => []
  | k + 1 => selE l s k ++ (if s.testBit k then [l.getD k (0, 0)] else [])
theorem selE_len (l : List (Int × Int)) (s : Nat) : ∀ k, (selE l s k).length ≤ k
  | 0 => Nat.le_refl _
  | k + 1 => by
    have := selE_len l s k
    rw [selE, List.length_append]
    split <;> simp <;> omega
theorem elN_at {l : List (Int × Int)} {k : Nat} (hk : k < l.length) : (elN l).getD k (0, 0) = ((l.getD k (0, 0)).1.toNat, (l.getD k (0, 0)).2.toNat) := by
  unfold elN
  rw [List.getD, List.getElem?_map, List.getElem?_eq_getElem hk, List.getD, List.getElem?_eq_getElem hk]; rfl
theorem elN_app (a b : List (Int × Int)) : elN (a ++ b) = elN a ++ elN b := by unfold elN; rw [List.map_append]
theorem selE_el (l : List (Int × Int)) (s : Nat) : ∀ k, k ≤ l.length → elN (selE l s k) = takB (elN l) s k
  | 0, _ => rfl
  | k + 1, hk => by
    rw [selE, takB, elN_app, selE_el l s k (by omega)]
    congr 1
    split
    · rw [elN_at (by omega)]; rfl
    · rfl
theorem selE_mem {l : List (Int × Int)} {s : Nat} : ∀ {k : Nat}, k ≤ l.length → ∀ e ∈ selE l s k, e ∈ l
  | 0, _, e, h => by cases h
  | k + 1, hk, e, h => by
    rw [selE, List.mem_append] at h
    rcases h with h | h
    · exact selE_mem (by omega) e h
    · split at h
      · have : e = l.getD k (0, 0) := by simpa using h
        rw [this, List.getD, List.getElem?_eq_getElem (by omega)]
        exact List.getElem_mem _
      · cases h
theorem good_mem {N : Nat} {l : List (Int × Int)} (h : GoodGraph (N : Int) l) {e : Int × Int} (he : e ∈ l) : EndsOk (N : Int) e ∧ e.1 ≠ e.2 := by
  obtain ⟨j, hj, rfl⟩ := List.getElem_of_mem he
  have := h.fine j hj
  rw [Fine, List.getD, List.getElem?_eq_getElem hj, Option.getD_some] at this
  exact ⟨this.1, this.2.1⟩
theorem selE_ok {N : Nat} {l : List (Int × Int)} (h : GoodGraph (N : Int) l) (s : Nat) : ∀ j, j < (selE l s l.length).length → EndsOk (N : Int) ((selE l s l.length).getD j (0, 0)) ∧ ((selE l s l.length).getD j (0, 0)).1 ≠ ((selE l s l.length).getD j (0, 0)).2 := fun j hj => by
  rw [List.getD, List.getElem?_eq_getElem hj, Option.getD_some]
  exact good_mem h (selE_mem (Nat.le_refl _) _ (List.getElem_mem hj))
theorem selE_ends {N : Nat} {l : List (Int × Int)} (h : EndsN N l) (s : Nat) : EndsN N (selE l s l.length) := fun e he => h e (selE_mem (Nat.le_refl _) e he)
theorem tabE_adj {N : Nat} {l : List (Int × Int)} (hE : EndsN N l) : TabE N (adj l) (elN l) := fun u v hu hv => by
  unfold adj hasE elN
  rw [List.any_eq_true]
  constructor
  · rintro ⟨e, he, hm⟩
    have hm := of_decide_eq_true hm
    have hb := hE e he
    unfold Meets at hm
    rcases hm with ⟨h1, h2⟩ | ⟨h1, h2⟩
    · exact Or.inl (List.mem_map.2 ⟨e, he, by rw [h1, h2]; simp⟩)
    · exact Or.inr (List.mem_map.2 ⟨e, he, by rw [h1, h2]; simp⟩)
  · rintro (h | h)
    · obtain ⟨e, he, h2⟩ := List.mem_map.1 h
      have hb := hE e he
      have h3 := Prod.mk.inj h2
      exact ⟨e, he, decide_eq_true (Or.inl ⟨by omega, by omega⟩)⟩
    · obtain ⟨e, he, h2⟩ := List.mem_map.1 h
      have hb := hE e he
      have h3 := Prod.mk.inj h2
      exact ⟨e, he, decide_eq_true (Or.inr ⟨by omega, by omega⟩)⟩
theorem parts_sel {N : Nat} {l : List (Int × Int)} (hE : EndsN N l) (s : Nat) : partsF N (adj (selE l s l.length)) (fun _ => false) = kN N (foldN id (selB (elN l) s)) := by
  have h := parts_k (tabE_adj (selE_ends hE s)) (selE_ends hE s).el
  rw [h, selE_el l s _ (Nat.le_refl _), ← elN_length l, tak_sel]
theorem parts_all {N : Nat} {l : List (Int × Int)} (hE : EndsN N l) : partsF N (adj l) (fun _ => false) = kN N (foldN id (elN l)) := parts_k (tabE_adj hE) hE.el

theorem selE_size {l : List (Int × Int)} (s : Nat) : (selE l s l.length).length = (selB (elN l) s).length := by
  rw [← elN_length (selE l s l.length), selE_el l s _ (Nat.le_refl _), ← elN_length l, tak_sel]

/-! The numbers that are handed on. -/
theorem k_whole {N : Nat} {l : EL} (hl : ∀ x ∈ l, x.1 < N ∧ x.2 < N) (s : Nat) : kN N (foldN id l) ≤ kN N (foldN id (selB l s)) :=
  k_mono (Canon.fold _ (canon_id N) fun x hx => (hl x ((sel_sub l s).subset hx)).2) (Canon.fold l (canon_id N) fun x hx => (hl x hx).2) (fold_mono (sel_sub l s))
theorem k_nodes {N : Nat} {l : EL} (hl : ∀ x ∈ l, x.1 < N ∧ x.2 < N) (s : Nat) : N ≤ (selB l s).length + kN N (foldN id (selB l s)) := by
  have := k_many (selB l s) (canon_id N) fun x hx => hl x ((sel_sub l s).subset hx)
  rwa [k_id] at this
def sumN (N : Nat) (l : EL) (s i j : Nat) : Int := sumI (fun s => refN N l s i j) s
theorem mul_few {x y : Int} (hx : -4096 ≤ x ∧ x ≤ 4096) (hy : -4096 ≤ y ∧ y ≤ 4096) : -16777216 ≤ x * y ∧ x * y ≤ 16777216 := by
  have h1 : x.natAbs ≤ 4096 := by omega
  have h2 : y.natAbs ≤ 4096 := by omega
  have h3 : (x * y).natAbs ≤ 4096 * 4096 := by rw [Int.natAbs_mul]; exact Nat.mul_le_mul h1 h2
  omega
theorem sumN_few {N : Nat} {l : EL} (hk : ∀ s, kN N (foldN id (selB l s)) - kN N (foldN id l) ≤ 12) (hm : ∀ s, (selB l s).length + kN N (foldN id (selB l s)) - N ≤ 12) (i j : Nat) : ∀ s : Nat, s ≤ 512 → -16777216 * (s : Int) ≤ sumN N l s i j ∧ sumN N l s i j ≤ 16777216 * (s : Int)
  | 0, _ => by simp [sumN, sumI]
  | s + 1, h => by
    have ih := sumN_few hk hm i j s (by omega)
    have h2 := mul_few (pw_small (hk s) i) (pw_small (hm s) j)
    unfold sumN at ih ⊢
    rw [sumI]
    have : refN N l s i j = pw (kN N (foldN id (selB l s)) - kN N (foldN id l)) i * pw ((selB l s).length + kN N (foldN id (selB l s)) - N) j := rfl
    rw [← this] at h2
    push_cast
    omega
/-- The table's places while one set's share is being added: rows below a, and of row a those below b. -/
def accR (S : Nat → Nat → Int) (nx ny a b p : Nat) : Int := S (p / 14) (p % 14) + if p / 14 < a ∨ (p / 14 = a ∧ p % 14 < b) then pw nx (p / 14) * pw ny (p % 14) else 0
theorem acc_step {S : Nat → Nat → Int} {nx ny a b : Nat} (hb : b < 14) (p : Nat) : (if p = a * 14 + b then S a b + pw nx a * pw ny b else accR S nx ny a b p) = accR S nx ny a (b + 1) p := by
  by_cases e : p = a * 14 + b
  · have e1 : p / 14 = a := by omega
    have e2 : p % 14 = b := by omega
    rw [if_pos e]
    unfold accR
    rw [e1, e2, if_pos (Or.inr ⟨rfl, by omega⟩)]
  · rw [if_neg e]
    unfold accR
    congr 1
    by_cases h : p / 14 < a ∨ (p / 14 = a ∧ p % 14 < b)
    · rw [if_pos h, if_pos (by omega)]
    · rw [if_neg h, if_neg (by omega)]
theorem acc_at {S : Nat → Nat → Int} {nx ny a b : Nat} (hb : b < 14) : accR S nx ny a b (a * 14 + b) = S a b := by
  have e1 : (a * 14 + b) / 14 = a := by omega
  have e2 : (a * 14 + b) % 14 = b := by omega
  unfold accR
  rw [e1, e2, if_neg (by omega)]; omega
theorem acc_row {S : Nat → Nat → Int} {nx ny a : Nat} (p : Nat) : accR S nx ny a (ny + 1) p = accR S nx ny (a + 1) 0 p := by
  unfold accR
  congr 1
  by_cases h : p / 14 < a
  · rw [if_pos (Or.inl h), if_pos (Or.inl (by omega))]
  · by_cases h2 : p / 14 = a
    · by_cases h3 : p % 14 < ny + 1
      · rw [if_pos (Or.inr ⟨h2, h3⟩), if_pos (Or.inl (by omega))]
      · rw [if_neg (by omega), if_pos (Or.inl (by omega)), pw_far ny _ (by omega)]; simp
    · rw [if_neg (by omega), if_neg (by omega)]
theorem acc_end {S : Nat → Nat → Int} {nx ny : Nat} (p : Nat) : accR S nx ny (nx + 1) 0 p = S (p / 14) (p % 14) + pw nx (p / 14) * pw ny (p % 14) := by
  unfold accR
  by_cases h : p / 14 < nx + 1
  · rw [if_pos (Or.inl h)]
  · rw [if_neg (by omega), pw_far nx _ (by omega)]; simp
theorem acc_start {S : Nat → Nat → Int} {nx ny : Nat} (p : Nat) : accR S nx ny 0 0 p = S (p / 14) (p % 14) := by
  unfold accR; rw [if_neg (by omega)]; omega

/-! How far the table goes, place by place. -/
structure DimR (T : Nat → Nat → Int) (a b R C : Nat) : Prop where
  lt : ∀ i j, (i < a ∨ (i = a ∧ j < b)) → j < 14 → T i j ≠ 0 → i < R ∧ j < C
  row : ∀ r, R = r + 1 → ∃ j, T r j ≠ 0
  col : ∀ c, C = c + 1 → ∃ i, T i c ≠ 0
  few : R ≤ 13 ∧ C ≤ 14
theorem DimR.start (T : Nat → Nat → Int) : DimR T 0 0 0 0 := ⟨fun i j h => by omega, fun r h => by omega, fun r h => by omega, by omega⟩
theorem DimR.skip {T : Nat → Nat → Int} {a b R C : Nat} (h : DimR T a b R C) (h0 : T a b = 0) : DimR T a (b + 1) R C :=
  ⟨fun i j hij hj ht => by
    by_cases e : i = a ∧ j = b
    · obtain ⟨rfl, rfl⟩ := e; exact absurd h0 ht
    · exact h.lt i j (by omega) hj ht, h.row, h.col, h.few⟩
theorem DimR.more {T : Nat → Nat → Int} {a b R C : Nat} (h : DimR T a b R C) (h0 : T a b ≠ 0) (ha : a < 13) (hb : b < 14) : DimR T a (b + 1) (max R (a + 1)) (max C (b + 1)) :=
  ⟨fun i j hij hj ht => by
    by_cases e : i = a ∧ j = b
    · omega
    · have := h.lt i j (by omega) hj ht; omega, fun r e => by
    by_cases e2 : r = a
    · subst e2; exact ⟨b, h0⟩
    · exact h.row r (by omega), fun r e => by
    by_cases e2 : r = b
    · subst e2; exact ⟨a, h0⟩
    · exact h.col r (by omega), by have := h.few; omega⟩
theorem DimR.line {T : Nat → Nat → Int} {a R C : Nat} (h : DimR T a 14 R C) : DimR T (a + 1) 0 R C :=
  ⟨fun i j hij hj ht => h.lt i j (by omega) hj ht, h.row, h.col, h.few⟩
theorem DimR.dims {T : Nat → Nat → Int} {R C : Nat} (h : DimR T 13 0 R C) (hf : ∀ i j, 12 < i ∨ 12 < j → T i j = 0) : IsDims T R C :=
  ⟨fun i j ht => by
    by_cases e : 12 < i ∨ 12 < j
    · exact absurd (hf i j e) ht
    · exact h.lt i j (by omega) (by omega) ht, h.row, h.col⟩

end Go.Proofs.Ytmhcnekbfngafaa
