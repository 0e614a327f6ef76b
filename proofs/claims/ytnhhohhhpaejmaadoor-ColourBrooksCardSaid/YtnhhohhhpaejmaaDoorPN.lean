/- Brooks: colours one node after the other, the last of an order first; an order from a node on; plain. No program in sight. LOVASZ: a node with two that are not near one another, without which all hang together; plain. No program in sight. Brooks: colours part by part at a cut; the colours of a graph that is no ring and not full; plain. No program in sight. Brooks: a ring in a graph of no more than two neighbours is the whole graph; plain. No program in sight. Which nodes hang together; the parts of a graph; plain. No program in sight. A node's side by how far it is from a least one; plain. No program in sight. A list of nodes is a ring; plain. No program in sight. Counting what is put in. No program in sight. A part of a graph, gathered from its least node: plain. No program in sight. -/
import Derived.Test.YtnhhohhhpaejmaaDoorPA
import Derived.WalkKit
namespace Go.Proofs.YtnhhohhhpaejmaaDoor
open Go.RowKit

theorem range_in {xs : List Int} {c : Nat} (h : ∀ k : Nat, k < c → (k : Int) ∈ xs) : c ≤ xs.length := by
  have key : ∀ (c : Nat) (xs : List Int), (∀ k : Nat, k < c → (k : Int) ∈ xs) → c ≤ xs.length := by
    intro c
    induction c with
    | zero => intro xs _; exact Nat.zero_le _
    | succ c ih =>
      intro xs h
      have h1 := ih (xs.erase (c : Int)) fun k hk => (List.mem_erase_of_ne (by omega)).2 (h k (by omega))
      have h2 := List.length_erase_of_mem (h c (by omega))
      have h3 := List.length_pos_of_mem (h c (by omega))
      omega
  exact key c xs h
theorem range_neg {xs : List Int} {c : Nat} (h : ∀ k : Nat, k < c → (k : Int) ∈ xs) {x : Int} (hx : x ∈ xs) (hn : x < 0) : c + 1 ≤ xs.length := by
  have h1 := range_in (xs := xs.erase x) (c := c) fun k hk => (List.mem_erase_of_ne (by omega)).2 (h k hk)
  have h2 := List.length_erase_of_mem hx
  have h3 := List.length_pos_of_mem hx
  omega
theorem range_two {xs : List Int} {c : Nat} (h : ∀ k : Nat, k < c → (k : Int) ∈ xs) (hd : ¬ xs.Nodup) : c + 1 ≤ xs.length := by
  have key : ∀ (xs : List Int), ¬ xs.Nodup → ∃ x ∈ xs, x ∈ xs.erase x := by
    intro xs
    induction xs with
    | nil => intro h; exact absurd List.nodup_nil h
    | cons a xs ih =>
      intro h
      by_cases ha : a ∈ xs
      · exact ⟨a, by simp, by simpa using ha⟩
      · have : ¬ xs.Nodup := fun hd => h (List.nodup_cons.2 ⟨ha, hd⟩)
        obtain ⟨x, hx, hx2⟩ := ih this
        refine ⟨x, by simp [hx], ?_⟩
        by_cases e : a = x
        · subst e; exact absurd hx ha
        · rw [List.erase_cons_tail (by simpa using e)]
          exact List.mem_cons_of_mem _ hx2
  obtain ⟨x, hx, hx2⟩ := key xs hd
  have h1 := range_in (xs := xs.erase x) (c := c) fun k hk => by
    by_cases e : (k : Int) = x
    · rw [e]; exact hx2
    · exact (List.mem_erase_of_ne e).2 (h k hk)
  have h2 := List.length_erase_of_mem hx
  have h3 := List.length_pos_of_mem hx
  omega

/-- Nodes O[i..] have their colours. -/
structure BackI (N : Nat) (G : Nat → Nat → Bool) (D : Nat) (O : List Nat) (C0 C : Nat → Int) (i : Nat) : Prop where
  old : ∀ v, v ∉ O.drop i → C v = C0 v
  rng : ∀ v ∈ O.drop i, 0 ≤ C v ∧ C v < D
  ok : ∀ v ∈ O.drop i, ∀ w, w < N → G v w = true → C v ≠ C w
/-- An order in which each node finds a colour below D. -/
structure OrdO (N : Nat) (G : Nat → Nat → Bool) (D : Nat) (O : List Nat) (C0 : Nat → Int) : Prop where
  nd : O.Nodup
  lt : ∀ v ∈ O, v < N
  low : ∀ i, i < O.length → ∀ (C : Nat → Int) (c : Nat), (∀ v, v ∉ O.drop (i + 1) → C v = C0 v) → (∀ k : Nat, k < c → ∃ w, w < N ∧ G (O.getD i 0) w = true ∧ C w = k) → c < D
section
variable {N D : Nat} {G : Nat → Nat → Bool} {O : List Nat} {C0 C : Nat → Int} {i : Nat}
theorem BackI.start (N : Nat) (G : Nat → Nat → Bool) (D : Nat) (O : List Nat) (C0 : Nat → Int) : BackI N G D O C0 C0 O.length :=
  ⟨fun v _ => rfl, fun v hv => by simp at hv, fun v hv => by simp at hv⟩
theorem drop_at {O : List Nat} {i : Nat} (hi : i < O.length) : O.drop i = O.getD i 0 :: O.drop (i + 1) := by
  rw [List.drop_eq_getElem_cons hi, List.getD, List.getElem?_eq_getElem hi, Option.getD_some]
theorem BackI.next (h : BackI N G D O C0 C (i + 1)) (hO : OrdO N G D O C0) (hi : i < O.length) (hs : ∀ a b, a < N → b < N → G a b = G b a) (hirr : ∀ a, a < N → G a a = false) {c : Nat}
    (hc : ∀ k : Nat, k < c → ∃ w, w < N ∧ G (O.getD i 0) w = true ∧ C w = k) (hf : ∀ w, w < N → G (O.getD i 0) w = true → C w ≠ (c : Int)) :
    BackI N G D O C0 (fun q => if q = O.getD i 0 then (c : Int) else C q) i := by
  have hD := hO.low i hi C c h.old hc
  have hdr := drop_at hi
  have hv : O.getD i 0 ∈ O := by rw [List.getD, List.getElem?_eq_getElem hi]; exact List.getElem_mem _
  have hN := hO.lt _ hv
  have hnot : O.getD i 0 ∉ O.drop (i + 1) := by
    have := List.Nodup.sublist (List.drop_sublist i O) hO.nd
    rw [drop_at hi] at this
    exact (List.nodup_cons.1 this).1
  generalize O.getD i 0 = x at *
  refine ⟨fun v hv2 => ?_, fun v hv2 => ?_, fun v hv2 w hw hg => ?_⟩
  · rw [hdr, List.mem_cons] at hv2
    simp only [if_neg (fun e => hv2 (.inl e))]
    exact h.old v fun hm => hv2 (.inr hm)
  · rw [hdr, List.mem_cons] at hv2
    by_cases e : v = x
    · simp only [if_pos e]; omega
    · simp only [if_neg e]; exact h.rng v (hv2.resolve_left e)
  · rw [hdr, List.mem_cons] at hv2
    by_cases e : v = x
    · subst e
      have hne : w ≠ v := fun e => by subst e; rw [hirr w hw] at hg; cases hg
      simp only [if_pos rfl, if_neg hne]
      exact fun e => hf w hw hg e.symm
    · have hvm := hv2.resolve_left e
      simp only [if_neg e]
      by_cases e2 : w = x
      · subst e2
        simp only [if_pos rfl]
        have hvN : v < N := hO.lt v (List.mem_of_mem_drop hvm)
        exact hf v hvN (by rw [hs _ _ hN hvN]; exact hg)
      · simp only [if_neg e2]
        exact h.ok v hvm w hw hg
end

/-- An order from a node on, among those that are open, under way: node i of it is looked at. -/
structure SprI (N : Nat) (G : Nat → Nat → Bool) (op : Nat → Bool) (f : Nat) (O : List Nat) (I : Nat → Bool) (i : Nat) : Prop where
  ne : 0 < O.length
  hd : O.getD 0 0 = f
  nd : O.Nodup
  lt : ∀ v ∈ O, v < N
  mem : ∀ v, v < N → (I v = true ↔ v ∈ O)
  par : ∀ k, 0 < k → k < O.length → ∃ j, j < k ∧ G (O.getD j 0) (O.getD k 0) = true
  opn : ∀ v ∈ O, v = f ∨ op v = true
  shut : ∀ k, k < i → ∀ w, w < N → G (O.getD k 0) w = true → op w = true → w ∈ O
section
variable {N : Nat} {G : Nat → Nat → Bool} {op : Nat → Bool} {f : Nat} {O : List Nat} {I : Nat → Bool} {i : Nat}
theorem SprI.start (hf : f < N) : SprI N G op f [f] (fun q => if q = f then true else false) 0 where
  ne := by simp
  hd := rfl
  nd := by simp
  lt v hv := by rw [List.mem_singleton] at hv; rw [hv]; exact hf
  mem v _ := by by_cases e : v = f <;> simp [e]
  par k h1 h2 := by simp at h2; omega
  opn v hv := .inl (List.mem_singleton.1 hv)
  shut k hk := absurd hk (Nat.not_lt_zero _)
theorem getD_app {O : List Nat} {x j : Nat} (h : j < O.length) : (O ++ [x]).getD j 0 = O.getD j 0 := by simp [List.getD, List.getElem?_append_left h]
theorem getD_end {O : List Nat} {x : Nat} : (O ++ [x]).getD O.length 0 = x := by simp [List.getD]
theorem SprI.add (h : SprI N G op f O I i) (hi : i < O.length) {w : Nat} (hw : w < N) (hg : G (O.getD i 0) w = true) (h0 : I w = false) (ho : op w = true) : SprI N G op f (O ++ [w]) (fun q => if q = w then true else I q) i where
  ne := by simp
  hd := by rw [getD_app h.ne]; exact h.hd
  nd := by
    rw [List.nodup_append]
    refine ⟨h.nd, by simp, fun a ha b hb e => ?_⟩
    rw [List.mem_singleton] at hb
    subst hb e
    have := (h.mem a hw).2 ha
    rw [h0] at this; cases this
  lt v hv := by
    rcases List.mem_append.1 hv with k | k
    · exact h.lt v k
    · rw [List.mem_singleton] at k; rw [k]; exact hw
  mem v hv := by
    by_cases e : v = w
    · simp [e]
    · simp [e, h.mem v hv]
  par k h1 h2 := by
    rw [List.length_append, List.length_singleton] at h2
    by_cases e : k = O.length
    · subst e; exact ⟨i, hi, by rw [getD_app hi, getD_end]; exact hg⟩
    · obtain ⟨j, hj, hgj⟩ := h.par k h1 (by omega)
      exact ⟨j, hj, by rw [getD_app (by omega), getD_app (by omega)]; exact hgj⟩
  opn v hv := by
    rcases List.mem_append.1 hv with k | k
    · exact h.opn v k
    · rw [List.mem_singleton] at k; rw [k]; exact .inr ho
  shut k hk w' hw' hg' ho' := by
    rw [getD_app (by omega)] at hg'
    exact List.mem_append_left _ (h.shut k hk w' hw' hg' ho')
theorem SprI.next (h : SprI N G op f O I i) (hs : ∀ w, w < N → G (O.getD i 0) w = true → op w = true → I w = true) : SprI N G op f O I (i + 1) :=
  ⟨h.ne, h.hd, h.nd, h.lt, h.mem, h.par, h.opn, fun k hk w hw hg ho => by
    by_cases e : k = i
    · subst e; exact (h.mem w hw).1 (hs w hw hg ho)
    · exact h.shut k (by omega) w hw hg ho⟩
theorem SprI.getN (h : SprI N G op f O I i) {k : Nat} (hk : k < O.length) : O.getD k 0 < N := h.lt _ (by rw [List.getD, List.getElem?_eq_getElem hk]; exact List.getElem_mem _)
/-- Whole: just what can be reached. -/
theorem SprI.rch (h : SprI N G op f O I O.length) {v : Nat} (hv : v < N) : Rch N G (fun q => !op q) f v ↔ v ∈ O := by
  constructor
  · intro k
    have hf : f ∈ O := by
      have := h.hd
      rw [List.getD, List.getElem?_eq_getElem h.ne, Option.getD_some] at this
      rw [← this]; exact List.getElem_mem _
    clear hv
    induction k with
    | refl => exact hf
    | step _ h1 h2 h3 h4 ih =>
      obtain ⟨j, hj, ej⟩ := List.getElem_of_mem ih
      exact h.shut j hj _ h2 (by rw [List.getD, List.getElem?_eq_getElem hj, Option.getD_some, ej]; exact h3) (by simpa using h4)
  · intro k
    obtain ⟨j, hj, ej⟩ := List.getElem_of_mem k
    have key : ∀ n, ∀ j, j ≤ n → j < O.length → Rch N G (fun q => !op q) f (O.getD j 0) := by
      intro n
      induction n with
      | zero => intro j hj _; rw [show j = 0 by omega, h.hd]; exact .refl
      | succ n ih =>
        intro j hj hjl
        by_cases e : j = 0
        · subst e; rw [h.hd]; exact .refl
        · obtain ⟨p, hp, hgp⟩ := h.par j (by omega) hjl
          have hm : O.getD j 0 ∈ O := by rw [List.getD, List.getElem?_eq_getElem hjl]; exact List.getElem_mem _
          rcases h.opn _ hm with e2 | e2
          · rw [e2]; exact .refl
          · exact .step (ih p (by omega) (by omega)) (h.getN (by omega)) (h.getN hjl) hgp (show (!op _) = false by rw [e2]; rfl)
    have := key j j (Nat.le_refl _) hj
    rw [List.getD, List.getElem?_eq_getElem hj, Option.getD_some, ej] at this
    exact this
/-- Such an order serves: each node but the first has one ahead of it that has no colour yet. -/
theorem SprI.ord (h : SprI N G op f O I i) {D : Nat} {C0 : Nat → Int} {X : Nat → List Nat} (hX : ∀ v w, v < N → (w ∈ X v ↔ w < N ∧ G v w = true)) (hs : ∀ a b, a < N → b < N → G a b = G b a) (hl : ∀ v ∈ O, (X v).length ≤ D) (hC : ∀ v ∈ O, C0 v < 0)
    (h0 : ∀ (C : Nat → Int) (c : Nat), (∀ v, v ∉ O.drop 1 → C v = C0 v) → (∀ k : Nat, k < c → (k : Int) ∈ (X f).map C) → c < D) : OrdO N G D O C0 where
  nd := h.nd
  lt := h.lt
  low k hk C c hold hc := by
    have hm : O.getD k 0 ∈ O := by rw [List.getD, List.getElem?_eq_getElem hk]; exact List.getElem_mem _
    have hin : ∀ q : Nat, q < c → (q : Int) ∈ (X (O.getD k 0)).map C := fun q hq => by
      obtain ⟨w, hw, hg, e⟩ := hc q hq
      exact List.mem_map.2 ⟨w, (hX _ _ (h.getN hk)).2 ⟨hw, hg⟩, e⟩
    by_cases e : k = 0
    · subst e
      rw [h.hd] at hin
      exact h0 C c hold hin
    · obtain ⟨j, hj, hg⟩ := h.par k (by omega) hk
      have hjm : O.getD j 0 ∈ O := by rw [List.getD, List.getElem?_eq_getElem (show j < O.length by omega)]; exact List.getElem_mem _
      have hjn : O.getD j 0 ∉ O.drop (k + 1) := fun hd => by
        obtain ⟨q, hq, eq⟩ := List.getElem_of_mem hd
        rw [List.getElem_drop] at eq
        rw [List.getD, List.getElem?_eq_getElem (show j < O.length by omega), Option.getD_some] at eq
        have := (List.getElem_inj h.nd).1 eq
        omega
      have h1 := hold _ hjn
      have h2 := range_neg hin (x := C (O.getD j 0)) (List.mem_map.2 ⟨_, (hX _ _ (h.getN hk)).2 ⟨h.getN (by omega), by rw [hs _ _ (h.getN hk) (h.getN (by omega))]; exact hg⟩, rfl⟩) (by rw [h1]; exact hC _ hjm)
      rw [List.length_map] at h2
      have := hl _ hm
      omega
end
end Go.Proofs.YtnhhohhhpaejmaaDoor
namespace Go.Proofs.YtnhhohhhpaejmaaDoor
open Go.RowKit

/-- Two nodes part the graph: D on one side, something on the other one. -/
structure Sep (N : Nat) (G : Nat → Nat → Bool) (x y : Nat) (D : Nat → Bool) : Prop where
  hx : x < N
  hy : y < N
  ne : x ≠ y
  dx : D x = false
  dy : D y = false
  some : ∃ d, d < N ∧ D d = true
  shut : ∀ d, d < N → D d = true → ∀ w, w < N → G d w = true → D w = true ∨ w = x ∨ w = y
  other : ∃ z, z < N ∧ D z = false ∧ z ≠ x ∧ z ≠ y
def shutT (x y : Nat) : Nat → Bool := fun q => decide (q = x) || decide (q = y)
def shutO (x : Nat) : Nat → Bool := fun q => decide (q = x)
section
variable {N : Nat} {G : Nat → Nat → Bool}
theorem rch_leave {P : Nat → Prop} {x y s t : Nat} (hP : ∀ d, d < N → P d → ∀ w, w < N → G d w = true → P w ∨ w = x ∨ w = y) (h : Rch N G (shutO y) s t) (hs : P s) : P t ∨ ∃ d, d < N ∧ P d ∧ G d x = true := by
  induction h with
  | refl => exact .inl hs
  | step _ h1 h2 h3 h4 ih =>
    rcases ih with k | k
    · rcases hP _ h1 k _ h2 h3 with k2 | k2 | k2
      · exact .inl k2
      · subst k2; exact .inr ⟨_, h1, k, h3⟩
      · subst k2; simp [shutO] at h4
    · exact .inr k
theorem rch_stay {P : Nat → Prop} {y s t : Nat} (hP : ∀ d, d < N → P d → ∀ w, w < N → G d w = true → P w ∨ w = y) (h : Rch N G (shutO y) s t) (hs : P s) : P t := by
  induction h with
  | refl => exact hs
  | step _ h1 h2 h3 h4 ih =>
    rcases hP _ h1 ih _ h2 h3 with k2 | k2
    · exact k2
    · subst k2; simp [shutO] at h4
/-- A node with two that are not near one another, without which all hang together. -/
def Fork (N : Nat) (G : Nat → Nat → Bool) : Prop := ∃ v a b, v < N ∧ a < N ∧ b < N ∧ G v a = true ∧ G v b = true ∧ a ≠ b ∧ G a b = false ∧ ∀ u, u < N → u ≠ a → u ≠ b → Rch N G (shutT a b) v u
theorem sep_fork (hs : ∀ a b, a < N → b < N → G a b = G b a) (hirr : ∀ a, a < N → G a a = false) (hd : ∀ d, d < N → ∀ x y, ∃ w, w < N ∧ G d w = true ∧ w ≠ x ∧ w ≠ y)
    (hc : ∀ x, x < N → ∀ u v, u < N → v < N → u ≠ x → v ≠ x → Rch N G (shutO x) u v) : ∀ (n : Nat) (x y : Nat) (D : Nat → Bool), Sep N G x y D → cnt D N = n → Fork N G := by
  intro n
  induction n using Nat.strongRecOn with
  | ind n ih =>
    intro x y D h hn
    obtain ⟨d0, hd0, hD0⟩ := h.some
    obtain ⟨z0, hz0, hDz, hzx, hzy⟩ := h.other
    have hd0x : d0 ≠ x := fun e => by rw [e, h.dx] at hD0; cases hD0
    have hd0y : d0 ≠ y := fun e => by rw [e, h.dy] at hD0; cases hD0
    obtain ⟨d, hdN, hDd, hdx⟩ : ∃ d, d < N ∧ D d = true ∧ G d x = true := by
      rcases rch_leave (P := fun q => D q = true) (x := x) (y := y) h.shut (hc y h.hy d0 z0 hd0 hz0 hd0y hzy) hD0 with k | k
      · rw [hDz] at k; cases k
      · exact k
    obtain ⟨c, hcN, ⟨hDc, hcx, hcy⟩, hcG⟩ : ∃ c, c < N ∧ (D c = false ∧ c ≠ x ∧ c ≠ y) ∧ G c x = true := by
      rcases rch_leave (P := fun q => D q = false ∧ q ≠ x ∧ q ≠ y) (x := x) (y := y) (fun q hq hqP w hw hg => by
        by_cases e1 : w = x
        · exact .inr (.inl e1)
        · by_cases e2 : w = y
          · exact .inr (.inr e2)
          · refine .inl ⟨?_, e1, e2⟩
            cases e3 : D w
            · rfl
            · rcases h.shut w hw e3 q hq (by rw [hs _ _ hw hq]; exact hg) with k | k | k
              · rw [hqP.1] at k; cases k
              · exact absurd k hqP.2.1
              · exact absurd k hqP.2.2) (hc y h.hy z0 d0 hz0 hd0 hzy hd0y) ⟨hDz, hzx, hzy⟩ with k | k
      · rw [hD0] at k; cases k.1
      · exact k
    have hdx' : d ≠ x := fun e => by rw [e, h.dx] at hDd; cases hDd
    have hdy' : d ≠ y := fun e => by rw [e, h.dy] at hDd; cases hDd
    have hcd : c ≠ d := fun e => by rw [e, hDd] at hDc; cases hDc
    have hGcd : G c d = false := by
      cases e : G c d
      · rfl
      · rcases h.shut d hdN hDd c hcN (by rw [hs _ _ hdN hcN]; exact e) with k | k | k
        · rw [hDc] at k; cases k
        · exact absurd k hcx
        · exact absurd k hcy
    have hstep : ∀ q w, q < N → w < N → G q w = true → Rch N G (shutT c d) x q → w ≠ c → w ≠ d → Rch N G (shutT c d) x w := fun q w hq hw hg hr h1 h2 => .step hr hq hw hg (by simp [shutT, h1, h2])
    have hfree : ∀ q, Rch N G (shutT c d) x q → q ≠ c ∧ q ≠ d := fun q hr => by
      have := hr.free (by simp [shutT]; exact ⟨fun e => hcx e.symm, fun e => hdx' e.symm⟩)
      simpa [shutT] using this
    by_cases hy : Rch N G (shutT c d) x y
    · refine ⟨x, c, d, h.hx, hcN, hdN, by rw [hs _ _ h.hx hcN]; exact hcG, by rw [hs _ _ h.hx hdN]; exact hdx, hcd, hGcd, fun u hu huc hud => Classical.byContradiction fun hnu => ?_⟩
      by_cases hDu : D u = true
      · have hP := rch_stay (P := fun q => D q = true ∧ q ≠ d ∧ ¬ Rch N G (shutT c d) x q) (y := d) (fun q hq hqP w hw hg => by
          obtain ⟨k1, k2, k3⟩ := hqP
          have hqc : q ≠ c := fun e => by rw [e, hDc] at k1; cases k1
          by_cases e : w = d
          · exact .inr e
          · left
            have hwr : ¬ Rch N G (shutT c d) x w := fun hr => k3 (hstep w q hw hq (by rw [hs _ _ hw hq]; exact hg) hr hqc k2)
            rcases h.shut q hq k1 w hw hg with k | k | k
            · exact ⟨k, e, hwr⟩
            · subst k; exact absurd .refl hwr
            · subst k; exact absurd hy hwr) (hc d hdN u x hu h.hx hud (fun e => hdx' e.symm)) ⟨hDu, hud, hnu⟩
        have := hP.1
        rw [h.dx] at this; cases this
      · have hux : u ≠ x := fun e => by subst e; exact hnu .refl
        have huy : u ≠ y := fun e => by subst e; exact hnu hy
        have hP := rch_stay (P := fun q => D q = false ∧ q ≠ x ∧ q ≠ y ∧ q ≠ c ∧ ¬ Rch N G (shutT c d) x q) (y := c) (fun q hq hqP w hw hg => by
          obtain ⟨k1, k2, k3, hqc, k4⟩ := hqP
          have hqd : q ≠ d := fun e => by rw [e, hDd] at k1; cases k1
          by_cases e : w = c
          · exact .inr e
          · left
            have hwr : ¬ Rch N G (shutT c d) x w := fun hr => k4 (hstep w q hw hq (by rw [hs _ _ hw hq]; exact hg) hr hqc hqd)
            refine ⟨?_, fun e => by subst e; exact hwr .refl, fun e => by subst e; exact hwr hy, e, hwr⟩
            cases e3 : D w
            · rfl
            · rcases h.shut w hw e3 q hq (by rw [hs _ _ hw hq]; exact hg) with k | k | k
              · rw [k1] at k; cases k
              · exact absurd k k2
              · exact absurd k k3) (hc c hcN u x hu h.hx huc (fun e => hcx e.symm)) ⟨by simpa using hDu, hux, huy, huc, hnu⟩
        exact absurd rfl hP.2.1
    · have hDD : ∀ (E : Nat → Bool), (∀ q, q < N → E q = true → D q = true) → E d = false → cnt E N < n := fun E h1 h2 => by
        rw [← hn]; exact cnt_more h1 hdN h2 hDd
      have hyd : y ≠ d := fun e => hdy' e.symm
      have hyc : y ≠ c := fun e => hcy e.symm
      have hrd : rchB N G (shutT c d) x d = false := by
        cases e : rchB N G (shutT c d) x d
        · rfl
        · exact absurd rfl (hfree d (rchB_iff.1 e)).2
      by_cases h1 : ∃ q, q < N ∧ (D q && rchB N G (shutT c d) x q) = true
      · obtain ⟨q0, hq0, hq1⟩ := h1
        refine ih _ (hDD (fun q => D q && rchB N G (shutT c d) x q) (fun q _ hq => by simp at hq; exact hq.1) (by simp [hrd])) x d (fun q => D q && rchB N G (shutT c d) x q) ⟨h.hx, hdN, fun e => hdx' e.symm, by simp [h.dx], by simp [hrd], ⟨q0, hq0, hq1⟩, fun q hq hqD w hw hg => ?_, ⟨y, h.hy, by simp [h.dy], fun e => h.ne e.symm, hyd⟩⟩ rfl
        simp only [Bool.and_eq_true, rchB_iff] at hqD ⊢
        rcases h.shut q hq hqD.1 w hw hg with k | k | k
        · by_cases e : w = d
          · exact .inr (.inr e)
          · refine .inl ⟨k, hstep q w hq hw hg hqD.2 (fun e => by rw [e, hDc] at k; cases k) e⟩
        · exact .inr (.inl k)
        · subst k; exact absurd (hstep q w hq hw hg hqD.2 hyc hyd) hy
      · have hno : ∀ q, q < N → D q = true → ¬ Rch N G (shutT c d) x q := fun q hq hDq hr => h1 ⟨q, hq, by simp [hDq, rchB_iff.2 hr]⟩
        by_cases h2 : ∃ q, q < N ∧ (D q && !decide (q = d)) = true
        · obtain ⟨q0, hq0, hq1⟩ := h2
          refine ih _ (hDD (fun q => D q && !decide (q = d)) (fun q _ hq => by simp at hq; exact hq.1) (by simp)) d y (fun q => D q && !decide (q = d)) ⟨hdN, h.hy, hdy', by simp, by simp [h.dy], ⟨q0, hq0, hq1⟩, fun q hq hqD w hw hg => ?_, ⟨x, h.hx, by simp [h.dx], fun e => hdx' e.symm, h.ne⟩⟩ rfl
          simp only [Bool.and_eq_true, Bool.not_eq_true', decide_eq_false_iff_not] at hqD ⊢
          rcases h.shut q hq hqD.1 w hw hg with k | k | k
          · by_cases e : w = d
            · exact .inr (.inl e)
            · exact .inl ⟨k, e⟩
          · subst k
            exact absurd (hstep w q hw hq (by rw [hs _ _ hw hq]; exact hg) .refl (fun e => by rw [e, hDc] at hqD; cases hqD.1) hqD.2) (hno q hq hqD.1)
          · exact .inr (.inr k)
        · obtain ⟨w, hw, hg, hwx, hwy⟩ := hd d hdN x y
          rcases h.shut d hdN hDd w hw hg with k | k | k
          · by_cases e : w = d
            · subst e; rw [hirr w hw] at hg; cases hg
            · exact absurd ⟨w, hw, by simp [k, e]⟩ h2
          · exact absurd k hwx
          · exact absurd k hwy
theorem fork_ex (hs : ∀ a b, a < N → b < N → G a b = G b a) (hirr : ∀ a, a < N → G a a = false) (hd : ∀ d, d < N → ∀ x y, ∃ w, w < N ∧ G d w = true ∧ w ≠ x ∧ w ≠ y)
    (hc : ∀ x, x < N → ∀ u v, u < N → v < N → u ≠ x → v ≠ x → Rch N G (shutO x) u v) (hcon : ∀ u v, u < N → v < N → Rch N G (fun _ => false) u v) (hne : ∃ u v, u < N ∧ v < N ∧ u ≠ v ∧ G u v = false) : Fork N G := by
  by_cases hsep : ∃ x y D, Sep N G x y D
  · obtain ⟨x, y, D, h⟩ := hsep
    exact sep_fork hs hirr hd hc _ x y D h rfl
  · obtain ⟨u, v, hu, hv, huv, hg⟩ := hne
    have key : ∀ b, Rch N G (fun _ => false) u b → b = u ∨ G u b = true ∨ ∃ m c, m < N ∧ c < N ∧ G m u = true ∧ G m c = true ∧ u ≠ c ∧ G u c = false := by
      intro b hb
      induction hb with
      | refl => exact .inl rfl
      | @step b c _ h1 h2 h3 _ ih =>
        rcases ih with k | k | k
        · subst k; exact .inr (.inl h3)
        · by_cases e : c = u
          · exact .inl e
          · cases e2 : G u c
            · exact .inr (.inr ⟨b, c, h1, h2, by rw [hs _ _ h1 hu]; exact k, h3, fun e' => e e'.symm, e2⟩)
            · exact .inr (.inl rfl)
        · exact .inr (.inr k)
    rcases key v (hcon u v hu hv) with k | k | ⟨m, c, hm, hcN, h1, h2, h3, h4⟩
    · exact absurd k.symm huv
    · rw [hg] at k; cases k
    · refine ⟨m, u, c, hm, hu, hcN, h1, h2, h3, h4, fun q hq hqu hqc => Classical.byContradiction fun hnr => hsep ⟨u, c, fun p => decide (p < N) && rchB N G (shutT u c) m p, ?_⟩⟩
      have hmu : m ≠ u := fun e => by rw [e, hirr u hu] at h1; cases h1
      have hmc : m ≠ c := fun e => by rw [e, hirr c hcN] at h2; cases h2
      have hfree : ∀ q, Rch N G (shutT u c) m q → q ≠ u ∧ q ≠ c := fun q hr => by
        have := hr.free (by simp [shutT, hmu, hmc])
        simpa [shutT] using this
      have hnoB : ∀ q, ¬ Rch N G (shutT u c) m q → rchB N G (shutT u c) m q = false := fun q hq => by
        cases e : rchB N G (shutT u c) m q
        · rfl
        · exact absurd (rchB_iff.1 e) hq
      refine ⟨hu, hcN, h3, by rw [hnoB u fun hr => (hfree u hr).1 rfl]; simp, by rw [hnoB c fun hr => (hfree c hr).2 rfl]; simp, ⟨m, hm, by simp [hm, rchB_iff.2 .refl]⟩, fun d hd' hD w hw hg' => ?_, ⟨q, hq, by rw [hnoB q hnr]; simp, hqu, hqc⟩⟩
      simp only [Bool.and_eq_true, rchB_iff, decide_eq_true_eq] at hD ⊢
      by_cases e1 : w = u
      · exact .inr (.inl e1)
      · by_cases e2 : w = c
        · exact .inr (.inr e2)
        · exact .inl ⟨hw, .step hD.2 hd' hw hg' (by simp [shutT, e1, e2])⟩
end
end Go.Proofs.YtnhhohhhpaejmaaDoor
namespace Go.Proofs.YtnhhohhhpaejmaaDoor
open Go.RowKit

theorem nodup_ltC : ∀ (n : Nat) (l : List Nat), l.Nodup → (∀ v ∈ l, v < n) → l.length ≤ n := by
  intro n
  induction n with
  | zero =>
    intro l _ h
    cases l with
    | nil => exact Nat.le_refl _
    | cons a l => exact absurd (h a (by simp)) (Nat.not_lt_zero _)
  | succ n ih =>
    intro l hd h
    have h1 := ih (l.erase n) (hd.erase _) fun v hv => by
      have h2 := h v (List.mem_of_mem_erase hv)
      have h3 : v ≠ n := fun e => by rw [e] at hv; exact (List.Nodup.not_mem_erase hd) hv
      omega
    have h2 := List.length_erase (a := n) (l := l)
    split at h2 <;> omega
/-- A colouring with colours below D. -/
def ColD (N : Nat) (G : Nat → Nat → Bool) (D : Nat) (C : Nat → Int) : Prop := (∀ v, v < N → 0 ≤ C v ∧ C v < D) ∧ ∀ v w, v < N → w < N → G v w = true → C v ≠ C w
/-- What is known of a graph and its rows of neighbours. -/
structure NrOk (N : Nat) (G : Nat → Nat → Bool) (X : Nat → List Nat) : Prop where
  sym : ∀ a b, a < N → b < N → G a b = G b a
  irr : ∀ a, a < N → G a a = false
  mem : ∀ v w, v < N → (w ∈ X v ↔ w < N ∧ G v w = true)
  nd : ∀ v, v < N → (X v).Nodup
section
variable {N D : Nat} {G : Nat → Nat → Bool} {X : Nat → List Nat}
theorem brch_sym (h : NrOk N G X) {S : Nat → Bool} {a b : Nat} (ha : S a = false) (k : Rch N G S a b) : Rch N G S b a := by
  induction k with
  | refl => exact .refl
  | @step b c hr h1 h2 h3 h4 ih => exact Rch.trans (.step .refl h2 h1 (by rw [h.sym _ _ h2 h1]; exact h3) (hr.free ha)) ih
theorem rch_less {S T : Nat → Bool} (hST : ∀ q, T q = true → S q = true) {a b : Nat} (k : Rch N G S a b) : Rch N G T a b := by
  induction k with
  | refl => exact .refl
  | @step b c hr h1 h2 h3 h4 ih => exact .step ih h1 h2 h3 (by
    cases e : T c with
    | false => rfl
    | true => rw [hST c e] at h4; cases h4)

/-- An order over all nodes from one of few neighbours. -/
theorem col_low (h : NrOk N G X) {f : Nat} {O : List Nat} {I : Nat → Bool} (hO : SprI N G (fun _ => true) f O I O.length) (hf : f < N) (hD : ∀ v, v < N → (X v).length ≤ D) (hl : (X f).length < D) :
    OrdO N G D O (fun _ => -1) :=
  hO.ord (X := X) h.mem h.sym (fun v hv => hD v (hO.lt v hv)) (fun _ _ => by omega) fun C c _ hc => by
    have := range_in hc
    rw [List.length_map] at this
    omega
theorem back_all {O : List Nat} {C : Nat → Int} {C0 : Nat → Int} (h : BackI N G D O C0 C 0) (hall : ∀ v, v < N → v ∈ O) : ColD N G D C :=
  ⟨fun v hv => h.rng v (by simpa using hall v hv), fun v w hv hw hg => h.ok v (by simpa using hall v hv) w hw hg⟩
theorem spr_all {f : Nat} {O : List Nat} {I : Nat → Bool} (hO : SprI N G (fun _ => true) f O I O.length) (hcon : ∀ u v, u < N → v < N → Rch N G (fun _ => false) u v) (hf : f < N) : ∀ v, v < N → v ∈ O := fun v hv => (hO.rch hv).1 (by simpa using hcon f v hf hv)

/-- Colours at a cut x: what is done; the first j of its neighbours are through. -/
structure CutI (N : Nat) (G : Nat → Nat → Bool) (X : Nat → List Nat) (D x : Nat) (dn : Nat → Bool) (K : Nat → Int) (j : Nat) : Prop where
  at' : dn x = true
  shut : ∀ v w, v < N → w < N → dn v = true → v ≠ x → G v w = true → dn w = true
  near : ∀ k, k < j → dn ((X x).getD k 0) = true
  zero : (∃ v, v < N ∧ v ≠ x ∧ dn v = true) → K x = 0
  rng : ∀ v, v < N → v ≠ x → dn v = true → 0 ≤ K v ∧ K v < D
  ok : ∀ v w, v < N → w < N → dn v = true → dn w = true → G v w = true → K v ≠ K w
theorem CutI.start (hX : NrOk N G X) {x : Nat} (hx : x < N) : CutI N G X D x (fun q => if q = x then true else false) (fun _ => -1) 0 where
  at' := by simp
  shut v w _ _ h1 h2 := by simp [h2] at h1
  near k hk := absurd hk (Nat.not_lt_zero _)
  zero h := by
    obtain ⟨v, _, h1, h2⟩ := h
    simp [h1] at h2
  rng v _ h1 h2 := by simp [h1] at h2
  ok v w hv _ h1 h2 hg := by
    simp at h1 h2
    subst h1 h2
    rw [hX.irr _ hx] at hg; cases hg
theorem CutI.next {x j : Nat} {dn : Nat → Bool} {K : Nat → Int} (h : CutI N G X D x dn K j) (hj : dn ((X x).getD j 0) = true) : CutI N G X D x dn K (j + 1) :=
  ⟨h.at', h.shut, fun k hk => by
    by_cases e : k = j
    · subst e; exact hj
    · exact h.near k (by omega), h.zero, h.rng, h.ok⟩
/-- The swapped colours of a part. -/
def swapC (c s : Int) : Int := if s = c then 0 else if s = 0 then c else s
theorem swapC_inj {c a b : Int} (h : swapC c a = swapC c b) : a = b := by
  unfold swapC at h
  split at h <;> split at h <;> (try split at h) <;> (try split at h) <;> omega
/-- The order from the cut within a part: each node finds a colour. -/
theorem cut_ord (hX : NrOk N G X) {x w : Nat} (hx : x < N) (hw : w < N) (hD : ∀ v, v < N → (X v).length ≤ D) (hcut : ∃ a b, a < N ∧ b < N ∧ G x a = true ∧ G x b = true ∧ ¬ Rch N G (shutO x) a b)
    {O1 O2 : List Nat} {I1 I2 : Nat → Bool} (h1 : SprI N G (fun q => !decide (q = x)) w O1 I1 O1.length) (hwx : w ≠ x) (hin : Nat → Bool) (hIn : ∀ q, q < N → (hin q = true ↔ q = x ∨ q ∈ O1)) (h2 : SprI N G hin x O2 I2 O2.length) : OrdO N G D O2 (fun _ => -1) := by
  refine h2.ord (X := X) hX.mem hX.sym (fun v hv => hD v (h2.lt v hv)) (fun _ _ => by omega) fun C c hold hc => ?_
  obtain ⟨a, b, ha, hb, hga, hgb, hab⟩ := hcut
  have hS : (fun q => !(fun q => !decide (q = x)) q) = shutO x := by funext q; simp [shutO]
  have hno : ∃ z, z < N ∧ G x z = true ∧ z ∉ O1 := Classical.byContradiction fun hn => hab (by
    have k1 : Rch N G (shutO x) w a := by rw [← hS]; exact (h1.rch ha).2 (Classical.byContradiction fun k => hn ⟨a, ha, hga, k⟩)
    have k2 : Rch N G (shutO x) w b := by rw [← hS]; exact (h1.rch hb).2 (Classical.byContradiction fun k => hn ⟨b, hb, hgb, k⟩)
    exact Rch.trans (brch_sym hX (by simp [shutO, hwx]) k1) k2)
  obtain ⟨z, hz, hgz, hzO⟩ := hno
  have hzx : z ≠ x := fun e => by subst e; rw [hX.irr z hz] at hgz; cases hgz
  have hz2 : z ∉ O2 := fun hm => by
    rcases h2.opn z hm with k | k
    · exact hzx k
    · rcases (hIn z hz).1 k with k | k
      · exact hzx k
      · exact hzO k
  have hCz : C z = -1 := hold z fun hm => hz2 (List.mem_of_mem_drop hm)
  have := range_neg hc (x := C z) (List.mem_map.2 ⟨z, (hX.mem x z hx).2 ⟨hz, hgz⟩, rfl⟩) (by rw [hCz]; omega)
  rw [List.length_map] at this
  have := hD x hx
  omega
/-- All of the part stands in the order from the cut. -/
theorem cut_all (hX : NrOk N G X) {x w : Nat} (hx : x < N) (hw : w < N) (hg : G x w = true) {O1 O2 : List Nat} {I1 I2 : Nat → Bool} (h1 : SprI N G (fun q => !decide (q = x)) w O1 I1 O1.length) (hwx : w ≠ x) (hin : Nat → Bool) (hIn : ∀ q, q < N → (hin q = true ↔ q = x ∨ q ∈ O1)) (h2 : SprI N G hin x O2 I2 O2.length) :
    ∀ q, q < N → (q ∈ O2 ↔ q = x ∨ q ∈ O1) := by
  intro q hq
  constructor
  · intro k
    rcases h2.opn q k with k | k
    · exact .inl k
    · exact (hIn q hq).1 k
  · intro k
    have hx2 : x ∈ O2 := (h2.rch hx).1 .refl
    rcases k with k | k
    · subst k; exact hx2
    · have hr := (h1.rch hq).2 k
      have key : ∀ q, Rch N G (fun q => !(fun q => !decide (q = x)) q) w q → q ∈ O1 ∧ q < N ∧ Rch N G (fun q => !hin q) x q := by
        intro q hr
        induction hr with
        | refl =>
          have hm : w ∈ O1 := (h1.rch hw).1 .refl
          exact ⟨hm, hw, .step .refl hx hw hg (by rw [(hIn w hw).2 (.inr hm)]; rfl)⟩
        | @step b c hr' k1 k2 k3 k4 ih =>
          have hm : c ∈ O1 := (h1.rch k2).1 (.step hr' k1 k2 k3 k4)
          exact ⟨hm, k2, .step ih.2.2 k1 k2 k3 (by rw [(hIn c k2).2 (.inr hm)]; rfl)⟩
      exact (h2.rch hq).1 (key q hr).2.2
theorem CutI.add (hX : NrOk N G X) {x w j : Nat} {dn : Nat → Bool} {K C : Nat → Int} (h : CutI N G X D x dn K j) (hx : x < N) (hw : w < N) (hwj : (X x).getD j 0 = w) (hwd : dn w = false)
    {O1 O2 : List Nat} {I1 : Nat → Bool} (h1 : SprI N G (fun q => !decide (q = x)) w O1 I1 O1.length) (h2 : ∀ q, q < N → (q ∈ O2 ↔ q = x ∨ q ∈ O1)) (hC : BackI N G D O2 (fun _ => -1) C 0) (hin dn2 : Nat → Bool) (K2 : Nat → Int) (hIn : ∀ q, q < N → (hin q = true ↔ q = x ∨ q ∈ O1))
    (hd2 : ∀ q, q < N → (dn2 q = true ↔ dn q = true ∨ q ∈ O1)) (hK : ∀ q, q < N → K2 q = if hin q = true then swapC (C x) (C q) else K q) : CutI N G X D x dn2 K2 (j + 1) := by
  have hwO : w ∈ O1 := (h1.rch hw).1 .refl
  have hwx : w ≠ x := fun e => by subst e; rw [h.at'] at hwd; cases hwd
  have hS : (fun q => !(fun q => !decide (q = x)) q) = shutO x := by funext q; simp [shutO]
  have hO1x : ∀ q ∈ O1, q ≠ x := fun q hq => by
    rcases h1.opn q hq with k | k
    · rw [k]; exact hwx
    · simpa using k
  have hcl1 : ∀ v u, v < N → u < N → v ∈ O1 → G v u = true → u ≠ x → u ∈ O1 := fun v u hv hu hm hg hne => (h1.rch hu).1 (.step ((h1.rch hv).2 hm) hv hu hg (by simp [hne]))
  have hdO : ∀ q, q < N → dn q = true → q ∉ O1 := fun q hq hd hm => by
    -- q done, hence all its part is done, w too
    have hr : Rch N G (shutO x) q w := brch_sym hX (by simp [shutO, hwx]) (by rw [← hS]; exact (h1.rch hq).2 hm)
    have hqx := hO1x q hm
    have : ∀ p, Rch N G (shutO x) q p → dn p = true ∧ p < N ∧ p ≠ x := by
      intro p hp
      induction hp with
      | refl => exact ⟨hd, hq, hqx⟩
      | @step b c _ k1 k2 k3 k4 ih => exact ⟨h.shut b c k1 k2 ih.1 ih.2.2 k3, k2, by simpa [shutO] using k4⟩
    have := (this w hr).1
    rw [hwd] at this; cases this
  have hxin : hin x = true := (hIn x hx).2 (.inl rfl)
  have hKx : K2 x = 0 := by rw [hK x hx, if_pos hxin]; simp [swapC]
  have hm2 : ∀ q, q < N → q = x ∨ q ∈ O1 → q ∈ O2.drop 0 := fun q hq hh => by simpa using (h2 q hq).2 hh
  refine ⟨(hd2 x hx).2 (.inl h.at'), fun v u hv hu hd hne hg => ?_, fun k hk => ?_, fun _ => hKx, fun v hv hne hd => ?_, fun v u hv hu hdv hdu hg => ?_⟩
  · by_cases e : u = x
    · subst e; exact (hd2 u hu).2 (.inl h.at')
    · rcases (hd2 v hv).1 hd with k | k
      · exact (hd2 u hu).2 (.inl (h.shut v u hv hu k hne hg))
      · exact (hd2 u hu).2 (.inr (hcl1 v u hv hu k hg e))
  · by_cases e : k = j
    · subst e; rw [hwj]; exact (hd2 w hw).2 (.inr hwO)
    · by_cases hl : k < (X x).length
      · have hkN : (X x).getD k 0 < N := ((hX.mem x _ hx).1 (by rw [List.getD, List.getElem?_eq_getElem hl]; exact List.getElem_mem _)).1
        exact (hd2 _ hkN).2 (.inl (h.near k (by omega)))
      · have e0 : (X x).getD k 0 = 0 := by rw [List.getD, List.getElem?_eq_none (by omega)]; rfl
        rw [e0]
        have := h.near k (by omega)
        rw [e0] at this
        exact (hd2 0 (by omega)).2 (.inl this)
  · rcases (hd2 v hv).1 hd with k | k
    · have : hin v ≠ true := fun e => by
        rcases (hIn v hv).1 e with k2 | k2
        · exact hne k2
        · exact hdO v hv k k2
      rw [hK v hv, if_neg this]
      exact h.rng v hv hne k
    · have h3 := hC.rng v (hm2 v hv (.inr k))
      have h4 := hC.rng x (hm2 x hx (.inl rfl))
      rw [hK v hv, if_pos ((hIn v hv).2 (.inr k))]
      unfold swapC
      split
      · omega
      · split <;> omega
  · have hcase : ∀ q, q < N → dn2 q = true → (hin q = true ∧ (q = x ∨ q ∈ O1)) ∨ (hin q ≠ true ∧ q ≠ x ∧ dn q = true ∧ q ∉ O1) := fun q hq hd => by
      by_cases e : hin q = true
      · exact .inl ⟨e, (hIn q hq).1 e⟩
      · have k1 : q ≠ x := fun k => e ((hIn q hq).2 (.inl k))
        have k2 : q ∉ O1 := fun k => e ((hIn q hq).2 (.inr k))
        exact .inr ⟨e, k1, ((hd2 q hq).1 hd).resolve_right k2, k2⟩
    rcases hcase v hv hdv with ⟨a1, a2⟩ | ⟨a1, a2, a3, a4⟩ <;> rcases hcase u hu hdu with ⟨b1, b2⟩ | ⟨b1, b2, b3, b4⟩
    · rw [hK v hv, hK u hu, if_pos a1, if_pos b1]
      exact fun e => hC.ok v (hm2 v hv a2) u hu hg (swapC_inj e)
    · rcases a2 with a2 | a2
      · subst a2
        rw [hKx, hK u hu, if_neg b1]
        have h5 := h.ok v u hv hu h.at' b3 hg
        have h6 := h.zero ⟨u, hu, b2, b3⟩
        rw [h6] at h5; exact h5
      · exact absurd (hcl1 v u hv hu a2 hg b2) b4
    · rcases b2 with b2 | b2
      · subst b2
        rw [hKx, hK v hv, if_neg a1]
        have h5 := h.ok v u hv hu a3 h.at' hg
        have h6 := h.zero ⟨v, hv, a2, a3⟩
        rw [h6] at h5; exact h5
      · exact absurd (hcl1 u v hu hv b2 (by rw [hX.sym _ _ hu hv]; exact hg) a2) a4
    · rw [hK v hv, hK u hu, if_neg a1, if_neg b1]
      exact h.ok v u hv hu a3 b3 hg
theorem CutI.fin (hX : NrOk N G X) {x : Nat} {dn : Nat → Bool} {K : Nat → Int} (h : CutI N G X D x dn K (X x).length) (hx : x < N) (hcon : ∀ u v, u < N → v < N → Rch N G (fun _ => false) u v) (hex : ∃ a, a < N ∧ G x a = true) (hD : 0 < D) : ColD N G D K := by
  have hnr : ∀ v, v < N → G x v = true → dn v = true := fun v hv hg => by
    obtain ⟨k, hk, ek⟩ := List.getElem_of_mem ((hX.mem x v hx).2 ⟨hv, hg⟩)
    have := h.near k hk
    rw [List.getD, List.getElem?_eq_getElem hk, Option.getD_some, ek] at this
    exact this
  have hall : ∀ v, v < N → dn v = true := fun v hv => by
    have hr := hcon x v hx hv
    clear hv
    induction hr with
    | refl => exact h.at'
    | @step b c _ k1 k2 k3 _ ih =>
      by_cases e : b = x
      · subst e; exact hnr c k2 k3
      · exact h.shut b c k1 k2 ih e k3
  obtain ⟨a, ha, hga⟩ := hex
  have hax : a ≠ x := fun e => by rw [e, hX.irr x hx] at hga; cases hga
  have hz := h.zero ⟨a, ha, hax, hall a ha⟩
  refine ⟨fun v hv => ?_, fun v w hv hw hg => h.ok v w hv hw (hall v hv) (hall w hw) hg⟩
  by_cases e : v = x
  · subst e; rw [hz]; omega
  · exact h.rng v hv e (hall v hv)

/-- All but two nodes: a and b have the colour 0 at first. -/
def twoC (a b : Nat) : Nat → Int := fun q => if q = a ∨ q = b then 0 else -1
theorem two_ord (hX : NrOk N G X) {v a b : Nat} (hv : v < N) (ha : a < N) (hb : b < N) (hga : G v a = true) (hgb : G v b = true) (hne : a ≠ b) (hD : ∀ v, v < N → (X v).length ≤ D) {O : List Nat} {I : Nat → Bool} (h : SprI N G (fun q => !decide (q = a) && !decide (q = b)) v O I O.length) :
    OrdO N G D O (twoC a b) := by
  have hva : v ≠ a := fun e => by subst e; rw [hX.irr v hv] at hga; cases hga
  have hvb : v ≠ b := fun e => by subst e; rw [hX.irr v hv] at hgb; cases hgb
  have hO : ∀ q ∈ O, q ≠ a ∧ q ≠ b := fun q hq => by
    rcases h.opn q hq with k | k
    · rw [k]; exact ⟨hva, hvb⟩
    · simpa using k
  refine h.ord (X := X) hX.mem hX.sym (fun v hv => hD v (h.lt v hv)) (fun q hq => by unfold twoC; rw [if_neg (fun e => e.elim (hO q hq).1 (hO q hq).2)]; omega) fun C c hold hc => ?_
  have e1 : C a = 0 := by rw [hold a fun hm => (hO a (List.mem_of_mem_drop hm)).1 rfl]; simp [twoC]
  have e2 : C b = 0 := by rw [hold b fun hm => (hO b (List.mem_of_mem_drop hm)).2 rfl]; simp [twoC]
  have hnn : ¬ ((X v).map C).Nodup := fun hd => by
    obtain ⟨i, hi, ei⟩ := List.getElem_of_mem ((hX.mem v a hv).2 ⟨ha, hga⟩)
    obtain ⟨j, hj, ej⟩ := List.getElem_of_mem ((hX.mem v b hv).2 ⟨hb, hgb⟩)
    have : i = j := (List.getElem_inj hd (i := i) (j := j) (h₀ := by simpa using hi) (h₁ := by simpa using hj)).1 (by rw [List.getElem_map, List.getElem_map, ei, ej, e1, e2])
    subst this
    exact hne (ei.symm.trans ej)
  have := range_two hc hnn
  rw [List.length_map] at this
  have := hD v hv
  omega
theorem two_len (hX : NrOk N G X) {v a b : Nat} (hv : v < N) (ha : a < N) (hb : b < N) (hga : G v a = true) (hgb : G v b = true) (hne : a ≠ b) {O : List Nat} {I : Nat → Bool} (h : SprI N G (fun q => !decide (q = a) && !decide (q = b)) v O I O.length) : O.length + 2 = N ↔ ∀ q, q < N → q ≠ a → q ≠ b → q ∈ O := by
  have hva : v ≠ a := fun e => by subst e; rw [hX.irr v hv] at hga; cases hga
  have hvb : v ≠ b := fun e => by subst e; rw [hX.irr v hv] at hgb; cases hgb
  have hO : ∀ q ∈ O, q ≠ a ∧ q ≠ b := fun q hq => by
    rcases h.opn q hq with k | k
    · rw [k]; exact ⟨hva, hvb⟩
    · simpa using k
  have hnd : (a :: b :: O).Nodup := by
    rw [List.nodup_cons, List.nodup_cons]
    exact ⟨by rw [List.mem_cons]; exact fun k => k.elim hne fun k => (hO a k).1 rfl, fun k => (hO b k).2 rfl, h.nd⟩
  have hlt : ∀ q ∈ a :: b :: O, q < N := fun q hq => by
    rcases List.mem_cons.1 hq with k | k
    · rw [k]; exact ha
    · rcases List.mem_cons.1 k with k | k
      · rw [k]; exact hb
      · exact h.lt q k
  have hle := nodup_ltC N _ hnd hlt
  simp only [List.length_cons] at hle
  constructor
  · intro e q hq h1 h2
    refine Classical.byContradiction fun hn => ?_
    have := nodup_ltC N (q :: a :: b :: O) (List.nodup_cons.2 ⟨by rw [List.mem_cons, List.mem_cons]; exact fun k => k.elim h1 fun k => k.elim h2 hn, hnd⟩) fun p hp => by
      rcases List.mem_cons.1 hp with k | k
      · rw [k]; exact hq
      · exact hlt p k
    simp only [List.length_cons] at this
    omega
  · intro hall
    have : ∀ (n : Nat) (L : List Nat), L.Nodup → (∀ q, q < n → q ∈ L) → n ≤ L.length := by
      intro n
      induction n with
      | zero => intro L _ _; exact Nat.zero_le _
      | succ n ih =>
        intro L hd hl
        have h1 := ih (L.erase n) (hd.erase _) fun q hq => (List.mem_erase_of_ne (by omega)).2 (hl q (by omega))
        have h2 := List.length_erase_of_mem (hl n (by omega))
        have h3 := List.length_pos_of_mem (hl n (by omega))
        omega
    have := this N (a :: b :: O) hnd fun q hq => by
      by_cases e1 : q = a
      · subst e1; simp
      · by_cases e2 : q = b
        · subst e2; simp
        · simp [hall q hq e1 e2]
    simp only [List.length_cons] at this
    omega
theorem two_op (a b : Nat) : (fun q => !(fun q => !decide (q = a) && !decide (q = b)) q) = shutT a b := by funext q; simp [shutT]
theorem two_all (hX : NrOk N G X) {v a b : Nat} (hv : v < N) (ha : a < N) (hb : b < N) (hga : G v a = true) (hgb : G v b = true) (hne : a ≠ b) {O : List Nat} {I : Nat → Bool} (h : SprI N G (fun q => !decide (q = a) && !decide (q = b)) v O I O.length) : O.length + 2 = N ↔ ∀ u, u < N → u ≠ a → u ≠ b → Rch N G (shutT a b) v u := by
  rw [two_len hX hv ha hb hga hgb hne h]
  constructor
  · intro k u hu h1 h2
    have := (h.rch hu).2 (k u hu h1 h2)
    rw [two_op] at this; exact this
  · intro k u hu h1 h2
    exact (h.rch hu).1 (by rw [two_op]; exact k u hu h1 h2)
theorem two_not (hX : NrOk N G X) {v a b : Nat} (hv : v < N) (hga : G v a = true) (hgb : G v b = true) {O : List Nat} {I : Nat → Bool} (h : SprI N G (fun q => !decide (q = a) && !decide (q = b)) v O I O.length) : a ∉ O ∧ b ∉ O := by
  have hva : v ≠ a := fun e => by subst e; rw [hX.irr v hv] at hga; cases hga
  have hvb : v ≠ b := fun e => by subst e; rw [hX.irr v hv] at hgb; cases hgb
  refine ⟨fun hm => ?_, fun hm => ?_⟩
  · rcases h.opn a hm with k | k
    · exact hva k.symm
    · simp at k
  · rcases h.opn b hm with k | k
    · exact hvb k.symm
    · simp at k
theorem two_col (hX : NrOk N G X) {a b : Nat} (ha : a < N) (hb : b < N) (hab : G a b = false) (hD : 0 < D) {O : List Nat} {C : Nat → Int} (h : BackI N G D O (twoC a b) C 0) (hall : ∀ q, q < N → q ≠ a → q ≠ b → q ∈ O) (hO : a ∉ O ∧ b ∉ O) : ColD N G D C := by
  have ca : C a = 0 := by rw [h.old a (by simpa using hO.1)]; simp [twoC]
  have cb : C b = 0 := by rw [h.old b (by simpa using hO.2)]; simp [twoC]
  have hin : ∀ q, q < N → q ≠ a → q ≠ b → q ∈ O.drop 0 := fun q hq h1 h2 => by simpa using hall q hq h1 h2
  refine ⟨fun v hv => ?_, fun v w hv hw hg => ?_⟩
  · by_cases e1 : v = a
    · subst e1; rw [ca]; omega
    · by_cases e2 : v = b
      · subst e2; rw [cb]; omega
      · exact h.rng v (hin v hv e1 e2)
  · by_cases hvO : v ≠ a ∧ v ≠ b
    · exact h.ok v (hin v hv hvO.1 hvO.2) w hw hg
    · by_cases hwO : w ≠ a ∧ w ≠ b
      · exact fun e => h.ok w (hin w hw hwO.1 hwO.2) v hv (by rw [hX.sym _ _ hw hv]; exact hg) e.symm
      · exfalso
        have hba : G b a = false := by rw [hX.sym _ _ hb ha]; exact hab
        have h1 : v = a ∨ v = b := by
          by_cases e : v = a
          · exact .inl e
          · exact .inr (Classical.byContradiction fun e2 => hvO ⟨e, e2⟩)
        have h2 : w = a ∨ w = b := by
          by_cases e : w = a
          · exact .inl e
          · exact .inr (Classical.byContradiction fun e2 => hwO ⟨e, e2⟩)
        rcases h1 with h1 | h1 <;> rcases h2 with h2 | h2 <;> rw [h1, h2] at hg
        · rw [hX.irr _ ha] at hg; cases hg
        · rw [hab] at hg; cases hg
        · rw [hba] at hg; cases hg
        · rw [hX.irr _ hb] at hg; cases hg
/-- Three neighbours: one beside any two nodes. -/
theorem three_nb (hX : NrOk N G X) {d : Nat} (hd : d < N) (h3 : 3 ≤ (X d).length) (x y : Nat) : ∃ w, w < N ∧ G d w = true ∧ w ≠ x ∧ w ≠ y := by
  have h1 : (((X d).erase x).erase y).length ≥ 1 := by
    have a1 := List.length_erase (a := x) (l := X d)
    have a2 := List.length_erase (a := y) (l := (X d).erase x)
    split at a1 <;> split at a2 <;> omega
  obtain ⟨w, hw⟩ := List.exists_mem_of_length_pos (show 0 < (((X d).erase x).erase y).length by omega)
  have hnd := hX.nd d hd
  have e2 : w ≠ y := fun e => by subst e; exact (List.Nodup.not_mem_erase (hnd.erase _)) hw
  have hw1 := List.mem_of_mem_erase hw
  have e1 : w ≠ x := fun e => by subst e; exact (List.Nodup.not_mem_erase hnd) hw1
  have := (hX.mem d w hd).1 (List.mem_of_mem_erase hw1)
  exact ⟨w, this.1, this.2, e1, e2⟩
end
end Go.Proofs.YtnhhohhhpaejmaaDoor
namespace Go.Proofs.YtnhhohhhpaejmaaDoor
open Go.RowKit

section
variable {N D : Nat} {G : Nat → Nat → Bool} {X : Nat → List Nat}
theorem mod_next {i L : Nat} (hL : 3 ≤ L) (hi : i < L) : (i + 1) % L < L ∧ (i + (L - 1)) % L < L ∧ ((i + (L - 1)) % L + 1) % L = i ∧ (i + 1) % L ≠ (i + (L - 1)) % L := by
  have h1 : (i + 1) % L < L := Nat.mod_lt _ (by omega)
  have h2 : (i + (L - 1)) % L < L := Nat.mod_lt _ (by omega)
  by_cases e : i = 0
  · subst e
    have a : (0 + (L - 1)) % L = L - 1 := by rw [Nat.zero_add]; exact Nat.mod_eq_of_lt (by omega)
    have b : (0 + 1) % L = 1 := Nat.mod_eq_of_lt (by omega)
    refine ⟨h1, h2, ?_, by omega⟩
    rw [a, show L - 1 + 1 = L by omega, Nat.mod_self]
  · have a : (i + (L - 1)) % L = i - 1 := by
      rw [show i + (L - 1) = i - 1 + L by omega, Nat.add_mod_right]; exact Nat.mod_eq_of_lt (by omega)
    refine ⟨h1, h2, by rw [a, show i - 1 + 1 = i by omega]; exact Nat.mod_eq_of_lt hi, ?_⟩
    rw [a]
    by_cases e2 : i + 1 = L
    · rw [e2, Nat.mod_self]; omega
    · rw [Nat.mod_eq_of_lt (show i + 1 < L by omega)]; omega
theorem ring_all (hX : NrOk N G X) (hdeg : ∀ v, v < N → (X v).length ≤ 2) {m : List Nat} (hge : 3 ≤ m.length) (hlt : ∀ i, i < m.length → m.getD i 0 < N) (hnd : ∀ i j, i < m.length → j < i → m.getD i 0 ≠ m.getD j 0)
    (hon : ∀ i, i < m.length → G (m.getD i 0) (m.getD ((i + 1) % m.length) 0) = true) (hcon : ∀ u v, u < N → v < N → Rch N G (fun _ => false) u v) : m.length = N ∧ ∀ v, v < N → (X v).length = 2 := by
  have hnd2 : ∀ i j, i < m.length → j < m.length → i ≠ j → m.getD i 0 ≠ m.getD j 0 := fun i j hi hj hne e => by
    rcases Nat.lt_or_gt_of_ne hne with k | k
    · exact hnd j i hj k e.symm
    · exact hnd i j hi k e
  have hmd : m.Nodup := by
    rw [List.nodup_iff_pairwise_ne, List.pairwise_iff_getElem]
    intro i j hi hj hij e
    refine hnd j i hj hij ?_
    rw [List.getD, List.getD, List.getElem?_eq_getElem hi, List.getElem?_eq_getElem hj, Option.getD_some, Option.getD_some, e]
  have hmem : ∀ i, i < m.length → m.getD i 0 ∈ m := fun i hi => by rw [List.getD, List.getElem?_eq_getElem hi]; exact List.getElem_mem _
  have hat : ∀ v ∈ m, ∃ i, i < m.length ∧ m.getD i 0 = v := fun v hv => by
    obtain ⟨i, hi, e⟩ := List.getElem_of_mem hv
    exact ⟨i, hi, by rw [List.getD, List.getElem?_eq_getElem hi, Option.getD_some, e]⟩
  have key : ∀ v ∈ m, v < N ∧ (X v).length = 2 ∧ ∀ u, u ∈ X v → u ∈ m := fun v hv => by
    obtain ⟨i, hi, rfl⟩ := hat v hv
    obtain ⟨a1, a2, a3, a4⟩ := mod_next hge hi
    have hv := hlt i hi
    have p1 : m.getD ((i + 1) % m.length) 0 ∈ X (m.getD i 0) := (hX.mem _ _ hv).2 ⟨hlt _ a1, hon i hi⟩
    have p2 : m.getD ((i + (m.length - 1)) % m.length) 0 ∈ X (m.getD i 0) := (hX.mem _ _ hv).2 ⟨hlt _ a2, by
      have := hon _ a2
      rw [a3] at this
      rw [hX.sym _ _ hv (hlt _ a2)]; exact this⟩
    have hne := hnd2 _ _ a1 a2 a4
    have m1 := hmem _ a1
    have m2 := hmem _ a2
    generalize m.getD ((i + 1) % m.length) 0 = s at *
    generalize m.getD ((i + (m.length - 1)) % m.length) 0 = p at *
    have hl := hdeg _ hv
    have h3 : ((X (m.getD i 0)).erase s).length = (X (m.getD i 0)).length - 1 := List.length_erase_of_mem p1
    have h4 : p ∈ (X (m.getD i 0)).erase s := (List.mem_erase_of_ne (fun e => hne e.symm)).2 p2
    have h5 := List.length_erase_of_mem h4
    have h6 := List.length_pos_of_mem h4
    have h7 := List.length_pos_of_mem p1
    refine ⟨hv, by omega, fun u hu => ?_⟩
    by_cases e1 : u = s
    · subst e1; exact m1
    · by_cases e2 : u = p
      · subst e2; exact m2
      · have h8 : u ∈ ((X (m.getD i 0)).erase s).erase p := (List.mem_erase_of_ne e2).2 ((List.mem_erase_of_ne e1).2 hu)
        have h9 := List.length_pos_of_mem h8
        omega
  have hall : ∀ v, v < N → v ∈ m := fun v hv => by
    have h0 := hmem 0 (by omega)
    have hr := hcon _ v (key _ h0).1 hv
    clear hv
    induction hr with
    | refl => exact h0
    | @step b c _ k1 k2 k3 _ ih => exact (key b ih).2.2 c ((hX.mem b c k1).2 ⟨k2, k3⟩)
  refine ⟨?_, fun v hv => (key v (hall v hv)).2.1⟩
  have h1 := nodup_ltC N m hmd fun v hv => (key v hv).1
  have : ∀ (n : Nat) (L : List Nat), L.Nodup → (∀ q, q < n → q ∈ L) → n ≤ L.length := by
    intro n
    induction n with
    | zero => intro L _ _; exact Nat.zero_le _
    | succ n ih =>
      intro L hd hl
      have h1 := ih (L.erase n) (hd.erase _) fun q hq => (List.mem_erase_of_ne (by omega)).2 (hl q (by omega))
      have h2 := List.length_erase_of_mem (hl n (by omega))
      have h3 := List.length_pos_of_mem (hl n (by omega))
      omega
  have := this N m hmd hall
  omega
/-- Two nodes that are not near each other: a node has two neighbours. -/
theorem two_nb (hX : NrOk N G X) (hcon : ∀ u v, u < N → v < N → Rch N G (fun _ => false) u v) (hne : ∃ u v, u < N ∧ v < N ∧ u ≠ v ∧ G u v = false) : ∃ v, v < N ∧ 2 ≤ (X v).length := by
  obtain ⟨u, v, hu, hv, huv, hg⟩ := hne
  have key : ∀ b, Rch N G (fun _ => false) u b → b = u ∨ G u b = true ∨ ∃ m c, m < N ∧ c < N ∧ G m u = true ∧ G m c = true ∧ u ≠ c := by
    intro b hb
    induction hb with
    | refl => exact .inl rfl
    | @step b c _ h1 h2 h3 _ ih =>
      rcases ih with k | k | k
      · subst k; exact .inr (.inl h3)
      · by_cases e : c = u
        · exact .inl e
        · exact .inr (.inr ⟨b, c, h1, h2, by rw [hX.sym _ _ h1 hu]; exact k, h3, fun e' => e e'.symm⟩)
      · exact .inr (.inr k)
  rcases key v (hcon u v hu hv) with k | k | ⟨m, c, hm, hc, h1, h2, h3⟩
  · exact absurd k.symm huv
  · rw [hg] at k; cases k
  · refine ⟨m, hm, ?_⟩
    have hcu : c ≠ u := fun e => h3 e.symm
    have p1 := (hX.mem m u hm).2 ⟨hu, h1⟩
    have p2 := (hX.mem m c hm).2 ⟨hc, h2⟩
    have h3 : ((X m).erase u).length = (X m).length - 1 := List.length_erase_of_mem p1
    have h4 : c ∈ (X m).erase u := (List.mem_erase_of_ne (fun e => hcu e)).2 p2
    have h6 := List.length_pos_of_mem h4
    omega
end
end Go.Proofs.YtnhhohhhpaejmaaDoor
namespace Go.Proofs.YtnhhohhhpaejmaaDoor
open Go.RowKit

/-- Which nodes hang together. -/
noncomputable abbrev conB (N : Nat) (G : Nat → Nat → Bool) : Nat → Nat → Bool := rchB N G (fun _ => false)
section
variable {N : Nat} {G : Nat → Nat → Bool}
theorem con_pre : Pre N (conB N G) := ⟨fun v _ => rchB_iff.2 .refl, fun u v w _ _ _ h1 h2 => rchB_iff.2 ((rchB_iff.1 h1).trans (rchB_iff.1 h2))⟩
theorem rch_sym (hs : ∀ i j, i < N → j < N → G i j = G j i) {a b : Nat} (ha : a < N) (h : Rch N G (fun _ => false) a b) : Rch N G (fun _ => false) b a := by
  induction h with
  | refl => exact .refl
  | @step b c hab hb hc hg hS ih => exact (Rch.step (.refl : Rch N G (fun _ => false) c c) hc hb (by rw [hs c b hc hb]; exact hg) rfl).trans ih
theorem con_eqv (hs : ∀ i j, i < N → j < N → G i j = G j i) {v w : Nat} (hv : v < N) : eqvB (conB N G) v w = conB N G v w := by
  unfold eqvB
  cases e : conB N G v w with
  | false => rfl
  | true =>
    have := rchB_iff.2 (rch_sym hs hv (rchB_iff.1 e))
    show (true && conB N G w v) = true
    rw [show conB N G w v = true from this]; rfl
end
/-- The parts of a graph. -/
noncomputable abbrev compsL (N : Nat) (G : Nat → Nat → Bool) : List (List Nat) := (lds (conB N G) N).map (cls N (conB N G))

end Go.Proofs.YtnhhohhhpaejmaaDoor
namespace Go.Proofs.YtnhhohhhpaejmaaDoor
open Go.RowKit

/-- A node's side, by how far it is from the least one that it hangs together with. -/
def SideBy (N : Nat) (G : Nat → Nat → Bool) (O : Nat → Int) (q : Nat) : Prop := ∃ r F, r < N ∧ ldB (conB N G) r = true ∧ conB N G r q = true ∧ FarOk N G r F ∧ O q = (F q).tmod 2
theorem SideBy.put {N : Nat} {G : Nat → Nat → Bool} {O : Nat → Int} {q k : Nat} {x : Int} (h : SideBy N G O q) (hk : q = k → SideBy N G (fun z => if z = k then x else O z) q) : SideBy N G (fun z => if z = k then x else O z) q := by
  by_cases e : q = k
  · exact hk e
  · obtain ⟨r, F, h1, h2, h3, h4, h5⟩ := h
    exact ⟨r, F, h1, h2, h3, h4, by simp only [if_neg e]; exact h5⟩

end Go.Proofs.YtnhhohhhpaejmaaDoor
namespace Go.Proofs.YtnhhohhhpaejmaaDoor
open Go.RowKit

/-- A list of nodes is a ring. -/
structure RingOk (N : Nat) (G : Nat → Nat → Bool) (m : List Nat) : Prop where
  ge : 3 ≤ m.length
  le : m.length ≤ 1000
  lt : ∀ i, i < m.length → m.getD i 0 < N
  nd : ∀ i j, i < m.length → j < i → m.getD i 0 ≠ m.getD j 0
  on : ∀ i, i < m.length → G (m.getD i 0) (m.getD ((i + 1) % m.length) 0) = true

end Go.Proofs.YtnhhohhhpaejmaaDoor
namespace Go.Proofs.YtnhhohhhpaejmaaDoor
open Go.RowKit

theorem cnt_put1 {I : Nat → Bool} {x : Nat} : ∀ {n}, x < n → I x = false → cnt (fun q => if q = x then true else I q) n = cnt I n + 1 := by
  intro n
  induction n with
  | zero => intro h; omega
  | succ n ih =>
    intro hx h0
    rw [cnt, cnt]
    by_cases e : x = n
    · subst e
      have : cnt (fun q => if q = x then true else I q) x = cnt I x := by
        clear ih hx
        have : ∀ m, m ≤ x → cnt (fun q => if q = x then true else I q) m = cnt I m := by
          intro m
          induction m with
          | zero => intro _; rfl
          | succ m ih => intro hm; rw [cnt, cnt, ih (by omega)]; simp [show ¬ m = x by omega]
        exact this x (Nat.le_refl _)
      rw [this]; simp [h0]
    · rw [ih (by omega) h0]
      simp [show ¬ n = x from fun h => e h.symm]; omega

end Go.Proofs.YtnhhohhhpaejmaaDoor
namespace Go.Proofs.YtnhhohhhpaejmaaDoor
open Go.RowKit

/-- Under way: k the least node, q the nodes gathered, the first i of which are through; I: what is seen. -/
structure CmI (N : Nat) (E : Nat → Nat → Bool) (X : Nat → List Nat) (k : Nat) (I : Nat → Bool) (q : List Nat) (i : Nat) : Prop where
  seen : ∀ x, x < N → (I x = true ↔ inP E k x = true ∨ x ∈ q)
  nodup : q.Nodup
  mem : ∀ x ∈ q, x < N ∧ eqvB E k x = true
  own : k ∈ q
  shut : ∀ j, j < i → ∀ u ∈ X (q.getD j 0), I u = true
/-- What is asked: the rows are those of neighbours, E the hanging together. -/
structure CmA (N : Nat) (E : Nat → Nat → Bool) (X : Nat → List Nat) : Prop where
  pre : Pre N E
  len : ∀ v, v < N → (X v).length ≤ N
  one : ∀ v u, v < N → u ∈ X v → u < N ∧ eqvB E v u = true
  way : ∀ (P : Nat → Prop) v, v < N → P v → (∀ x, x < N → P x → ∀ u ∈ X x, P u) → ∀ u, u < N → eqvB E v u = true → P u
section
variable {N : Nat} {E : Nat → Nat → Bool} {X : Nat → List Nat} {k i : Nat} {I : Nat → Bool} {q : List Nat}
theorem CmI.start (hA : CmA N E X) (hk : k < N) (hI : ∀ x, x < N → I x = inP E k x) : CmI N E X k (fun x => if x = k then true else I x) [k] 0 where
  seen x hx := by
    by_cases e : x = k
    · subst e; simp
    · simp [e, hI x hx]
  nodup := by simp
  mem x hx := by rw [List.mem_singleton] at hx; subst hx; exact ⟨hk, hA.pre.er hk⟩
  own := List.mem_singleton.2 rfl
  shut j hj := absurd hj (Nat.not_lt_zero _)
theorem CmI.add (hA : CmA N E X) (hk : k < N) (h : CmI N E X k I q i) (hi : i < q.length) {u : Nat} (hu : u ∈ X (q.getD i 0)) (h0 : I u = false) : CmI N E X k (fun x => if x = u then true else I x) (q ++ [u]) i := by
  have hqi : q.getD i 0 ∈ q := by rw [List.getD, List.getElem?_eq_getElem hi]; exact List.getElem_mem _
  have hq := h.mem _ hqi
  have hu1 := hA.one _ _ hq.1 hu
  have hun : u ∉ q := fun hm => by have := (h.seen u hu1.1).2 (.inr hm); rw [h0] at this; cases this
  refine ⟨fun x hx => ?_, ?_, fun x hx => ?_, List.mem_append_left _ h.own, fun j hj v hv => ?_⟩
  · by_cases e : x = u
    · subst e; simp
    · simp only [if_neg e, List.mem_append, List.mem_singleton, e, or_false]; exact h.seen x hx
  · rw [List.nodup_append]
    exact ⟨h.nodup, by simp, fun a ha b hb e => by rw [List.mem_singleton] at hb; subst hb e; exact hun ha⟩
  · rcases List.mem_append.1 hx with k1 | k1
    · exact h.mem x k1
    · rw [List.mem_singleton] at k1; subst k1; exact ⟨hu1.1, hA.pre.et hk hq.1 hu1.1 hq.2 hu1.2⟩
  · have e : (q ++ [u]).getD j 0 = q.getD j 0 := by simp [List.getD, List.getElem?_append_left (show j < q.length by omega)]
    rw [e] at hv
    have := h.shut j hj v hv
    by_cases e2 : v = u <;> simp [e2, this]
theorem CmI.next (h : CmI N E X k I q i) (hs : ∀ u ∈ X (q.getD i 0), I u = true) : CmI N E X k I q (i + 1) :=
  ⟨h.seen, h.nodup, h.mem, h.own, fun j hj => by
    by_cases e : j = i
    · subst e; exact hs
    · exact h.shut j (by omega)⟩
theorem CmI.len (h : CmI N E X k I q i) : q.length ≤ N := by
  have h1 := h.nodup
  have h2 := fun x hx => (h.mem x hx).1
  have : (q.filter fun x => decide (x < N)).length ≤ N := by
    have hs : q.Perm (q.filter fun x => decide (x < N)) := by
      rw [List.filter_eq_self.2 fun x hx => decide_eq_true (h2 x hx)]
    have h3 : ∀ (n : Nat) (l : List Nat), l.Nodup → (∀ x ∈ l, x < n) → l.length ≤ n := by
      intro n
      induction n with
      | zero => intro l _ hl; cases l with
        | nil => simp
        | cons a t => exact absurd (hl a (by simp)) (Nat.not_lt_zero _)
      | succ n ih =>
        intro l hd hl
        have h5 := ih (l.filter fun x => decide (x ≠ n)) (hd.filter _) fun x hx => by
          have := List.mem_filter.1 hx
          have h6 := of_decide_eq_true this.2
          have h7 := hl x this.1
          omega
        have h8 : l.length ≤ (l.filter fun x => decide (x ≠ n)).length + 1 := by
          clear h5 ih
          induction l with
          | nil => simp
          | cons a t iht =>
            rw [List.nodup_cons] at hd
            by_cases e : a = n
            · subst e
              have : t.filter (fun x => decide (x ≠ a)) = t := List.filter_eq_self.2 fun x hx => decide_eq_true fun e => hd.1 (by rw [← e]; exact hx)
              rw [List.filter_cons_of_neg (by simp), this]; simp
            · rw [List.filter_cons_of_pos (by simp [e])]
              have := iht hd.2 fun x hx => hl x (List.mem_cons_of_mem _ hx)
              simp only [List.length_cons]; omega
        omega
    exact h3 N _ (h1.filter _) fun x hx => of_decide_eq_true (List.mem_filter.1 hx).2
  have e : (q.filter fun x => decide (x < N)) = q := List.filter_eq_self.2 fun x hx => decide_eq_true (h2 x hx)
  rwa [e] at this
/-- All is gathered. -/
theorem CmI.fin (hA : CmA N E X) (hk : k < N) (hl : ldB E k = true) (h : CmI N E X k I q i) (hi : i = q.length) : (∀ x, x ∈ q ↔ x ∈ cls N E k) ∧ ∀ x, x < N → I x = inP E (k + 1) x := by
  have sep : ∀ x, x < N → eqvB E k x = true → inP E k x = false := by
    intro x hx he
    cases e : inP E k x with
    | false => rfl
    | true =>
      unfold inP at e
      obtain ⟨u, hu, he2⟩ := List.any_eq_true.1 e
      have hu := List.mem_range.1 hu
      have h1 := hA.pre.et (by omega) hx hk he2 (eqv_sy he)
      have h2 := hA.pre.ge hl hu
      rw [eqv_sy h1] at h2
      cases h2
  have hall : ∀ x, x ∈ q ↔ x ∈ cls N E k := by
    intro x
    unfold cls
    rw [List.mem_filter, List.mem_range]
    refine ⟨h.mem x, fun hx => ?_⟩
    refine hA.way (fun y => y ∈ q) k hk h.own (fun y hy hyq u hu => ?_) x hx.1 hx.2
    obtain ⟨j, hj, e⟩ := List.getElem_of_mem hyq
    have e2 : q.getD j 0 = y := by rw [List.getD, List.getElem?_eq_getElem hj]; exact e
    have h1 := h.shut j (by omega) u (by rw [e2]; exact hu)
    have hu1 := hA.one y u hy hu
    have hm := h.mem y hyq
    rcases (h.seen u hu1.1).1 h1 with k1 | k1
    · rw [sep u hu1.1 (hA.pre.et hk hy hu1.1 hm.2 hu1.2)] at k1; cases k1
    · exact k1
  refine ⟨hall, fun x hx => ?_⟩
  rw [Bool.eq_iff_iff, h.seen x hx, inP_succ, Bool.or_eq_true, hall x]
  unfold cls
  rw [List.mem_filter, List.mem_range]
  exact ⟨fun h => h.imp id fun k => k.2, fun h => h.imp id fun k => ⟨hx, k⟩⟩
/-- Sorted, it is the part. -/
theorem sort_cls {c : List Nat} (hd : q.Nodup) (hc : c.Pairwise (· < ·)) (hall : ∀ x, x ∈ q ↔ x ∈ c) : (ints q).mergeSort (fun x y => decide (x ≤ y)) = ints c := by
  have hperm := List.mergeSort_perm (ints q) (fun x y : Int => decide (x ≤ y))
  have hnd : (ints q).Nodup := by
    unfold ints
    rw [List.Nodup, List.pairwise_map]
    exact hd.imp fun {a b} h e => h (by omega)
  have hs : ((ints q).mergeSort (fun x y => decide (x ≤ y))).Pairwise (fun a b => decide (a ≤ b) = true) :=
    List.pairwise_mergeSort (by intro a b c; simp; omega) (by intro a b; simp; omega) _
  refine rise_uniq (lt := fun a b : Int => a < b) (fun a h => Int.lt_irrefl a h) (fun a b c => Int.lt_trans) ?_ ?_ fun a => ?_
  · refine List.Pairwise.imp₂ ?_ hs (hperm.nodup_iff.2 hnd)
    intro a b h1 h2
    have := of_decide_eq_true h1
    omega
  · unfold ints
    rw [List.pairwise_map]
    exact hc.imp fun {a b} h => by omega
  · rw [hperm.mem_iff]
    unfold ints
    simp only [List.mem_map]
    exact ⟨fun ⟨x, hx, e⟩ => ⟨x, (hall x).1 hx, e⟩, fun ⟨x, hx, e⟩ => ⟨x, (hall x).2 hx, e⟩⟩
end
end Go.Proofs.YtnhhohhhpaejmaaDoor
