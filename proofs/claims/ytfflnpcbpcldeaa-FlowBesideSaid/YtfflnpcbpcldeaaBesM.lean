/- flow.Beside: what it answers, and its memory. -/
import Derived.Test.YtfflnpcbpcldeaaP2
import Derived.Test.YtfflnpcbpcldeaaFollow
import Derived.Test.YtfflnpcbpcldeaaStraight
import Derived.Test.YtfflnpcbpcldeaaLookF
import Derived.Test.YtfflnpcbpcldeaaRising
namespace Go.Proofs.Ytfflnpcbpcldeaa
open Go.RowKit

theorem getD_snoc_lt {α : Type} {L : List α} {x d : α} {j : Nat} (h : j < L.length) : (L ++ [x]).getD j d = L.getD j d := by simp [List.getD, List.getElem?_append_left h]
theorem getD_snoc_eq {α : Type} {L : List α} {x d : α} : (L ++ [x]).getD L.length d = x := by simp [List.getD]
theorem PB.begin2 (w : World) (N : Nat) : PB ((w.alloc (.cells (madeCells #[Value.slice none 0 0] N) 51)).alloc (Obj.cells #[.slice none 0 0, .slice none 0 0, .slice (some ⟨w.heap.size, 0, none⟩) N N] 101)) (w.heap.size + 2) (w.heap.size + 1) w.heap.size N (fun _ => .slice none 0 0) (fun _ => []) := by
  have h1 := World.rowIs_made w (.slice none 0 0) N 51
  have h2 := World.rowIs_alloc (w.alloc (.cells (madeCells #[Value.slice none 0 0] N) 51)) #[.slice none 0 0, .slice none 0 0, .slice (some ⟨w.heap.size, 0, none⟩) N N] 101 (fun i => if i = 0 then .slice none 0 0 else if i = 1 then .slice none 0 0 else .slice (some ⟨w.heap.size, 0, none⟩) N N) (fun i hi => by
    match i, hi with
    | 0, _ => rfl
    | 1, _ => rfl
    | 2, _ => rfl)
  rw [World.size_alloc] at h2
  exact ⟨h2, h1.alloc _, Bank.start _ _ _ _, ⟨by omega, by omega⟩, by omega, by rw [World.size_alloc, World.size_alloc]; omega⟩

theorem PB.chg {w w' : World} {base bP bA N bF : Nat} {V : Nat → Value} {X : Nat → List Nat} (h : PB w base bP bA N V X) (hc : Chg (fun q => q = bF) w w') (h1 : bF ≠ bP) (h2 : bF ≠ bA) (h3 : ∀ r, r < N + 2 → (V r).ownBlock ≠ some bF) : PB w' base bP bA N V X where
  rP := hc.rowIs h.rP (fun e => h1 e.symm)
  rA := hc.rowIs h.rA (fun e => h2 e.symm)
  bank := ⟨fun r hr => (h.bank.own r hr).kept (row := some bF) ⟨hc.os, hc.tape, hc.output, hc.size, fun k hk hne => hc.block k hk (fun e => hne (by rw [e]))⟩ (by
    cases e : (V r).ownBlock with
    | none => exact Or.inl rfl
    | some g => exact Or.inr (fun e2 => h3 r hr (by rw [e, e2]))), h.bank.sep⟩
  lt := h.lt
  ne := h.ne
  sz := Nat.le_trans h.sz hc.size
theorem Copied.chg {bF B k : Nat} {w w' : World} {v : Value} {m : List (List Int)} (h : Copied B w v k m) (hc : Chg (fun q => q = bF) w w') (hb : bF < B) : Copied B w' v k m := by
  have hg : w.grownBy w' (some bF) := ⟨hc.os, hc.tape, hc.output, hc.size, fun k hk hne => hc.block k hk (fun e => hne (by rw [e]))⟩
  have key : ∀ {e : TypeId} {v : Value} {n : Nat} {xs : List Value}, w.ownsRow B e 1 v n xs → w'.ownsRow B e 1 v n xs := fun {e v n xs} ho => ho.kept hg (by
    cases e : v.ownBlock with
    | none => exact Or.inl rfl
    | some g => exact Or.inr (fun e2 => by have := (ho.lt g e).1; cases e2; omega))
  obtain ⟨vals, h1, h2⟩ := h
  exact ⟨vals, key h1, fun j hj => by
    obtain ⟨r, hr, ho⟩ := h2 j hj
    exact ⟨r, hr, key ho⟩⟩
theorem Copied.app {B : Nat} {w1 w2 : World} {v r v' : Value} {W : List (List Nat)} {o : List Nat} {vals : List Value} {ob : Obj}
    (hown : w1.ownsRow B 51 1 v W.length vals) (hv : ∀ j, j < W.length → ∃ r, vals[j]? = some r ∧ w1.ownsRow B 3 1 r ((W.map ints).getD j []).length (((W.map ints).getD j []).map (Value.int .i64)))
    (hr : w1.ownsRow B 3 1 r o.length ((ints o).map (Value.int .i64))) (h2 : w2.ownsRow B 51 1 v' (W.length + 1) (vals ++ [r])) (g2 : (w1.alloc ob).grownBy w2 v.ownBlock) : Copied B w2 v' (W.length + 1) ((W ++ [o]).map ints) := by
  have hm : (W ++ [o]).map ints = W.map ints ++ [ints o] := by rw [List.map_append]; rfl
  have hl : (W.map ints).length = W.length := List.length_map _
  refine Copied.more (wr := w1) (w1 := w1) hown (fun j hj => ?_) (World.grownBy.refl _ _) ?_ h2 g2
  · rw [hm, getD_snoc_lt (by omega)]
    exact hv j hj
  · rw [hm, ← hl, getD_snoc_eq, ints_length]
    exact hr
theorem allF_le {F : Nat → Nat} {c : Nat} : ∀ n, (∀ k, k < n → F k ≤ c) → allF F n ≤ n * c
  | 0, _ => Nat.zero_le _
  | n + 1, h => by
    have h1 := allF_le n fun k hk => h k (by omega)
    have h2 := h n (by omega)
    rw [allF, Nat.succ_mul]
    omega

/-- What is wrong with what flow.Beside is asked. -/
def BesSpec (n : Int) (l : List (Int × Int)) (s t : Int) (c a : Int) : Prop :=
  (LookSpec n l s t c a ∧ c ≠ 0) ∨ (LookSpec n l s t 0 0 ∧ ((hasE l s t = true ∧ c = 8 ∧ a = 0) ∨ (hasE l s t = false ∧ c = 0 ∧ a = 0)))
theorem BesSpec.uniq {n : Int} {l : List (Int × Int)} {s t c a c' a' : Int} (h : BesSpec n l s t c a) (h' : BesSpec n l s t c' a') : c = c' ∧ a = a' := by
  rcases h with ⟨h1, h2⟩ | ⟨h1, h2⟩ <;> rcases h' with ⟨h1', h2'⟩ | ⟨h1', h2'⟩
  · exact h1.uniq h1'
  · exact absurd (h1.uniq h1').1 h2
  · exact absurd (h1'.uniq h1).1 h2'
  · rcases h2 with ⟨g1, rfl, rfl⟩ | ⟨g1, rfl, rfl⟩ <;> rcases h2' with ⟨g1', rfl, rfl⟩ | ⟨g1', rfl, rfl⟩
    · exact ⟨rfl, rfl⟩
    · rw [g1] at g1'; cases g1'
    · rw [g1] at g1'; cases g1'
    · exact ⟨rfl, rfl⟩
theorem look_good {n s t : Int} {l : List (Int × Int)} {a : Int} (h : LookSpec n l s t 0 a) : a = 0 ∧ 0 ≤ n ∧ n ≤ 100 ∧ l.length ≤ 1000 ∧ (∀ j, j < l.length → EndsOk n (l.getD j (0, 0)) ∧ (l.getD j (0, 0)).1 ≠ (l.getD j (0, 0)).2) ∧ 0 ≤ s ∧ s < n ∧ 0 ≤ t ∧ t < n ∧ s ≠ t := by
  rcases h with ⟨-, h⟩ | ⟨h, h2⟩
  · exact absurd rfl h
  · obtain ⟨-, g1, g2, g3, -⟩ := tree_good h
    unfold EndsSpec at h2
    refine ⟨by omega, g1, g2, g3, fun j hj => ?_, by omega, by omega, by omega, by omega, by omega⟩
    rcases h with ⟨_, h, _⟩ | ⟨hb, ⟨i, _, _, hw, _⟩ | ⟨h, _⟩⟩
    · cases h
    · exact absurd rfl hw.ne0
    · exact ⟨(h j hj).1, (h j hj).2.1⟩

/-- What flow.Beside answers where all is well. -/
structure BesOk (N : Nat) (l : List (Int × Int)) (s t : Nat) (W : List (List Nat)) (C : List Nat) : Prop where
  len : W.length = C.length
  way : ∀ i, i < W.length → WayP l N s t (W.getD i [])
  dis : ∀ i j, i < j → j < W.length → ∀ p q, 0 < p → p + 1 < (W.getD i []).length → 0 < q → q + 1 < (W.getD j []).length → (W.getD i []).getD p 0 ≠ (W.getD j []).getD q 0
  lt : ∀ i, i < C.length → C.getD i 0 < N
  up : ∀ i, i + 1 < C.length → C.getD i 0 < C.getD (i + 1) 0
  src : s ∉ C
  snk : t ∉ C
  cut : ∀ S : Nat → Bool, (∀ v, v < N → (S v = true ↔ v ∈ C)) → ¬ Rch N (adj l) S s t
/-- flow.Beside comes back. -/
def BesPost (n : Int) (l : List (Int × Int)) (s t : Int) (w : World) (e : Ending) (w' : World) : Prop :=
  ∃ c a wv cv, e = .returned (.tuple #[wv, cv, .agg #[.int .i64 c, .int .i64 a]]) ∧ BesSpec n l s t c a ∧ Below w.heap.size w w' ∧
    ((c ≠ 0 ∧ wv = .slice none 0 0 ∧ cv = .slice none 0 0) ∨ (c = 0 ∧ a = 0 ∧ ∃ (N s' t' : Nat) (W : List (List Nat)) (C : List Nat), n = N ∧ s = s' ∧ t = t' ∧ BesOk N l s' t' W C ∧ IsRows w' wv (W.map ints) ∧ IsInts w' cv (ints C)))

/-- The ways so far: n are left; KK is what has been used up. -/
structure WaysI (N s t : Nat) (l : List (Int × Int)) (n : Nat) (F0 F : Nat → Nat) (W : List (List Nat)) (KK : List Nat) : Prop where
  flow : ∃ Z, BFlow N s t l n t 0 F Z
  used : ∀ k, F k + KK.count k = F0 k
  way : ∀ i, i < W.length → WayP l N s t (W.getD i [])
  inn : ∀ i, i < W.length → ∀ p, 0 < p → p + 1 < (W.getD i []).length → (W.getD i []).getD p 0 ∈ KK ∧ (W.getD i []).getD p 0 ≠ s ∧ (W.getD i []).getD p 0 ≠ t
  dis : ∀ i j, i < j → j < W.length → ∀ p q, 0 < p → p + 1 < (W.getD i []).length → 0 < q → q + 1 < (W.getD j []).length → (W.getD i []).getD p 0 ≠ (W.getD j []).getD q 0

section
variable {N s t : Nat} {l : List (Int × Int)}
theorem bes_cap (hok : ∀ j, j < l.length → EndsOk N (l.getD j (0, 0))) (hN : 0 < N) : ∀ k, k < (besL N s t l).length → capL (besL N s t l) k ≤ N := fun k hk => by
  rw [besN_length] at hk
  by_cases e : k < N
  · obtain ⟨-, -, e3⟩ := bes_node_arc (s := s) (t := t) (l := l) e
    rw [e3]
    split <;> omega
  · obtain ⟨a, b, -, -, -, -, -, c1, -, -, c2⟩ := bes_edge_arc (s := s) (t := t) hok (e := (k - N) / 2) (by omega)
    rcases (show k = N + 2 * ((k - N) / 2) ∨ k = N + 2 * ((k - N) / 2) + 1 by omega) with e2 | e2
    · rw [e2, c1]; exact Nat.le_refl _
    · rw [e2, c2]; exact Nat.le_refl _
/-- What holds while a way is followed. -/
def BesInv (N s t : Nat) (l : List (Int × Int)) (n : Nat) (F : Nat → Nat) (v : Nat) : Prop := ∃ Z, BFlow N s t l n v 1 F Z ∧ v ≠ N + t ∧ v < 2 * N ∧ ∀ k, F k ≤ 100
theorem BesInv.on {n : Nat} {F : Nat → Nat} {v : Nat} (h : BesInv N s t l n F v) (hok : ∀ j, j < l.length → EndsOk N (l.getD j (0, 0))) (htN : t < N) (hvt : v ≠ t) : ∃ k, k < (besL N s t l).length ∧ fromL (besL N s t l) k = v ∧ 0 < F k := by
  obtain ⟨Z, h1, h2, h3, -⟩ := h
  exact h1.on hok htN h3 hvt h2
theorem BesInv.step {n : Nat} {F : Nat → Nat} {v k : Nat} (h : BesInv N s t l n F v) (hok : ∀ j, j < l.length → EndsOk N (l.getD j (0, 0))) (hvt : v ≠ t) (hk : k < (besL N s t l).length) (hf : fromL (besL N s t l) k = v) (h0 : 0 < F k) : BesInv N s t l n (lessF F k) (toL (besL N s t l) k) := by
  obtain ⟨Z, h1, h2, h3, h4⟩ := h
  refine ⟨_, h1.step hk hf h0, ?_, ?_, fun q => ?_⟩
  · by_cases hv : v < N
    · obtain ⟨-, b2⟩ := bes_in hok hk hv hf
      omega
    · obtain ⟨-, b2, -⟩ := bes_out hok (v := v - N) hk (by rw [hf]; omega)
      omega
  · by_cases hv : v < N
    · obtain ⟨-, b2⟩ := bes_in hok hk hv hf
      omega
    · obtain ⟨-, b2, -⟩ := bes_out hok (v := v - N) hk (by rw [hf]; omega)
      omega
  · have := h4 q
    have := h4 k
    unfold lessF
    split <;> omega
/-- The nodes along a way are the net's. -/
theorem trail_lt (hN : N ≤ 100) (hok : ∀ j, j < l.length → EndsOk N (l.getD j (0, 0))) (htN : t < N) {F0 F : Nat → Nat} {P K : List Nat} (h : Trail (besL N s t l) (besL N s t l).length (N + s) t F0 F P K) (hend : P.getD K.length 0 = t) : ∀ j, j < P.length → P.getD j 0 < 2 * N := fun j hj => by
  have hl := h.len
  by_cases e : j = K.length
  · rw [e, hend]; omega
  · obtain ⟨k1, k2, -⟩ := h.step j (by omega)
    have := (bes_ok (s := s) (t := t) hN hok _ k1)
    obtain ⟨a1, a2, -⟩ := this
    rw [← k2]
    unfold fromL
    omega

/-- What goes both ways along an edge is taken away. -/
def cancF (N k d : Nat) (F : Nat → Nat) : Nat → Nat := fun q => if q = N + 2 * k + 1 then F (N + 2 * k + 1) - d else if q = N + 2 * k then F (N + 2 * k) - d else F q
theorem BFlow.cancel {n d0 : Int} {v k d : Nat} {F : Nat → Nat} {Z : Nat → Int} (h : BFlow N s t l n v d0 F Z) (hok : ∀ j, j < l.length → EndsOk N (l.getD j (0, 0)) ∧ (l.getD j (0, 0)).1 ≠ (l.getD j (0, 0)).2) (hk : k < l.length) (h1 : d ≤ F (N + 2 * k)) (h2 : d ≤ F (N + 2 * k + 1)) : ∃ Z', BFlow N s t l n v d0 (cancF N k d F) Z' := by
  obtain ⟨a, b, ha, hb, hab, f1, t1, -, f2, t2, -⟩ := bes_edge_arc (s := s) (t := t) (fun j hj => (hok j hj).1) hk
  obtain ⟨g1, g2, -⟩ := bes_node_arc (s := s) (t := t) (l := l) ha
  obtain ⟨g3, g4, -⟩ := bes_node_arc (s := s) (t := t) (l := l) hb
  have hne : a ≠ b := fun e => by
    have := (hok k hk).2
    rw [hab] at this
    exact this (by rw [e])
  have hlen : (besL N s t l).length = N + 2 * l.length := besN_length N s t l l.length
  refine ⟨addZ (addZ (addZ (addZ Z (N + 2 * k) (-(d : Int))) (N + 2 * k + 1) (-(d : Int))) a (-(d : Int))) b (-(d : Int)), fun q hq => ?_, fun q hq => ?_, fun u => ?_⟩
  · have := h.edge q hq
    unfold addZ cancF
    rw [if_neg (show ¬ q = b by omega), if_neg (show ¬ q = a by omega)]
    by_cases e1 : q = N + 2 * k + 1
    · subst e1
      rw [if_pos rfl, if_pos rfl, if_neg (by omega)]; omega
    · rw [if_neg e1, if_neg e1]
      by_cases e2 : q = N + 2 * k
      · subst e2; rw [if_pos rfl, if_pos rfl]; omega
      · rw [if_neg e2, if_neg e2]; exact this
  · have := h.node q hq
    have hF : cancF N k d F q = F q := by
      unfold cancF
      rw [if_neg (show ¬ q = N + 2 * k + 1 by omega), if_neg (show ¬ q = N + 2 * k by omega)]
    rw [hF]
    unfold addZ
    by_cases e1 : q = b
    · subst e1
      rw [if_pos rfl, if_neg (Ne.symm hne), if_neg (by omega), if_neg (by omega)]; omega
    · rw [if_neg e1]
      by_cases e2 : q = a
      · subst e2
        rw [if_pos rfl, if_neg (by omega), if_neg (by omega)]; omega
      · rw [if_neg e2, if_neg (by omega), if_neg (by omega)]; exact this
  · rw [outZ_add _ (by omega), outZ_add _ (by omega), outZ_add _ (by omega), outZ_add _ (by omega), h.out u, f1, t1, f2, t2, g1, g2, g3, g4]
    by_cases e1 : N + a = u <;> by_cases e2 : b = u <;> by_cases e3 : N + b = u <;> by_cases e4 : a = u <;> simp only [e1, e2, e3, e4, if_true, if_false] <;> omega
theorem BFlow.start {sum : Nat} {X : Nat → List Nat} {lev : Nat → Int} (h : MostLaw (2 * N) (besL N s t l) (N + s) t sum (fun k => leftX X (2 * k + 1)) lev) : BFlow N s t l sum t 0 (fun k => leftX X (2 * k + 1)) (fun k => ((leftX X (2 * k + 1) : Nat) : Int)) := ⟨fun _ _ => rfl, fun _ _ => Int.le_refl _, fun u => by
  have := h.out u
  unfold outL at this
  unfold outZ at1
  rw [this]
  by_cases e1 : N + s = u <;> by_cases e2 : t = u <;> simp only [e1, e2, if_true, if_false] <;> omega⟩

/-- One way more. -/
theorem WaysI.more {n : Nat} {F0 F F' : Nat → Nat} {W : List (List Nat)} {KK K P o : List Nat} (h : WaysI N s t l (n + 1) F0 F W KK) (hcap : ∀ v, v < N → v ≠ s → v ≠ t → F0 v ≤ 1) (hok : ∀ j, j < l.length → EndsOk N (l.getD j (0, 0))) (htN : t < N) (hsN : s < N) (hst : s ≠ t)
    (htr : Trail (besL N s t l) (besL N s t l).length (N + s) t F F' P K) (hend : P.getD K.length 0 = t) (ho : StrOk (besV N t P) (besV N t P).length o) (hfl : ∃ Z, BFlow N s t l n t 0 F' Z) : WaysI N s t l n F0 F' (W ++ [o]) (KK ++ K) := by
  obtain ⟨hw, hi⟩ := way_of hok htN hsN hst htr hend ho
  have hlen : (W ++ [o]).length = W.length + 1 := by simp
  refine ⟨hfl, fun k => ?_, fun i hi2 => ?_, fun i hi2 p h0 hp => ?_, fun i j hij hj p q p0 hp q0 hq => ?_⟩
  · have h1 := h.used k
    have h2 := htr.left k
    rw [List.count_append]
    omega
  · by_cases e : i = W.length
    · subst e; rw [getD_snoc_eq]; exact hw
    · rw [getD_snoc_lt (by omega)]; exact h.way i (by omega)
  · by_cases e : i = W.length
    · subst e
      rw [getD_snoc_eq] at hp ⊢
      obtain ⟨g1, g2, g3⟩ := hi p h0 hp
      exact ⟨List.mem_append_right _ g1, g2, g3⟩
    · rw [getD_snoc_lt (by omega)] at hp ⊢
      obtain ⟨g1, g2, g3⟩ := h.inn i (by omega) p h0 hp
      exact ⟨List.mem_append_left _ g1, g2, g3⟩
  · rw [getD_snoc_lt (show i < W.length by omega)] at hp ⊢
    by_cases e : j = W.length
    · subst e
      rw [getD_snoc_eq] at hq ⊢
      intro he
      obtain ⟨g1, g2, g3⟩ := h.inn i (by omega) p p0 hp
      obtain ⟨k1, -, -⟩ := hi q q0 hq
      rw [← he] at k1
      have hN : (W.getD i []).getD p 0 < N := (h.way i (by omega)).lt p (by omega)
      have hc := hcap _ hN g2 g3
      have h1 := h.used ((W.getD i []).getD p 0)
      have h2 := htr.left ((W.getD i []).getD p 0)
      have n1 : 0 < KK.count ((W.getD i []).getD p 0) := List.count_pos_iff.2 g1
      have n2 : 0 < K.count ((W.getD i []).getD p 0) := List.count_pos_iff.2 k1
      omega
    · rw [getD_snoc_lt (by omega)] at hq ⊢
      exact h.dis i j hij (by omega) p q p0 hp q0 hq
end

end Go.Proofs.Ytfflnpcbpcldeaa
