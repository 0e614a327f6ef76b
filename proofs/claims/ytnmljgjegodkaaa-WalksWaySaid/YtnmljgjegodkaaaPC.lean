/- walks.Way: the plain law of going nearer. No walk. walks.Postman: the plain law of edges gone along anew. No walk. walks.Postman: edges gone along anew: plain. No walk. How often a trail goes along each edge: plain. No walk. -/
import Derived.Test.YtnmljgjegodkaaaJoiW
import Derived.Test.YtnmljgjegodkaaaTraM
import Derived.Test.YtnmljgjegodkaaaPA
import Derived.Test.YtnmljgjegodkaaaAdjS
namespace Go.Proofs.Ytnmljgjegodkaaa
open Go.RowKit

/-- The first node that is nearer. -/
def NextW (N : Nat) (G : Nat → Nat → Bool) (F : Nat → Int) (v u : Nat) : Prop := u < N ∧ G v u = true ∧ F u = F v - 1 ∧ ∀ q, q < u → ¬ (G v q = true ∧ F q = F v - 1)
/-- The way. -/
structure WayL (N : Nat) (G : Nat → Nat → Bool) (F : Nat → Int) (A : Nat) (W : List Nat) : Prop where
  len : (W.length : Int) = F A + 1
  rng : ∀ x ∈ W, x < N
  head : W.head? = some A
  next : ∀ i, i + 1 < W.length → NextW N G F (W.getD i 0) (W.getD (i + 1) 0)
/-- Under way. -/
structure WyI (N : Nat) (G : Nat → Nat → Bool) (F : Nat → Int) (A : Nat) (W : List Nat) (v : Nat) : Prop where
  len : (W.length : Int) + F v = F A + 1
  pos : 0 ≤ F v
  rng : ∀ x ∈ W, x < N
  head : W.head? = some A
  last : W.getD (W.length - 1) 0 = v
  ne : 0 < W.length
  next : ∀ i, i + 1 < W.length → NextW N G F (W.getD i 0) (W.getD (i + 1) 0)
  lt : v < N
section
variable {N A v u : Nat} {G : Nat → Nat → Bool} {F : Nat → Int} {W : List Nat}
theorem WyI.start (hA : A < N) (h : 0 ≤ F A) : WyI N G F A [A] A where
  len := by simp; omega
  pos := h
  rng x hx := by rw [List.mem_singleton] at hx; subst hx; exact hA
  head := rfl
  last := rfl
  ne := by simp
  next i hi := by simp at hi
  lt := hA
theorem WyI.more (h : WyI N G F A W v) (hu : NextW N G F v u) (h0 : 0 ≤ F u) : WyI N G F A (W ++ [u]) u where
  len := by have := h.len; have := hu.2.2.1; rw [List.length_append, List.length_singleton]; omega
  pos := h0
  rng x hx := by
    rcases List.mem_append.1 hx with hx | hx
    · exact h.rng x hx
    · rw [List.mem_singleton] at hx; subst hx; exact hu.1
  head := by
    have := h.ne
    cases W with
    | nil => simp at this
    | cons a t => simpa using h.head
  last := by simp [List.getD]
  ne := by simp
  next i hi := by
    rw [List.length_append, List.length_singleton] at hi
    by_cases e : i + 1 = W.length
    · have h1 : i = W.length - 1 := by omega
      have h2 : (W ++ [u]).getD i 0 = v := by
        rw [List.getD, List.getElem?_append_left (by omega)]
        have := h.last
        rw [h1]; exact this
      have h3 : (W ++ [u]).getD (i + 1) 0 = u := by rw [e]; simp [List.getD]
      rw [h2, h3]; exact hu
    · have h2 : (W ++ [u]).getD i 0 = W.getD i 0 := by rw [List.getD, List.getElem?_append_left (by omega)]; rfl
      have h3 : (W ++ [u]).getD (i + 1) 0 = W.getD (i + 1) 0 := by rw [List.getD, List.getElem?_append_left (by omega)]; rfl
      rw [h2, h3]; exact h.next i (by omega)
  lt := hu.1
theorem WyI.done (h : WyI N G F A W v) (h0 : F v = 0) : WayL N G F A W := ⟨by have := h.len; omega, h.rng, h.head, h.next⟩
/-- The first hit of a rising list is the next node. -/
theorem nbrs_first {l : List (Int × Int)} {N v j : Nat} {F : Nat → Int} (hj : j < (nbrs l N v).length) (hit : F ((nbrs l N v).getD j 0) = F v - 1) (no : ∀ i, i < j → F ((nbrs l N v).getD i 0) ≠ F v - 1) : NextW N (adj l) F v ((nbrs l N v).getD j 0) := by
  have hm : (nbrs l N v).getD j 0 ∈ nbrs l N v := by rw [List.getD, List.getElem?_eq_getElem hj]; exact List.getElem_mem _
  have hmem : ∀ u, u ∈ nbrs l N v ↔ u < N ∧ adj l v u = true := fun u => by unfold nbrs; rw [List.mem_filter, List.mem_range]
  obtain ⟨h1, h2⟩ := (hmem _).1 hm
  refine ⟨h1, h2, hit, fun q hq ⟨h3, h4⟩ => ?_⟩
  have hq2 : q ∈ nbrs l N v := (hmem _).2 ⟨by omega, h3⟩
  obtain ⟨i, hi, e⟩ := List.getElem_of_mem hq2
  have e2 : (nbrs l N v).getD i 0 = q := by rw [List.getD, List.getElem?_eq_getElem hi]; exact e
  have hsort : (nbrs l N v).Pairwise (· < ·) := by unfold nbrs; exact List.Pairwise.filter _ List.pairwise_lt_range
  have hij : i < j := by
    rcases Nat.lt_trichotomy i j with h | h | h
    · exact h
    · subst h; omega
    · have := List.pairwise_iff_getElem.1 hsort j i hj hi h
      rw [List.getD, List.getElem?_eq_getElem hj] at hq
      simp only [Option.getD_some] at hq
      rw [e] at this
      omega
  exact no i hij (by rw [e2]; exact h4)
end
end Go.Proofs.Ytnmljgjegodkaaa
namespace Go.Proofs.Ytnmljgjegodkaaa
open Go.RowKit

theorem FarOk.tri {N a c : Nat} {G : Nat → Nat → Bool} {F K : Nat → Int} (hs : ∀ u v, G u v = G v u) (h : FarOk N G a F) (hc : FarOk N G c K) : ∀ (d v : Nat), v < N → F v = (d : Int) → 0 ≤ K v → 0 ≤ K a ∧ K a ≤ K v + d := by
  intro d
  induction d with
  | zero => intro v hv hF hK; rw [h.zero v hv hF] at hK ⊢; exact ⟨hK, by omega⟩
  | succ d ih =>
    intro v hv hF hK
    obtain ⟨u, h1, h2, h3⟩ := h.par v hv (by rw [hF]; push_cast; omega)
    have h4 := hc.fin v u hv h1 (by rw [hs]; exact h3) hK
    have h5 := ih u h1 (by rw [h2, hF]; push_cast; omega) h4.1
    refine ⟨h5.1, ?_⟩
    have := h5.2
    push_cast
    omega
/-- How far two nodes are. -/
theorem FarOk.symm {N a b : Nat} {G : Nat → Nat → Bool} {F K : Nat → Int} (hs : ∀ u v, G u v = G v u) (ha : a < N) (hb : b < N) (h : FarOk N G a F) (hc : FarOk N G b K) (h0 : 0 ≤ F b) : K a = F b := by
  obtain ⟨d, hd⟩ := Int.eq_ofNat_of_zero_le h0
  have h1 := h.tri hs hc d b hb hd (by rw [hc.at']; omega)
  rw [hc.at'] at h1
  obtain ⟨e, he⟩ := Int.eq_ofNat_of_zero_le h1.1
  have h2 := hc.tri hs h e a ha he (by rw [h.at']; omega)
  rw [h.at'] at h2
  omega

/-- How many edges there are at a node. -/
def degL (l : List (Int × Int)) (v : Nat) : Nat := remE (edE l) l.length (fun _ => false) v
theorem degL_snoc {l : List (Int × Int)} {X Y : Nat} (hne : X ≠ Y) (v : Nat) : degL (l ++ [((X : Int), (Y : Int))]) v = degL l v + (if X = v then 1 else 0) + (if Y = v then 1 else 0) := by
  unfold degL remE
  rw [List.length_append, List.length_singleton, cntN_succ]
  have h1 : cntN l.length (fun i => !false && incE (edE (l ++ [((X : Int), (Y : Int))])) i v) = cntN l.length (fun i => !false && incE (edE l) i v) := cntN_congr fun i hi => by
    unfold incE edE
    rw [show (l ++ [((X : Int), (Y : Int))]).getD i (0, 0) = l.getD i (0, 0) by rw [List.getD, List.getElem?_append_left hi]; rfl]
  have h2 : (!false && incE (edE (l ++ [((X : Int), (Y : Int))])) l.length v) = (decide (X = v) || decide (Y = v)) := by
    unfold incE edE
    simp [List.getD]
  rw [h1, h2]
  by_cases e1 : X = v
  · subst e1; simp [Ne.symm hne]
  · by_cases e2 : Y = v
    · subst e2; simp [e1]
    · simp [e1, e2]
theorem Ends.snoc {N : Nat} {l : List (Int × Int)} {X Y : Nat} (h : Ends N l) (hX : X < N) (hY : Y < N) (hne : X ≠ Y) : Ends N (l ++ [((X : Int), (Y : Int))]) := ⟨fun k hk => by
  rw [List.length_append, List.length_singleton] at hk
  by_cases e : k = l.length
  · subst e; exact ⟨X, Y, by simp [List.getD], hX, hY, hne⟩
  · obtain ⟨X', Y', h1, h2⟩ := h.at' k (by omega)
    exact ⟨X', Y', by rw [List.getD, List.getElem?_append_left (by omega)]; exact h1, h2⟩⟩
/-- How often a node is one of a pair. -/
def twN (L : List Nat) (P : List (Nat × Nat)) (v : Nat) : Nat := (P.map fun p => (if L.getD p.1 0 = v then 1 else 0) + (if L.getD p.2 0 = v then 1 else 0)).sum
theorem twN_snoc (L : List Nat) (P : List (Nat × Nat)) (p : Nat × Nat) (v : Nat) : twN L (P ++ [p]) v = twN L P v + (if L.getD p.1 0 = v then 1 else 0) + (if L.getD p.2 0 = v then 1 else 0) := by
  unfold twN; rw [List.map_append, List.sum_append]; simp; omega
/-- A node of the list is in one pair, another in none. -/
theorem twN_cov {L : List Nat} (hL : L.Nodup) {P : List (Nat × Nat)} (hr : ∀ p ∈ P, p.1 < p.2 ∧ p.2 < L.length) (v : Nat) :
    (∀ k, k < L.length → L.getD k 0 = v → twN L P v = (P.filter fun p => decide (p.1 = k) || decide (p.2 = k)).length) ∧ (v ∉ L → twN L P v = 0) := by
  have inj : ∀ i k, i < L.length → k < L.length → L.getD k 0 = v → (L.getD i 0 = v ↔ i = k) := fun i k hi hk e => by
    constructor
    · intro e2
      have e3 := e2.trans e.symm
      rw [List.getD, List.getD, List.getElem?_eq_getElem hi, List.getElem?_eq_getElem hk] at e3
      simp only [Option.getD_some] at e3
      exact (List.getElem_inj hL).1 e3
    · intro e2; subst e2; exact e
  constructor
  · intro k hk e
    induction P with
    | nil => rfl
    | cons p P ih =>
      have hp := hr p (by simp)
      have ih' := ih fun q hq => hr q (List.mem_cons_of_mem _ hq)
      unfold twN at ih' ⊢
      rw [List.map_cons, List.sum_cons, ih', List.filter_cons]
      have i1 := inj p.1 k (by omega) hk e
      have i2 := inj p.2 k hp.2 hk e
      by_cases c1 : p.1 = k
      · have c2 : p.2 ≠ k := by omega
        rw [if_pos (i1.2 c1), if_neg (fun x => c2 (i2.1 x))]
        simp [c1]; omega
      · by_cases c2 : p.2 = k
        · rw [if_neg (fun x => c1 (i1.1 x)), if_pos (i2.2 c2)]
          simp [c2]; omega
        · rw [if_neg (fun x => c1 (i1.1 x)), if_neg (fun x => c2 (i2.1 x))]
          simp [c1, c2]
  · intro hv
    induction P with
    | nil => rfl
    | cons p P ih =>
      have hp := hr p (by simp)
      have ih' := ih fun q hq => hr q (List.mem_cons_of_mem _ hq)
      unfold twN at ih' ⊢
      have no : ∀ i, i < L.length → L.getD i 0 ≠ v := fun i hi e => hv (by rw [← e, List.getD, List.getElem?_eq_getElem hi]; exact List.getElem_mem _)
      rw [List.map_cons, List.sum_cons, ih', if_neg (no _ (by omega)), if_neg (no _ hp.2)]
end Go.Proofs.Ytnmljgjegodkaaa
namespace Go.Proofs.Ytnmljgjegodkaaa
open Go.RowKit

/-- The first i steps of a way, as edges. -/
def stepsW (W : List Nat) : Nat → List (Int × Int)
  | 0 => []
  | i + 1 => stepsW W i ++ [(((W.getD i 0 : Nat) : Int), ((W.getD (i + 1) 0 : Nat) : Int))]
theorem stepsW_len (W : List Nat) : ∀ i, (stepsW W i).length = i
  | 0 => rfl
  | i + 1 => by rw [stepsW, List.length_append, stepsW_len W i]; rfl
/-- Edges l, and X of them anew; T tells how often X has a node as an end, but for pairs. -/
structure PoI (N : Nat) (l X : List (Int × Int)) (T : Nat → Nat) : Prop where
  ends : Ends N (l ++ X)
  ag : ∀ p ∈ X, ∃ x y : Nat, p = ((x : Int), (y : Int)) ∧ AG N (adj l) x y
  par : ∀ v, degL (l ++ X) v % 2 = (degL l v + T v) % 2
section
variable {N : Nat} {l X : List (Int × Int)} {T : Nat → Nat} {x y : Nat}
theorem PoI.start (h : Ends N l) : PoI N l [] (fun _ => 0) := ⟨by rw [List.append_nil]; exact h, fun p hp => absurd hp (by simp), fun v => by rw [List.append_nil, Nat.add_zero]⟩
theorem PoI.congr {T' : Nat → Nat} (h : PoI N l X T) (e : ∀ v, T v % 2 = T' v % 2) : PoI N l X T' := ⟨h.ends, h.ag, fun v => by rw [h.par v]; have := e v; omega⟩
theorem PoI.snoc (hirr : ∀ v, adj l v v = false) (h : PoI N l X T) (ha : AG N (adj l) x y) : PoI N l (X ++ [((x : Int), (y : Int))]) (fun v => T v + (if x = v then 1 else 0) + (if y = v then 1 else 0)) := by
  have hne : x ≠ y := fun e => by
    subst e
    have := ha.2.2
    rw [hirr x] at this; cases this
  refine ⟨by rw [← List.append_assoc]; exact h.ends.snoc ha.1 ha.2.1 hne, fun p hp => ?_, fun v => ?_⟩
  · rcases List.mem_append.1 hp with hp | hp
    · exact h.ag p hp
    · rw [List.mem_singleton] at hp; exact ⟨x, y, hp, ha⟩
  · rw [← List.append_assoc, degL_snoc hne]
    have := h.par v
    show _ = (degL l v + (T v + (if x = v then 1 else 0) + (if y = v then 1 else 0))) % 2
    omega
theorem PoI.way (hirr : ∀ v, adj l v v = false) (h : PoI N l X T) {W : List Nat} (hW : ∀ i, i + 1 < W.length → AG N (adj l) (W.getD i 0) (W.getD (i + 1) 0)) : ∀ i, i < W.length → PoI N l (X ++ stepsW W i) (fun v => T v + (if W.getD 0 0 = v then 1 else 0) + (if W.getD i 0 = v then 1 else 0))
  | 0, _ => by
    rw [stepsW, List.append_nil]
    exact h.congr fun v => by show T v % 2 = (T v + (if W.getD 0 0 = v then 1 else 0) + (if W.getD 0 0 = v then 1 else 0)) % 2; split <;> omega
  | i + 1, hi => by
    rw [stepsW, ← List.append_assoc]
    have ih := PoI.way hirr h hW i (by omega)
    refine (ih.snoc hirr (hW i hi)).congr fun v => ?_
    show (T v + (if W.getD 0 0 = v then 1 else 0) + (if W.getD i 0 = v then 1 else 0) + (if W.getD i 0 = v then 1 else 0) + (if W.getD (i + 1) 0 = v then 1 else 0)) % 2 = (T v + (if W.getD 0 0 = v then 1 else 0) + (if W.getD (i + 1) 0 = v then 1 else 0)) % 2
    split <;> split <;> split <;> omega
theorem PoI.last (h : PoI N l X T) {L : List Nat} {P : List (Nat × Nat)} (hT : ∀ v, T v = twN L P v) (hL : ∀ v, v < N → (degL l v % 2 = 1 ↔ v ∈ L)) (hn : L.Nodup) (hr : ∀ p ∈ P, p.1 < p.2 ∧ p.2 < L.length) (hc : ∀ k, k < L.length → (P.filter fun p => decide (p.1 = k) || decide (p.2 = k)).length = 1) (f : Nat) :
    ∀ v, v < N → (remE (edE (l ++ X)) (l ++ X).length (fun _ => false) v + (if v = f then 1 else 0) + (if v = f then 1 else 0)) % 2 = 0 := fun v hv => by
  have h1 := h.par v
  have h2 := twN_cov hn hr v
  have h3 := hL v hv
  rw [hT v] at h1
  have h4 : (degL l v + twN L P v) % 2 = 0 := by
    by_cases hm : v ∈ L
    · obtain ⟨k, hk, e⟩ := List.getElem_of_mem hm
      have e2 : L.getD k 0 = v := by rw [List.getD, List.getElem?_eq_getElem hk]; exact e
      rw [h2.1 k hk e2, hc k hk]
      have := h3.2 hm
      omega
    · rw [h2.2 hm]
      have : ¬ degL l v % 2 = 1 := fun e => hm (h3.1 e)
      omega
  have h5 : degL (l ++ X) v = remE (edE (l ++ X)) (l ++ X).length (fun _ => false) v := rfl
  rw [h4] at h1
  rw [← h5]
  split <;> omega
end
/-- A way's steps are edges; it ends where it shall. -/
theorem WayL.steps {N A : Nat} {l : List (Int × Int)} {F : Nat → Int} {W : List Nat} (h : WayL N (adj l) F A W) : ∀ i, i + 1 < W.length → AG N (adj l) (W.getD i 0) (W.getD (i + 1) 0) := fun i hi =>
  ⟨h.rng _ (by rw [List.getD, List.getElem?_eq_getElem (by omega)]; exact List.getElem_mem _), (h.next i hi).1, (h.next i hi).2.1⟩
theorem WayL.far {N A : Nat} {G : Nat → Nat → Bool} {F : Nat → Int} {W : List Nat} (h : WayL N G F A W) : ∀ i, i < W.length → F (W.getD i 0) = F A - i := by
  intro i
  induction i with
  | zero =>
    intro hi
    have := h.head
    cases W with
    | nil => simp at hi
    | cons a t => simp at this; subst this; simp [List.getD]
  | succ i ih =>
    intro hi
    have h1 := (h.next i hi).2.2.1
    rw [h1, ih (by omega)]; push_cast; omega
theorem WayL.ends {N A B : Nat} {G : Nat → Nat → Bool} {F : Nat → Int} {W : List Nat} (hF : FarOk N G B F) (h : WayL N G F A W) (h0 : 0 ≤ F A) : 0 < W.length ∧ W.getD 0 0 = A ∧ W.getD (W.length - 1) 0 = B ∧ (W.length : Int) - 1 = F A := by
  have hl := h.len
  have hlen : 0 < W.length := by omega
  refine ⟨hlen, ?_, ?_, by omega⟩
  · have := h.head
    cases W with
    | nil => simp at hlen
    | cons a t => simp at this; subst this; simp [List.getD]
  · have h1 := h.far (W.length - 1) (by omega)
    refine hF.zero _ (h.rng _ (by rw [List.getD, List.getElem?_eq_getElem (by omega)]; exact List.getElem_mem _)) ?_
    rw [h1]; omega
end Go.Proofs.Ytnmljgjegodkaaa
namespace Go.Proofs.Ytnmljgjegodkaaa
open Go.RowKit

/-- How often the first k steps of O go along e. -/
def alongC (O : List Nat) (e : Int × Int) (k : Nat) : Nat := cntN k fun j => decide (Meets e (O.getD j 0 : Nat) (O.getD (j + 1) 0 : Nat))
theorem cntN_unique {n i : Nat} {p : Nat → Bool} (hi : i < n) (hp : p i = true) (h : ∀ j, j < n → p j = true → j = i) : cntN n p = 1 := by
  have h1 := cntN_one (n := n) (p := fun _ => false) hi rfl
  rw [cntN_false] at h1
  have h2 : cntN n p = cntN n fun k => false || decide (k = i) := cntN_congr fun j hj => by
    by_cases e : j = i
    · subst e; simp [hp]
    · cases e2 : p j
      · simp [e]
      · exact absurd (h j hj e2) e
  omega
theorem cntN_hit {n i : Nat} {p : Nat → Bool} (hi : i < n) (hp : p i = true) : 0 < cntN n p := by
  induction n with
  | zero => omega
  | succ n ih =>
    rw [cntN_succ]
    by_cases e : i = n
    · subst e; simp [hp]
    · have := ih (by omega); omega
theorem meets_join {l : List (Int × Int)} {i x y a b : Nat} (he : edE l i = (x, y)) : JoinE (edE l) i a b ↔ Meets ((x : Int), (y : Int)) (a : Int) (b : Int) := by
  unfold JoinE Meets
  rw [he]
  simp only [Prod.mk.injEq]
  constructor
  · rintro (⟨h1, h2⟩ | ⟨h1, h2⟩)
    · left; omega
    · right; omega
  · rintro (⟨h1, h2⟩ | ⟨h1, h2⟩)
    · left; omega
    · right; omega
theorem edE_app {l X : List (Int × Int)} {i : Nat} (hi : i < l.length) : edE (l ++ X) i = edE l i := by
  unfold edE; rw [List.getD, List.getElem?_append_left hi]; rfl
theorem edE_of {l : List (Int × Int)} {i X Y : Nat} (he : l.getD i (0, 0) = ((X : Int), (Y : Int))) : edE l i = (X, Y) := by unfold edE; rw [he]; simp
section
variable {N f p : Nat} {l X : List (Int × Int)} {O eO : List Nat}
/-- The ends of each edge are near. -/
theorem ends_ag (hg : GoodGraph N l) (hX : ∀ q ∈ X, ∃ x y : Nat, q = ((x : Int), (y : Int)) ∧ AG N (adj l) x y) {i : Nat} (hi : i < (l ++ X).length) : ∃ x y, edE (l ++ X) i = (x, y) ∧ AG N (adj l) x y := by
  by_cases h : i < l.length
  · obtain ⟨x, y, he, -⟩ := hg.at h
    exact ⟨x, y, by rw [edE_app h]; exact edE_of he, edge_ag hg h he⟩
  · rw [List.length_append] at hi
    have hk : i - l.length < X.length := by omega
    obtain ⟨x, y, he, ha⟩ := hX X[i - l.length] (List.getElem_mem hk)
    refine ⟨x, y, edE_of ?_, ha⟩
    rw [List.getD, List.getElem?_append_right (by omega), List.getElem?_eq_getElem hk]
    exact he
theorem TrF.hang (hg : GoodGraph N l) (hh : HangE N (adj l)) (hf : ∃ z, AG N (adj l) f z) (hX : ∀ q ∈ X, ∃ x y : Nat, q = ((x : Int), (y : Int)) ∧ AG N (adj l) x y) (h : TrF N (l ++ X).length (edE (l ++ X)) f p O eO) : ∀ i, i < (l ++ X).length → i ∈ eO := by
  refine h.all (fun i hi => ?_) fun P hP hcl i hi => ?_
  · obtain ⟨x, y, he, ha⟩ := ends_ag hg hX hi
    exact ⟨x, y, .inl he, ha.1, ha.2.1⟩
  · obtain ⟨x, y, he, ha⟩ := ends_ag hg hX hi
    obtain ⟨z, hz⟩ := hf
    have hr := hh _ _ _ _ hz ha
    have hPx : P x := by
      clear he ha
      induction hr with
      | refl => exact hP
      | @step b c _ h1 h2 h3 _ ih =>
        obtain ⟨k, hk, hk2⟩ := ag_edge h3
        refine hcl k b c (by rw [List.length_append]; omega) ?_ ih
        unfold JoinE
        rw [edE_app hk]
        rcases hk2 with e | e
        · exact .inl (edE_of e)
        · exact .inr (edE_of e)
    exact ⟨x, by unfold incE; rw [he]; simp, hPx⟩
/-- Each step is along an edge. -/
theorem TrF.step (hg : GoodGraph N l) (hX : ∀ q ∈ X, ∃ x y : Nat, q = ((x : Int), (y : Int)) ∧ AG N (adj l) x y) (h : TrF N (l ++ X).length (edE (l ++ X)) f p O eO) : ∀ j, j + 1 < O.length → adj l (O.getD j 0) (O.getD (j + 1) 0) = true := fun j hj => by
  have hl := h.jO.len
  have hjl : j < eO.length := by omega
  have h1 := h.jO.join j hjl
  have hm : eO.getD j 0 ∈ eO := by rw [List.getD, List.getElem?_eq_getElem hjl]; exact List.getElem_mem _
  obtain ⟨x, y, he, ha⟩ := ends_ag hg hX (h.lt _ hm)
  rw [meets_join he] at h1
  rcases h1 with ⟨e1, e2⟩ | ⟨e1, e2⟩
  · simp only at e1 e2
    rw [← Int.ofNat.inj e1, ← Int.ofNat.inj e2]; exact ha.2.2
  · simp only at e1 e2
    rw [adj_sy, ← Int.ofNat.inj e1, ← Int.ofNat.inj e2]; exact ha.2.2
/-- Edges are gone along. -/
theorem TrF.along (hg : GoodGraph N l) (h : TrF N (l ++ X).length (edE (l ++ X)) f p O eO) (hall : ∀ i, i < (l ++ X).length → i ∈ eO) {x y : Nat} (ha : adj l x y = true) : 0 < alongC O ((x : Int), (y : Int)) (O.length - 1) := by
  obtain ⟨k, hk, hk2⟩ := ag_edge ha
  have hl := h.jO.len
  obtain ⟨j, hj, e⟩ := List.getElem_of_mem (hall k (by rw [List.length_append]; omega))
  have e2 : eO.getD j 0 = k := by rw [List.getD, List.getElem?_eq_getElem hj]; exact e
  refine cntN_hit (i := j) (by omega) (decide_eq_true ?_)
  have h1 := h.jO.join j hj
  rw [e2] at h1
  rcases hk2 with e | e
  · exact (meets_join (show edE (l ++ X) k = (x, y) by rw [edE_app hk]; exact edE_of e)).1 h1
  · have := (meets_join (show edE (l ++ X) k = (y, x) by rw [edE_app hk]; exact edE_of e)).1 h1
    rcases this with ⟨a, b⟩ | ⟨a, b⟩
    · exact .inr ⟨b, a⟩
    · exact .inl ⟨b, a⟩
/-- Edges of a graph are different. -/
theorem edge_uniq (hg : GoodGraph N l) {i k x y : Nat} (hi : i < l.length) (hk : k < l.length) (h1 : JoinE (edE l) i x y) (h2 : JoinE (edE l) k x y) : i = k := by
  have key : ∀ i k, i < k → k < l.length → JoinE (edE l) i x y → JoinE (edE l) k x y → False := fun i k hik hk h1 h2 => by
    obtain ⟨a, b, he, -, -, -, h0⟩ := hg.at hk
    obtain ⟨c, d, he', -⟩ := hg.at (show i < l.length by omega)
    have m1 := (meets_join (edE_of he)).1 h2
    have m2 := (meets_join (edE_of he')).1 h1
    have : adj (l.take k) a b = true := by
      refine hasE_yes (k := i) (by rw [List.length_take]; omega) ?_
      have e : (l.take k).getD i (0, 0) = l.getD i (0, 0) := by simp [List.getD, hik]
      rw [e, he']
      unfold Meets at m1 m2 ⊢
      simp only at m1 m2 ⊢
      omega
    rw [h0] at this; cases this
  rcases Nat.lt_trichotomy i k with e | e | e
  · exact (key i k e hk h1 h2).elim
  · exact e
  · exact (key k i e hi h2 h1).elim
theorem TrF.once (hg : GoodGraph N l) (h : TrF N l.length (edE l) f p O eO) (hall : ∀ i, i < l.length → i ∈ eO) {x y : Nat} (ha : adj l x y = true) : alongC O ((x : Int), (y : Int)) (O.length - 1) = 1 := by
  obtain ⟨k, hk, hk2⟩ := ag_edge ha
  have hl := h.jO.len
  obtain ⟨j, hj, e⟩ := List.getElem_of_mem (hall k hk)
  have e2 : eO.getD j 0 = k := by rw [List.getD, List.getElem?_eq_getElem hj]; exact e
  have hjk : JoinE (edE l) k x y := by
    rcases hk2 with e | e
    · exact .inl (edE_of e)
    · exact .inr (edE_of e)
  have flip : ∀ a b : Nat, Meets ((x : Int), (y : Int)) (a : Int) (b : Int) ↔ (x = a ∧ y = b) ∨ (x = b ∧ y = a) := fun a b => by
    unfold Meets; simp only; omega
  refine cntN_unique (i := j) (by omega) (decide_eq_true ?_) fun i hi hm => ?_
  · have h1 := h.jO.join j hj
    rw [e2] at h1
    rw [flip]
    rcases hk2 with e | e
    · have := (meets_join (edE_of e)).1 h1
      exact (flip _ _).1 this
    · have := (meets_join (edE_of e)).1 h1
      unfold Meets at this; simp only at this; omega
  · have hm := of_decide_eq_true hm
    have hi' : i < eO.length := by omega
    have h1 := h.jO.join i hi'
    have him : eO.getD i 0 ∈ eO := by rw [List.getD, List.getElem?_eq_getElem hi']; exact List.getElem_mem _
    rw [flip] at hm
    have h2 : JoinE (edE l) (eO.getD i 0) x y := by
      rcases hm with ⟨a, b⟩ | ⟨a, b⟩
      · rw [a, b]; exact h1
      · rw [a, b]; exact h1.symm
    have h3 := edge_uniq hg (h.lt _ him) hk h2 hjk
    rw [← e2] at h3
    rw [List.getD, List.getD, List.getElem?_eq_getElem hi', List.getElem?_eq_getElem hj] at h3
    simp only [Option.getD_some] at h3
    exact (List.getElem_inj h.nodup).1 h3
end
end Go.Proofs.Ytnmljgjegodkaaa
