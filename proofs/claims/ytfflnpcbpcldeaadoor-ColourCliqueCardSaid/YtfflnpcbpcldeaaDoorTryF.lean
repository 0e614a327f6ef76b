/- The plain law of minor.Within and arborref.First: one and the same search. No program in sight. -/
import Derived.Test.YtfflnpcbpcldeaaDoorMem
namespace Go.Proofs.YtfflnpcbpcldeaaDoor
open Go Go.RowKit

/-- The first one that is found. -/
def firstOf {α : Type} (g : Nat → Option α) : Nat → Option α
  | 0 => none
  | n + 1 => (firstOf g n).or (g n)
theorem firstOf_none {α : Type} {g : Nat → Option α} : ∀ {n}, (∀ u, u < n → g u = none) → firstOf g n = none
  | 0, _ => rfl
  | n + 1, h => by rw [firstOf, firstOf_none fun u hu => h u (by omega), h n (by omega)]; rfl
theorem firstOf_some {α : Type} {g : Nat → Option α} {v : Nat} {r : α} (h : ∀ u, u < v → g u = none) (hv : g v = some r) : ∀ {n}, v < n → firstOf g n = some r
  | 0, hn => absurd hn (Nat.not_lt_zero _)
  | n + 1, hn => by
    rw [firstOf]
    by_cases e : v = n
    · subst e; rw [firstOf_none h, hv]; rfl
    · rw [firstOf_some h hv (show v < n by omega)]; rfl

/-- May v stand for node k = l's length? -/
def okTo (G H : Nat → Nat → Bool) (l : List Nat) (v k : Nat) : Nat → Bool
  | 0 => !l.contains v
  | i + 1 => okTo G H l v k i && (!H k i || G v (l.getD i 0))

/-- The first list of nodes that goes on from l; f: how many are still to come. -/
def tryF (N : Nat) (G H : Nat → Nat → Bool) : Nat → List Nat → Option (List Nat)
  | 0, l => some l
  | f + 1, l => firstOf (fun v => if okTo G H l v l.length l.length then tryF N G H f (l ++ [v]) else none) N

/-- The numbers, as Go has them. -/
def ints (l : List Nat) : List Int := l.map fun (v : Nat) => (v : Int)
theorem ints_length (l : List Nat) : (ints l).length = l.length := by simp [ints]
theorem ints_snoc (l : List Nat) (v : Nat) : ints (l ++ [v]) = ints l ++ [(v : Int)] := by simp [ints]
theorem ints_getD (l : List Nat) (i : Nat) : (ints l).getD i 0 = ((l.getD i 0 : Nat) : Int) := by
  unfold ints
  by_cases h : i < l.length
  · simp [List.getD, h]
  · simp [List.getD, h]
theorem ints_inj {l m : List Nat} (h : ints l = ints m) : l = m := by
  have : Function.Injective fun (v : Nat) => (v : Int) := fun a b e => by have e' : (a : Int) = (b : Int) := e; omega
  exact (List.map_inj_right this).1 h

/-- Every number that is taken is less than N. -/
theorem tryF_lt {N : Nat} {G H : Nat → Nat → Bool} : ∀ {f : Nat} {l r : List Nat}, tryF N G H f l = some r → (∀ x ∈ l, x < N) → (∀ x ∈ r, x < N) ∧ r.length = l.length + f
  | 0, l, r, h, hl => by
    obtain rfl := Option.some.inj h
    exact ⟨hl, rfl⟩
  | f + 1, l, r, h, hl => by
    rw [tryF] at h
    have key : ∀ n, n ≤ N → firstOf (fun v => if okTo G H l v l.length l.length then tryF N G H f (l ++ [v]) else none) n = some r → ∃ v, v < N ∧ tryF N G H f (l ++ [v]) = some r := by
      intro n
      induction n with
      | zero => intro _ e; cases e
      | succ n ih =>
        intro hn e
        rw [firstOf] at e
        cases e1 : firstOf (fun v => if okTo G H l v l.length l.length then tryF N G H f (l ++ [v]) else none) n with
        | some q => rw [e1] at e; exact ih (by omega) (by rw [e1]; exact e)
        | none =>
          rw [e1] at e
          simp only [Option.none_or] at e
          split at e
          · exact ⟨n, by omega, e⟩
          · cases e
    obtain ⟨v, hv, e⟩ := key N (Nat.le_refl _) h
    obtain ⟨h1, h2⟩ := tryF_lt e (fun x hx => by
      rcases List.mem_append.1 hx with h | h
      · exact hl x h
      · obtain rfl : x = v := by simpa using h
        exact hv)
    exact ⟨h1, by simp at h2; omega⟩

theorem ints_at' {w wr : World} {l : List Nat} {a : Option Addr} {c n : Nat} (h : IsInts w (.slice a n c) (ints l)) (hb : Below w.heap.size w wr) {k : Nat} (hk : k < l.length) :
    ∃ b o, a = some ⟨b, o, none⟩ ∧ wr.cell? ⟨b, o + k, none⟩ = some (.int .i64 ((l.getD k 0 : Nat) : Int)) := by
  obtain ⟨a', cap, b, o, e, hcap, hmax, hadr, -, hcell⟩ := h
  simp only [Value.slice.injEq] at e
  obtain ⟨rfl, rfl, rfl⟩ := e
  have hl := ints_length l
  refine ⟨b, o, hadr (by omega), ?_⟩
  rw [← ints_getD]
  exact below_cell hb (hcell k (by omega))

theorem firstOf_congr {α : Type} {g g' : Nat → Option α} : ∀ {n}, (∀ u, u < n → g u = g' u) → firstOf g n = firstOf g' n
  | 0, _ => rfl
  | n + 1, h => by rw [firstOf, firstOf, firstOf_congr fun u hu => h u (by omega), h n (by omega)]
theorem okTo_congr {G G' H H' : Nat → Nat → Bool} {l : List Nat} {v k : Nat} : ∀ {i}, (∀ j, j < i → H k j = H' k j ∧ G v (l.getD j 0) = G' v (l.getD j 0)) → okTo G H l v k i = okTo G' H' l v k i
  | 0, _ => rfl
  | i + 1, h => by rw [okTo, okTo, okTo_congr fun j hj => h j (by omega), (h i (by omega)).1, (h i (by omega)).2]
theorem tryF_congr {N M : Nat} {G G' H H' : Nat → Nat → Bool} (hG : ∀ v x, v < N → x < N → G v x = G' v x) (hH : ∀ k i, k < M → i < M → H k i = H' k i) : ∀ (f : Nat) (l : List Nat), f + l.length = M → (∀ x ∈ l, x < N) → tryF N G H f l = tryF N G' H' f l
  | 0, _, _, _ => rfl
  | f + 1, l, hf, hl => by
    rw [tryF, tryF]
    refine firstOf_congr fun v hv => ?_
    have e : okTo G H l v l.length l.length = okTo G' H' l v l.length l.length := okTo_congr fun j hj => ⟨hH _ _ (by omega) (by omega), hG _ _ hv (hl _ (by
      rw [List.getD_eq_getElem?_getD, List.getElem?_eq_getElem hj]; exact List.getElem_mem hj))⟩
    rw [e, tryF_congr hG hH f (l ++ [v]) (by simp; omega) (fun x hx => by
      rcases List.mem_append.1 hx with h | h
      · exact hl x h
      · obtain rfl : x = v := by simpa using h
        exact hv)]

end Go.Proofs.YtfflnpcbpcldeaaDoor
