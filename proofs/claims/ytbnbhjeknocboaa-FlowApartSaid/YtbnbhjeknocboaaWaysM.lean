/- Ways in memory, for flow.Beside and flow.Apart. -/
import Derived.Test.YtbnbhjeknocboaaFollow
import Derived.Test.YtbnbhjeknocboaaStraight
import Derived.Test.YtbnbhjeknocboaaLookF
namespace Go.Proofs.Ytbnbhjeknocboaa
open Go.RowKit

theorem getD_snoc_lt {α : Type} {L : List α} {x d : α} {j : Nat} (h : j < L.length) : (L ++ [x]).getD j d = L.getD j d := by simp [List.getD, List.getElem?_append_left h]
theorem getD_snoc_eq {α : Type} {L : List α} {x d : α} : (L ++ [x]).getD L.length d = x := by simp [List.getD]
theorem PB.begin2 (w : World) (N : Nat) : PB ((w.alloc (.cells (madeCells #[Value.slice none 0 0] N) 25)).alloc (Obj.cells #[.slice none 0 0, .slice none 0 0, .slice (some ⟨w.heap.size, 0, none⟩) N N] 66)) (w.heap.size + 2) (w.heap.size + 1) w.heap.size N (fun _ => .slice none 0 0) (fun _ => []) := by
  have h1 := World.rowIs_made w (.slice none 0 0) N 25
  have h2 := World.rowIs_alloc (w.alloc (.cells (madeCells #[Value.slice none 0 0] N) 25)) #[.slice none 0 0, .slice none 0 0, .slice (some ⟨w.heap.size, 0, none⟩) N N] 66 (fun i => if i = 0 then .slice none 0 0 else if i = 1 then .slice none 0 0 else .slice (some ⟨w.heap.size, 0, none⟩) N N) (fun i hi => by
    match i, hi with
    | 0, _ => rfl
    | 1, _ => rfl
    | 2, _ => rfl)
  rw [World.size_alloc] at h2
  exact ⟨h2, h1.alloc _, Bank.start _ _ _ _, ⟨by omega, by omega⟩, by omega, by rw [World.size_alloc, World.size_alloc]; omega⟩

theorem PB.chg {w w' : World} {base bP bA N bF : Nat} {V : Nat → Value} {X : Nat → List Nat} (h : PB w base bP bA N V X) (hc : Chg (fun q => q = bF) w w') (h1 : bF ≠ bP) (h2 : bF ≠ bA) (h3 : ∀ r, r < N + 2 → (V r).ownBlock ≠ some bF) : PB w' base bP bA N V X where
  rP := hc.rowIs h.rP (fun e => h1 e.symm)
  rA := hc.rowIs h.rA (fun e => h2 e.symm)
  bank := ⟨fun r hr => (h.bank.own r hr).kept (row := some bF) ⟨hc.os, hc.tape, hc.output, hc.size, fun k hk hne => hc.block k hk (fun e => hne (by rw [e]))⟩ (by
    cases e : (V r).ownBlock with
    | none => exact Or.inl rfl
    | some g => exact Or.inr (fun e2 => h3 r hr (by rw [e, e2]))), h.bank.sep⟩
  lt := h.lt
  ne := h.ne
  sz := Nat.le_trans h.sz hc.size
theorem Copied.chg {bF B k : Nat} {w w' : World} {v : Value} {m : List (List Int)} (h : Copied B w v k m) (hc : Chg (fun q => q = bF) w w') (hb : bF < B) : Copied B w' v k m := by
  have hg : w.grownBy w' (some bF) := ⟨hc.os, hc.tape, hc.output, hc.size, fun k hk hne => hc.block k hk (fun e => hne (by rw [e]))⟩
  have key : ∀ {e : TypeId} {v : Value} {n : Nat} {xs : List Value}, w.ownsRow B e 1 v n xs → w'.ownsRow B e 1 v n xs := fun {e v n xs} ho => ho.kept hg (by
    cases e : v.ownBlock with
    | none => exact Or.inl rfl
    | some g => exact Or.inr (fun e2 => by have := (ho.lt g e).1; cases e2; omega))
  obtain ⟨vals, h1, h2⟩ := h
  exact ⟨vals, key h1, fun j hj => by
    obtain ⟨r, hr, ho⟩ := h2 j hj
    exact ⟨r, hr, key ho⟩⟩
theorem Copied.app {B : Nat} {w1 w2 : World} {v r v' : Value} {W : List (List Nat)} {o : List Nat} {vals : List Value} {ob : Obj}
    (hown : w1.ownsRow B 25 1 v W.length vals) (hv : ∀ j, j < W.length → ∃ r, vals[j]? = some r ∧ w1.ownsRow B 3 1 r ((W.map ints).getD j []).length (((W.map ints).getD j []).map (Value.int .i64)))
    (hr : w1.ownsRow B 3 1 r o.length ((ints o).map (Value.int .i64))) (h2 : w2.ownsRow B 25 1 v' (W.length + 1) (vals ++ [r])) (g2 : (w1.alloc ob).grownBy w2 v.ownBlock) : Copied B w2 v' (W.length + 1) ((W ++ [o]).map ints) := by
  have hm : (W ++ [o]).map ints = W.map ints ++ [ints o] := by rw [List.map_append]; rfl
  have hl : (W.map ints).length = W.length := List.length_map _
  refine Copied.more (wr := w1) (w1 := w1) hown (fun j hj => ?_) (World.grownBy.refl _ _) ?_ h2 g2
  · rw [hm, getD_snoc_lt (by omega)]
    exact hv j hj
  · rw [hm, ← hl, getD_snoc_eq, ints_length]
    exact hr
theorem allF_le {F : Nat → Nat} {c : Nat} : ∀ n, (∀ k, k < n → F k ≤ c) → allF F n ≤ n * c
  | 0, _ => Nat.zero_le _
  | n + 1, h => by
    have h1 := allF_le n fun k hk => h k (by omega)
    have h2 := h n (by omega)
    rw [allF, Nat.succ_mul]
    omega

theorem look_good {n s t : Int} {l : List (Int × Int)} {a : Int} (h : LookSpec n l s t 0 a) : a = 0 ∧ 0 ≤ n ∧ n ≤ 100 ∧ l.length ≤ 1000 ∧ (∀ j, j < l.length → EndsOk n (l.getD j (0, 0)) ∧ (l.getD j (0, 0)).1 ≠ (l.getD j (0, 0)).2) ∧ 0 ≤ s ∧ s < n ∧ 0 ≤ t ∧ t < n ∧ s ≠ t := by
  rcases h with ⟨-, h⟩ | ⟨h, h2⟩
  · exact absurd rfl h
  · obtain ⟨-, g1, g2, g3, -⟩ := tree_good h
    unfold EndsSpec at h2
    refine ⟨by omega, g1, g2, g3, fun j hj => ?_, by omega, by omega, by omega, by omega, by omega⟩
    rcases h with ⟨_, h, _⟩ | ⟨hb, ⟨i, _, _, hw, _⟩ | ⟨h, _⟩⟩
    · cases h
    · exact absurd rfl hw.ne0
    · exact ⟨(h j hj).1, (h j hj).2.1⟩

end Go.Proofs.Ytbnbhjeknocboaa
