/- Rows of integers that the call owns. Several rows of one's own, each in a block of its own; 'append' onto one of them. No program in sight. -/
import Derived.Test.YtnhhohhhpaejmaaBase0
import Derived.Test.YtnhhohhhpaejmaaPA
import Derived.Maps.AppendAt
import Derived.Deep.RegionLaw
namespace Go.Proofs.Ytnhhohhhpaejmaa
open Go.RowKit

/-- k rows of m are copied: the value v owns their heads; each is owned, too. -/
def Copied (B : Nat) (wr : World) (v : Value) (k : Nat) (m : List (List Int)) : Prop :=
  ∃ vals, wr.ownsRow B 29 1 v k vals ∧ ∀ j, j < k → ∃ r, vals[j]? = some r ∧ wr.ownsRow B 3 1 r (m.getD j []).length ((m.getD j []).map (Value.int .i64))

theorem Copied.rows {B : Nat} {wr : World} {v : Value} {m : List (List Int)} (h : Copied B wr v m.length m) : IsRows wr v m := by
  obtain ⟨vals, hown, hv⟩ := h
  obtain ⟨a, c, rfl⟩ := ownsRow_form hown
  obtain ⟨h1, h2, h3, b, h4, h5⟩ := ownsRow_cap hown
  refine ⟨a, c, b, 0, rfl, h1, h2, fun hp => (h4 hp).1, h3, fun j hj => ?_⟩
  obtain ⟨r, hr, ho⟩ := hv j hj
  exact ⟨r, by rw [Nat.zero_add]; exact h5 j r hr, IsInts.owned ho⟩

/-- One row more. -/
theorem Copied.more {B : Nat} {wr w1 w2 : World} {v r v' : Value} {k : Nat} {m : List (List Int)} {vals : List Value} {o : Obj}
    (hown : wr.ownsRow B 29 1 v k vals) (hv : ∀ j, j < k → ∃ r, vals[j]? = some r ∧ wr.ownsRow B 3 1 r (m.getD j []).length ((m.getD j []).map (Value.int .i64)))
    (g1 : wr.grownBy w1 none) (hr : w1.ownsRow B 3 1 r (m.getD k []).length ((m.getD k []).map (Value.int .i64)))
    (h2 : w2.ownsRow B 29 1 v' (k + 1) (vals ++ [r])) (g2 : (w1.alloc o).grownBy w2 v.ownBlock) : Copied B w2 v' (k + 1) m := by
  have hlen : vals.length = k := by have := hown.1; omega
  have ty : ∀ g, v.ownBlock = some g → ∃ c e' fz, (w1.alloc o).heap[g]? = some (.cells c e' fz) ∧ e' ≠ 3 := fun g hg => by
    obtain ⟨c, fz, hc⟩ := ownsRow_type ((hown.kept g1 (by cases v.ownBlock <;> simp)).alloc o) g hg
    exact ⟨c, _, fz, hc, by decide⟩
  refine ⟨_, h2, fun j hj => ?_⟩
  by_cases e : j = k
  · subst e
    exact ⟨r, by rw [List.getElem?_append_right (by omega)]; simp [hlen], ownsRow_typed (hr.alloc o) g2 ty⟩
  · obtain ⟨q, hq, ho⟩ := hv j (by omega)
    exact ⟨q, by rw [List.getElem?_append_left (by omega)]; exact hq, ownsRow_typed ((ho.kept g1 (by cases q.ownBlock <;> simp)).alloc o) g2 ty⟩

theorem ownsRow_low {w : World} {base b' : Nat} {e : TypeId} {size : Nat} {v : Value} {n : Nat} {xs : List Value} (h : w.ownsRow base e size v n xs) (hb : b' ≤ base) : w.ownsRow b' e size v n xs := by
  obtain ⟨h1, h2⟩ := h
  refine ⟨h1, ?_⟩
  rcases h2 with h2 | ⟨g, cap, cur, e, hg, h3⟩
  · exact Or.inl h2
  · exact Or.inr ⟨g, cap, cur, e, by omega, h3⟩
theorem grown_of_below {w w' : World} (h : Below w.heap.size w w') : w.grownBy w' none := ⟨h.os, h.tape, h.output, h.size, fun k hk _ => h.block k hk⟩

end Go.Proofs.Ytnhhohhhpaejmaa
namespace Go.Proofs.Ytnhhohhhpaejmaa
open Go.RowKit Go.Maps

/-- 'append' onto what the call owns: where the new row lies. -/
theorem run_append_at {P : Program} {w : World} (base : Nat) (t ty e : TypeId) (z : Value) (bytes : Nat) (ht : P.underlying t = some (.slice e)) (hinfo : (P.info? e).map (fun i => (i.zero, i.size, i.bytes)) = some (some z, 1, bytes)) (hz1 : z.cells.size = 1)
    (v : Value) (n : Nat) (xs : List Value) (hown : w.ownsRow base e 1 v n xs) (src : Value) (m : Nat) (news : List Value) (hsrc : HasCells w src m news) (hm : 0 < m)
    (h63 : n + m ≤ 9223372036854775807) (hbytes : (n + m) * bytes ≤ 140737488355328) (hbase : base ≤ w.heap.size) :
    ∃ a' c' w', (Builtin.append_ #[t, t] ty #[v, src]).run P w = .ok (.slice a' (n + m) c') w' ∧ w'.ownsRow base e 1 (.slice a' (n + m) c') (n + m) (xs ++ news) ∧ w.grownBy w' v.ownBlock ∧ ((Value.slice a' (n + m) c').ownBlock = v.ownBlock ∨ (Value.slice a' (n + m) c').ownBlock = some w.heap.size) := by
  obtain ⟨i, hi, hz0, hsz, hby⟩ := info_parts hinfo
  obtain ⟨ao, cap, rfl, hl, hnone, hcells, hone⟩ := hsrc
  cases ao with
  | none =>
    obtain ⟨rfl, rfl⟩ := hnone rfl
    exact absurd hm (Nat.lt_irrefl _)
  | some ad =>
    obtain ⟨v', w', h1, h2, h3, _, h5⟩ := run_append_own_at (P := P) (w := w) base t ty e i z 1 bytes ht hi hz0 hsz hby hz1 (by omega) v n xs hown ad m cap news (by omega) (hcells ad rfl) hone (by unfold maxLen; omega) hbytes hbase
    obtain ⟨a', c', rfl⟩ := ownsRow_form h2
    exact ⟨a', c', w', h1, h2, h3, h5⟩

theorem step_append_at {P : Program} {ops : Array Oper} {o : Oper} {a : Act} {w : World} {K : Act → World → Prop} {Q : Exit → Act → World → Prop} {E : Prop} (hg : o.guard = none) (s x : Operand) (t : TypeId)
    (ho : o.op = .call { callee := .builtin .append, args := #[s, x], argTypes := #[t, t] }) (base : Nat) (e : TypeId) (z : Value) (bytes : Nat) (ht : P.underlying t = some (.slice e)) (hinfo : (P.info? e).map (fun i => (i.zero, i.size, i.bytes)) = some (some z, 1, bytes)) (hz1 : z.cells.size = 1)
    (v : Value) (n : Nat) (xs : List Value) (hs : a.eval s = v) (hown : w.ownsRow base e 1 v n xs) (src : Value) (m : Nat) (news : List Value) (hx : a.eval x = src) (hsrc : HasCells w src m news) (hm : 0 < m)
    (h63 : n + m ≤ 9223372036854775807) (hbytes : (n + m) * bytes ≤ 140737488355328) (hbase : base ≤ w.heap.size)
    (hK : ∀ a' c' w', w'.ownsRow base e 1 (.slice a' (n + m) c') (n + m) (xs ++ news) → w.grownBy w' v.ownBlock → ((Value.slice a' (n + m) c').ownBlock = v.ownBlock ∨ (Value.slice a' (n + m) c').ownBlock = some w.heap.size) → K (a.put o.dst (.slice a' (n + m) c')) w') :
    if Region.wanted o (yielded ops a.tmps) = true then Oper.wp P o a w K Q else E := by
  have hw : Region.wanted o (yielded ops a.tmps) = true := by simp [Region.wanted, hg]
  rw [if_pos hw]
  obtain ⟨a', c', w', hr, h2, h3, h4⟩ := run_append_at (P := P) (w := w) base t o.type e z bytes ht hinfo hz1 v n xs hown src m news hsrc hm h63 hbytes hbase
  unfold Oper.wp
  simp [execOp, ho, resolve, invoke, builtin, hs, hx, hr, Result.andThen]
  exact hK a' c' w' h2 h3 h4
theorem wpList_append_at {P : Program} {ops : Array Oper} {rest : List Oper} {o : Oper} {a : Act} {w : World} {Q : Exit → Act → World → Prop} (hg : o.guard = none) (s x : Operand) (t : TypeId)
    (ho : o.op = .call { callee := .builtin .append, args := #[s, x], argTypes := #[t, t] }) (base : Nat) (e : TypeId) (z : Value) (bytes : Nat) (ht : P.underlying t = some (.slice e)) (hinfo : (P.info? e).map (fun i => (i.zero, i.size, i.bytes)) = some (some z, 1, bytes)) (hz1 : z.cells.size = 1)
    (v : Value) (n : Nat) (xs : List Value) (hs : a.eval s = v) (hown : w.ownsRow base e 1 v n xs) (src : Value) (m : Nat) (news : List Value) (hx : a.eval x = src) (hsrc : HasCells w src m news) (hm : 0 < m)
    (h63 : n + m ≤ 9223372036854775807) (hbytes : (n + m) * bytes ≤ 140737488355328) (hbase : base ≤ w.heap.size)
    (hK : ∀ a' c' w', w'.ownsRow base e 1 (.slice a' (n + m) c') (n + m) (xs ++ news) → w.grownBy w' v.ownBlock → ((Value.slice a' (n + m) c').ownBlock = v.ownBlock ∨ (Value.slice a' (n + m) c').ownBlock = some w.heap.size) → wpList P ops Q rest (a.put o.dst (.slice a' (n + m) c')) w') :
    wpList P ops Q (o :: rest) a w := by
  refine wpList_plain hg fun K hK' => ?_
  obtain ⟨a', c', w', hr, h2, h3, h4⟩ := run_append_at (P := P) (w := w) base t o.type e z bytes ht hinfo hz1 v n xs hown src m news hsrc hm h63 hbytes hbase
  unfold Oper.wp
  simp [execOp, ho, resolve, invoke, builtin, hs, hx, hr, Result.andThen]
  exact hK' _ _ (hK a' c' w' h2 h3 h4)

/-- K rows of one's own, of elements of type e, from base on. -/
structure Bank (w : World) (base : Nat) (e : TypeId) (K : Nat) (V : Nat → Value) (X : Nat → List Value) : Prop where
  own : ∀ r, r < K → w.ownsRow base e 1 (V r) (X r).length (X r)
  sep : ∀ r s, r < K → s < K → r ≠ s → ∀ g, (V r).ownBlock = some g → (V s).ownBlock ≠ some g
section
variable {w w' : World} {base K : Nat} {e : TypeId} {V : Nat → Value} {X : Nat → List Value}
theorem Bank.start (w : World) (base : Nat) (e : TypeId) (K : Nat) : Bank w base e K (fun _ => .slice none 0 0) (fun _ => []) := ⟨fun _ _ => World.ownsRow_nil _ _ _ _, fun r s _ _ _ g h => by cases h⟩
theorem Bank.below (h : Bank w base e K V X) (hb : Below w.heap.size w w') : Bank w' base e K V X := ⟨fun r hr => ownsRow_below (h.own r hr) hb (Nat.le_refl _), h.sep⟩
theorem Bank.set (h : Bank w base e K V X) {q : Nat} (hq : q < base) (k : Nat) (x : Value) : Bank (w.setCell ⟨q, k, none⟩ x) base e K V X := by
  refine ⟨fun r hr => (h.own r hr).kept (row := some q) ⟨rfl, rfl, rfl, by simp [World.setCell], fun i _ hi => Below.heap_setCell w ⟨q, k, none⟩ x i (fun e => hi (by rw [e]))⟩ ?_, h.sep⟩
  cases hv : (V r).ownBlock with
  | none => exact Or.inl rfl
  | some g =>
    have := ((h.own r hr).lt g hv).1
    exact Or.inr (fun e => by cases e; omega)
theorem Bank.congr {V' : Nat → Value} {X' : Nat → List Value} (h : Bank w base e K V X) (e1 : ∀ r, r < K → V r = V' r) (e2 : ∀ r, r < K → X r = X' r) : Bank w base e K V' X' :=
  ⟨fun r hr => by rw [← e1 r hr, ← e2 r hr]; exact h.own r hr, fun r s hr hs hne g hg => by rw [← e1 s hs]; rw [← e1 r hr] at hg; exact h.sep r s hr hs hne g hg⟩
/-- Row r has grown. -/
theorem Bank.app (h : Bank w base e K V X) {r : Nat} (hr : r < K) {v' : Value} {news : List Value} (ho : w'.ownsRow base e 1 v' ((X r).length + news.length) (X r ++ news)) (hg : w.grownBy w' (V r).ownBlock) (hat : v'.ownBlock = (V r).ownBlock ∨ v'.ownBlock = some w.heap.size) :
    Bank w' base e K (fun q => if q = r then v' else V q) (fun q => if q = r then X r ++ news else X q) := by
  have other : ∀ s, s < K → s ≠ r → (V s).ownBlock = none ∨ (V s).ownBlock ≠ (V r).ownBlock := fun s hs hne => by
    cases hv : (V s).ownBlock with
    | none => exact Or.inl rfl
    | some g => exact Or.inr (fun e => h.sep s r hs hr hne g hv e.symm)
  have low : ∀ s, s < K → ∀ g, (V s).ownBlock = some g → g < w.heap.size := fun s hs g hv => ((h.own s hs).lt g hv).2
  refine ⟨fun s hs => ?_, fun s t hs ht hne g hv => ?_⟩
  · by_cases e1 : s = r
    · subst e1; simp only [if_true]; rw [List.length_append]; exact ho
    · simp only [if_neg e1]
      exact (h.own s hs).kept hg (other s hs e1)
  · by_cases e1 : s = r
    · subst e1
      simp only [if_true] at hv
      simp only [if_neg (show ¬ t = s from fun e => hne e.symm)]
      rcases hat with ha | ha
      · rw [ha] at hv; exact h.sep s t hs ht hne g hv
      · intro h2
        rw [ha] at hv
        have := low t ht g h2
        cases hv
        omega
    · simp only [if_neg e1] at hv
      by_cases e2 : t = r
      · subst e2
        simp only [if_true]
        rcases hat with ha | ha
        · rw [ha]; exact h.sep s t hs ht hne g hv
        · rw [ha]
          intro h2
          have := low s hs g hv
          cases h2
          omega
      · simp only [if_neg e2]
        exact h.sep s t hs ht hne g hv
end

end Go.Proofs.Ytnhhohhhpaejmaa
