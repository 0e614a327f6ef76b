/- Rows of integers that the call owns. Several rows of one's own, each in a block of its own; 'append' onto one of them. No program in sight. A list of counts in a slice of one's own, beside another one that is read. No program in sight. -/
import Derived.Test.YtmhcnekbfngafaaBase0
import Derived.Test.YtmhcnekbfngafaaPA
import Derived.Maps.AppendAt
import Derived.Deep.RegionLaw
import Derived.Test.YtmhcnekbfngafaaPB
import Derived.Laws.OwnMore
import Derived.Deep.AppendLies
namespace Go.Proofs.Ytmhcnekbfngafaa
open Go.RowKit

/-- k rows of m are copied: the value v owns their heads; each is owned, too. -/
def Copied (B : Nat) (wr : World) (v : Value) (k : Nat) (m : List (List Int)) : Prop :=
  ∃ vals, wr.ownsRow B 39 1 v k vals ∧ ∀ j, j < k → ∃ r, vals[j]? = some r ∧ wr.ownsRow B 3 1 r (m.getD j []).length ((m.getD j []).map (Value.int .i64))

theorem Copied.rows {B : Nat} {wr : World} {v : Value} {m : List (List Int)} (h : Copied B wr v m.length m) : IsRows wr v m := by
  obtain ⟨vals, hown, hv⟩ := h
  obtain ⟨a, c, rfl⟩ := ownsRow_form hown
  obtain ⟨h1, h2, h3, b, h4, h5⟩ := ownsRow_cap hown
  refine ⟨a, c, b, 0, rfl, h1, h2, fun hp => (h4 hp).1, h3, fun j hj => ?_⟩
  obtain ⟨r, hr, ho⟩ := hv j hj
  exact ⟨r, by rw [Nat.zero_add]; exact h5 j r hr, IsInts.owned ho⟩

/-- One row more. -/
theorem Copied.more {B : Nat} {wr w1 w2 : World} {v r v' : Value} {k : Nat} {m : List (List Int)} {vals : List Value} {o : Obj}
    (hown : wr.ownsRow B 39 1 v k vals) (hv : ∀ j, j < k → ∃ r, vals[j]? = some r ∧ wr.ownsRow B 3 1 r (m.getD j []).length ((m.getD j []).map (Value.int .i64)))
    (g1 : wr.grownBy w1 none) (hr : w1.ownsRow B 3 1 r (m.getD k []).length ((m.getD k []).map (Value.int .i64)))
    (h2 : w2.ownsRow B 39 1 v' (k + 1) (vals ++ [r])) (g2 : (w1.alloc o).grownBy w2 v.ownBlock) : Copied B w2 v' (k + 1) m := by
  have hlen : vals.length = k := by have := hown.1; omega
  have ty : ∀ g, v.ownBlock = some g → ∃ c e' fz, (w1.alloc o).heap[g]? = some (.cells c e' fz) ∧ e' ≠ 3 := fun g hg => by
    obtain ⟨c, fz, hc⟩ := ownsRow_type ((hown.kept g1 (by cases v.ownBlock <;> simp)).alloc o) g hg
    exact ⟨c, _, fz, hc, by decide⟩
  refine ⟨_, h2, fun j hj => ?_⟩
  by_cases e : j = k
  · subst e
    exact ⟨r, by rw [List.getElem?_append_right (by omega)]; simp [hlen], ownsRow_typed (hr.alloc o) g2 ty⟩
  · obtain ⟨q, hq, ho⟩ := hv j (by omega)
    exact ⟨q, by rw [List.getElem?_append_left (by omega)]; exact hq, ownsRow_typed ((ho.kept g1 (by cases q.ownBlock <;> simp)).alloc o) g2 ty⟩

theorem ownsRow_low {w : World} {base b' : Nat} {e : TypeId} {size : Nat} {v : Value} {n : Nat} {xs : List Value} (h : w.ownsRow base e size v n xs) (hb : b' ≤ base) : w.ownsRow b' e size v n xs := by
  obtain ⟨h1, h2⟩ := h
  refine ⟨h1, ?_⟩
  rcases h2 with h2 | ⟨g, cap, cur, e, hg, h3⟩
  · exact Or.inl h2
  · exact Or.inr ⟨g, cap, cur, e, by omega, h3⟩
theorem grown_of_below {w w' : World} (h : Below w.heap.size w w') : w.grownBy w' none := ⟨h.os, h.tape, h.output, h.size, fun k hk _ => h.block k hk⟩

end Go.Proofs.Ytmhcnekbfngafaa
namespace Go.Proofs.Ytmhcnekbfngafaa
open Go.RowKit Go.Maps

/-- 'append' onto what the call owns: where the new row lies. -/
theorem run_append_at {P : Program} {w : World} (base : Nat) (t ty e : TypeId) (z : Value) (bytes : Nat) (ht : P.underlying t = some (.slice e)) (hinfo : (P.info? e).map (fun i => (i.zero, i.size, i.bytes)) = some (some z, 1, bytes)) (hz1 : z.cells.size = 1)
    (v : Value) (n : Nat) (xs : List Value) (hown : w.ownsRow base e 1 v n xs) (src : Value) (m : Nat) (news : List Value) (hsrc : HasCells w src m news) (hm : 0 < m)
    (h63 : n + m ≤ 9223372036854775807) (hbytes : (n + m) * bytes ≤ 140737488355328) (hbase : base ≤ w.heap.size) :
    ∃ a' c' w', (Builtin.append_ #[t, t] ty #[v, src]).run P w = .ok (.slice a' (n + m) c') w' ∧ w'.ownsRow base e 1 (.slice a' (n + m) c') (n + m) (xs ++ news) ∧ w.grownBy w' v.ownBlock ∧ ((Value.slice a' (n + m) c').ownBlock = v.ownBlock ∨ (Value.slice a' (n + m) c').ownBlock = some w.heap.size) := by
  obtain ⟨i, hi, hz0, hsz, hby⟩ := info_parts hinfo
  obtain ⟨ao, cap, rfl, hl, hnone, hcells, hone⟩ := hsrc
  cases ao with
  | none =>
    obtain ⟨rfl, rfl⟩ := hnone rfl
    exact absurd hm (Nat.lt_irrefl _)
  | some ad =>
    obtain ⟨v', w', h1, h2, h3, _, h5⟩ := run_append_own_at (P := P) (w := w) base t ty e i z 1 bytes ht hi hz0 hsz hby hz1 (by omega) v n xs hown ad m cap news (by omega) (hcells ad rfl) hone (by unfold maxLen; omega) hbytes hbase
    obtain ⟨a', c', rfl⟩ := ownsRow_form h2
    exact ⟨a', c', w', h1, h2, h3, h5⟩

theorem step_append_at {P : Program} {ops : Array Oper} {o : Oper} {a : Act} {w : World} {K : Act → World → Prop} {Q : Exit → Act → World → Prop} {E : Prop} (hg : o.guard = none) (s x : Operand) (t : TypeId)
    (ho : o.op = .call { callee := .builtin .append, args := #[s, x], argTypes := #[t, t] }) (base : Nat) (e : TypeId) (z : Value) (bytes : Nat) (ht : P.underlying t = some (.slice e)) (hinfo : (P.info? e).map (fun i => (i.zero, i.size, i.bytes)) = some (some z, 1, bytes)) (hz1 : z.cells.size = 1)
    (v : Value) (n : Nat) (xs : List Value) (hs : a.eval s = v) (hown : w.ownsRow base e 1 v n xs) (src : Value) (m : Nat) (news : List Value) (hx : a.eval x = src) (hsrc : HasCells w src m news) (hm : 0 < m)
    (h63 : n + m ≤ 9223372036854775807) (hbytes : (n + m) * bytes ≤ 140737488355328) (hbase : base ≤ w.heap.size)
    (hK : ∀ a' c' w', w'.ownsRow base e 1 (.slice a' (n + m) c') (n + m) (xs ++ news) → w.grownBy w' v.ownBlock → ((Value.slice a' (n + m) c').ownBlock = v.ownBlock ∨ (Value.slice a' (n + m) c').ownBlock = some w.heap.size) → K (a.put o.dst (.slice a' (n + m) c')) w') :
    if Region.wanted o (yielded ops a.tmps) = true then Oper.wp P o a w K Q else E := by
  have hw : Region.wanted o (yielded ops a.tmps) = true := by simp [Region.wanted, hg]
  rw [if_pos hw]
  obtain ⟨a', c', w', hr, h2, h3, h4⟩ := run_append_at (P := P) (w := w) base t o.type e z bytes ht hinfo hz1 v n xs hown src m news hsrc hm h63 hbytes hbase
  unfold Oper.wp
  simp [execOp, ho, resolve, invoke, builtin, hs, hx, hr, Result.andThen]
  exact hK a' c' w' h2 h3 h4
theorem wpList_append_at {P : Program} {ops : Array Oper} {rest : List Oper} {o : Oper} {a : Act} {w : World} {Q : Exit → Act → World → Prop} (hg : o.guard = none) (s x : Operand) (t : TypeId)
    (ho : o.op = .call { callee := .builtin .append, args := #[s, x], argTypes := #[t, t] }) (base : Nat) (e : TypeId) (z : Value) (bytes : Nat) (ht : P.underlying t = some (.slice e)) (hinfo : (P.info? e).map (fun i => (i.zero, i.size, i.bytes)) = some (some z, 1, bytes)) (hz1 : z.cells.size = 1)
    (v : Value) (n : Nat) (xs : List Value) (hs : a.eval s = v) (hown : w.ownsRow base e 1 v n xs) (src : Value) (m : Nat) (news : List Value) (hx : a.eval x = src) (hsrc : HasCells w src m news) (hm : 0 < m)
    (h63 : n + m ≤ 9223372036854775807) (hbytes : (n + m) * bytes ≤ 140737488355328) (hbase : base ≤ w.heap.size)
    (hK : ∀ a' c' w', w'.ownsRow base e 1 (.slice a' (n + m) c') (n + m) (xs ++ news) → w.grownBy w' v.ownBlock → ((Value.slice a' (n + m) c').ownBlock = v.ownBlock ∨ (Value.slice a' (n + m) c').ownBlock = some w.heap.size) → wpList P ops Q rest (a.put o.dst (.slice a' (n + m) c')) w') :
    wpList P ops Q (o :: rest) a w := by
  refine wpList_plain hg fun K hK' => ?_
  obtain ⟨a', c', w', hr, h2, h3, h4⟩ := run_append_at (P := P) (w := w) base t o.type e z bytes ht hinfo hz1 v n xs hown src m news hsrc hm h63 hbytes hbase
  unfold Oper.wp
  simp [execOp, ho, resolve, invoke, builtin, hs, hx, hr, Result.andThen]
  exact hK' _ _ (hK a' c' w' h2 h3 h4)

/-- K rows of one's own, of elements of type e, from base on. -/
structure Bank (w : World) (base : Nat) (e : TypeId) (K : Nat) (V : Nat → Value) (X : Nat → List Value) : Prop where
  own : ∀ r, r < K → w.ownsRow base e 1 (V r) (X r).length (X r)
  sep : ∀ r s, r < K → s < K → r ≠ s → ∀ g, (V r).ownBlock = some g → (V s).ownBlock ≠ some g
section
variable {w w' : World} {base K : Nat} {e : TypeId} {V : Nat → Value} {X : Nat → List Value}
theorem Bank.start (w : World) (base : Nat) (e : TypeId) (K : Nat) : Bank w base e K (fun _ => .slice none 0 0) (fun _ => []) := ⟨fun _ _ => World.ownsRow_nil _ _ _ _, fun r s _ _ _ g h => by cases h⟩
theorem Bank.below (h : Bank w base e K V X) (hb : Below w.heap.size w w') : Bank w' base e K V X := ⟨fun r hr => ownsRow_below (h.own r hr) hb (Nat.le_refl _), h.sep⟩
theorem Bank.set (h : Bank w base e K V X) {q : Nat} (hq : q < base) (k : Nat) (x : Value) : Bank (w.setCell ⟨q, k, none⟩ x) base e K V X := by
  refine ⟨fun r hr => (h.own r hr).kept (row := some q) ⟨rfl, rfl, rfl, by simp [World.setCell], fun i _ hi => Below.heap_setCell w ⟨q, k, none⟩ x i (fun e => hi (by rw [e]))⟩ ?_, h.sep⟩
  cases hv : (V r).ownBlock with
  | none => exact Or.inl rfl
  | some g =>
    have := ((h.own r hr).lt g hv).1
    exact Or.inr (fun e => by cases e; omega)
theorem Bank.congr {V' : Nat → Value} {X' : Nat → List Value} (h : Bank w base e K V X) (e1 : ∀ r, r < K → V r = V' r) (e2 : ∀ r, r < K → X r = X' r) : Bank w base e K V' X' :=
  ⟨fun r hr => by rw [← e1 r hr, ← e2 r hr]; exact h.own r hr, fun r s hr hs hne g hg => by rw [← e1 s hs]; rw [← e1 r hr] at hg; exact h.sep r s hr hs hne g hg⟩
/-- Row r has grown. -/
theorem Bank.app (h : Bank w base e K V X) {r : Nat} (hr : r < K) {v' : Value} {news : List Value} (ho : w'.ownsRow base e 1 v' ((X r).length + news.length) (X r ++ news)) (hg : w.grownBy w' (V r).ownBlock) (hat : v'.ownBlock = (V r).ownBlock ∨ v'.ownBlock = some w.heap.size) :
    Bank w' base e K (fun q => if q = r then v' else V q) (fun q => if q = r then X r ++ news else X q) := by
  have other : ∀ s, s < K → s ≠ r → (V s).ownBlock = none ∨ (V s).ownBlock ≠ (V r).ownBlock := fun s hs hne => by
    cases hv : (V s).ownBlock with
    | none => exact Or.inl rfl
    | some g => exact Or.inr (fun e => h.sep s r hs hr hne g hv e.symm)
  have low : ∀ s, s < K → ∀ g, (V s).ownBlock = some g → g < w.heap.size := fun s hs g hv => ((h.own s hs).lt g hv).2
  refine ⟨fun s hs => ?_, fun s t hs ht hne g hv => ?_⟩
  · by_cases e1 : s = r
    · subst e1; simp only [if_true]; rw [List.length_append]; exact ho
    · simp only [if_neg e1]
      exact (h.own s hs).kept hg (other s hs e1)
  · by_cases e1 : s = r
    · subst e1
      simp only [if_true] at hv
      simp only [if_neg (show ¬ t = s from fun e => hne e.symm)]
      rcases hat with ha | ha
      · rw [ha] at hv; exact h.sep s t hs ht hne g hv
      · intro h2
        rw [ha] at hv
        have := low t ht g h2
        cases hv
        omega
    · simp only [if_neg e1] at hv
      by_cases e2 : t = r
      · subst e2
        simp only [if_true]
        rcases hat with ha | ha
        · rw [ha]; exact h.sep s t hs ht hne g hv
        · rw [ha]
          intro h2
          have := low s hs g hv
          cases h2
          omega
      · simp only [if_neg e2]
        exact h.sep s t hs ht hne g hv
end

end Go.Proofs.Ytmhcnekbfngafaa
namespace Go.Proofs.Ytmhcnekbfngafaa
open Go Go.RowKit

abbrev OwnC (w : World) (base : Nat) (v : Value) (L : List Int) : Prop := w.ownsRow base 3 1 v L.length (L.map (Value.int .i64))
theorem OwnC.form {w : World} {base : Nat} {v : Value} {L : List Int} (h : OwnC w base v L) (h0 : 0 < L.length) :
    ∃ g cap, v = .slice (some ⟨g, 0, none⟩) L.length cap ∧ base ≤ g ∧ g < w.heap.size ∧ (∀ j, j < L.length → w.cell? ⟨g, j, none⟩ = some (.int .i64 (L.getD j 0))) ∧ ∀ j, w.frozen? ⟨g, j, none⟩ = false := by
  obtain ⟨g, cap, rfl, h1, h2⟩ := World.ownsRow.form h h0
  refine ⟨g, cap, rfl, h1, h2, fun j hj => ?_, fun j => World.ownsRow.frozenAt h j⟩
  rw [World.ownsRow.cellAt h j (by omega), List.getElem?_map, List.getD, List.getElem?_eq_getElem hj]
  rfl
theorem OwnC.set {w : World} {base g cap : Nat} {L : List Int} (h : OwnC w base (.slice (some ⟨g, 0, none⟩) L.length cap) L) (j : Nat) (x : Int) :
    OwnC (w.setCell ⟨g, j, none⟩ (.int .i64 x)) base (.slice (some ⟨g, 0, none⟩) L.length cap) (L.set j x) := by
  have h1 := (World.ownsRow.stored h j (.int .i64 x)).1
  unfold OwnC
  rw [List.length_set, List.map_set]
  exact h1
theorem IsInts.kept {w w' : World} {v : Value} {l : List Int} {row : Option Nat} (h : IsInts w v l) (hg : w.grownBy w' row) (hl : ∀ g, v.ownBlock = some g → g < w.heap.size) (hne : ∀ g, v.ownBlock = some g → row ≠ some g) : IsInts w' v l := by
  obtain ⟨a, cap, b, o, rfl, h1, h2, h3, h4, h5⟩ := h
  refine ⟨a, cap, b, o, rfl, h1, h2, h3, h4, fun j hj => ?_⟩
  obtain rfl := h3 (by omega)
  rw [← h5 j hj]
  exact World.cell?_of_block (w := w) (hg.block b (hl b rfl) (fun e => hne b rfl e.symm))

/-- One list is written, and one is read. -/
structure CM (w0 wr : World) (cv : Value) (L : List Int) (mv : Value) (M : List Int) : Prop where
  own : OwnC wr w0.heap.size cv L
  im : IsInts wr mv M
  mlt : ∀ g, mv.ownBlock = some g → g < wr.heap.size
  sep : ∀ g, mv.ownBlock = some g → cv.ownBlock ≠ some g
  hb : Below w0.heap.size w0 wr
theorem CM.congr {w0 wr : World} {cv mv : Value} {L L' M : List Int} (h : CM w0 wr cv L mv M) (e : L = L') : CM w0 wr cv L' mv M := e ▸ h
/-- Behind an append of one element, that was laid first. -/
theorem CM.app {w0 wr w2 : World} {cv mv : Value} {L M : List Int} {a2 : Option Addr} {c2 : Nat} {x : Int} (h : CM w0 wr cv L mv M)
    (hown : w2.ownsRow w0.heap.size 3 1 (.slice a2 (L.length + 1) c2) (L.length + 1) (L.map (Value.int .i64) ++ [.int .i64 x])) (hg : (wr.alloc (Obj.cells #[.int .i64 x] 3)).grownBy w2 cv.ownBlock)
    (hat : (Value.slice a2 (L.length + 1) c2).ownBlock = cv.ownBlock ∨ (Value.slice a2 (L.length + 1) c2).ownBlock = some (wr.alloc (Obj.cells #[.int .i64 x] 3)).heap.size) :
    CM w0 w2 (.slice a2 (L.length + 1) c2) (L ++ [x]) mv M := by
  have hs := hg.size
  rw [World.size_alloc] at hs
  refine ⟨?_, ?_, fun g e => Nat.lt_of_lt_of_le (h.mlt g e) (by omega), fun g e => ?_, ?_⟩
  · unfold OwnC
    rw [List.length_append, List.map_append]
    exact hown
  · exact (h.im.below (below1 _ _)).kept hg (fun g e => by rw [World.size_alloc]; have := h.mlt g e; omega) (fun g e => h.sep g e)
  · rcases hat with e2 | e2
    · rw [e2]; exact h.sep g e
    · rw [e2, World.size_alloc]
      intro e3
      have := h.mlt g e
      have := Option.some.inj e3
      omega
  · exact (h.hb.alloc h.hb.size _).grown hg (by rw [World.size_alloc]; have := h.hb.size; omega) (fun g e => (World.ownsRow.lt h.own g e).1)
theorem CM.set {w0 wr : World} {mv : Value} {L M : List Int} {g cap : Nat} (h : CM w0 wr (.slice (some ⟨g, 0, none⟩) L.length cap) L mv M) (j : Nat) (x : Int) :
    CM w0 (wr.setCell ⟨g, j, none⟩ (.int .i64 x)) (.slice (some ⟨g, 0, none⟩) L.length cap) (L.set j x) mv M := by
  have h1 := (World.ownsRow.stored h.own j (.int .i64 x)).2
  refine ⟨h.own.set j x, h.im.kept h1 h.mlt (fun k e => h.sep k e), fun k e => by rw [size_setCell]; exact h.mlt k e, h.sep, h.hb.setCell (World.ownsRow.lt h.own g rfl).1 _⟩
theorem IsInts.cellAt {w : World} {v : Value} {l : List Int} (h : IsInts w v l) {j : Nat} (hj : j < l.length) : ∃ b o cap, v = .slice (some ⟨b, o, none⟩) l.length cap ∧ w.cell? ⟨b, o + j, none⟩ = some (.int .i64 (l.getD j 0)) := by
  obtain ⟨a, cap, b, o, rfl, h1, h2, h3, h4, h5⟩ := h
  obtain rfl := h3 (by omega)
  exact ⟨b, o, cap, rfl, h5 j hj⟩

/-- What an extended list is, one step on. -/
theorem ext_snoc (L : List Int) {n : Nat} (h : L.length ≤ n) : extL L n ++ [0] = extL L (n + 1) := by
  unfold extL
  rw [List.append_assoc, show n + 1 - L.length = n - L.length + 1 by omega, List.replicate_succ']
theorem ext_self (L : List Int) {n : Nat} (h : n ≤ L.length) : extL L n = L := by
  unfold extL
  rw [show n - L.length = 0 by omega]; simp
theorem addAt_set (L : List Int) (k : Nat) (x : Int) {n : Nat} (h1 : L.length ≤ n) (h2 : k < n) (h3 : n ≤ max L.length (k + 1)) : (extL L n).set k ((extL L n).getD k 0 + x) = addAt L k x := by
  unfold addAt
  by_cases e : L.length ≤ k + 1
  · obtain rfl : n = k + 1 := by omega
    rfl
  · obtain rfl : n = L.length := by omega
    rw [ext_self L (Nat.le_refl _), ext_self L (show k + 1 ≤ L.length by omega)]

theorem less_le (s t : Nat) : less s t ≤ s := Nat.le_of_testBit fun i hi => by
  rw [less_bit, Bool.and_eq_true] at hi
  exact hi.1
theorem less_lt {s c : Nat} (h : s.testBit c = true) : less s (pow2 c) < s := by
  refine Nat.lt_of_le_of_ne (less_le _ _) fun e => ?_
  have := less_bit s (pow2 c) c
  rw [e, h, pow2_bit] at this
  simp at this
/-- The least node of a set. -/
theorem low_bit {s N : Nat} (h0 : s ≠ 0) (h : s < 2 ^ N) : ∃ c, c < N ∧ s.testBit c = true ∧ ∀ j, j < c → s.testBit j = false := by
  have : ∃ i, i < N ∧ s.testBit i = true := by
    obtain ⟨i, hi⟩ := Nat.exists_testBit_of_ne_zero h0
    refine ⟨i, ?_, hi⟩
    rcases Nat.lt_or_ge i N with e | e
    · exact e
    · rw [Nat.testBit_lt_two_pow (Nat.lt_of_lt_of_le h (Nat.pow_le_pow_right (by omega) e))] at hi; cases hi
  obtain ⟨i, hi, hb⟩ := this
  induction i using Nat.strongRecOn with
  | _ i ih =>
    by_cases e : ∃ j, j < i ∧ s.testBit j = true
    · obtain ⟨j, hj, hbj⟩ := e
      exact ih j hj (by omega) hbj
    · refine ⟨i, hi, hb, fun j hj => ?_⟩
      cases hbj : s.testBit j
      · rfl
      · exact absurd ⟨j, hj, hbj⟩ e
theorem looA_far {N : Nat} {G : Nat → Nat → Bool} {s k : Nat} (h : N < k) : looA N G s k = 0 := by
  unfold looA
  refine sumI_none fun T _ => ?_
  have : szB N T ≤ N := cnt_le _ N
  rw [decide_eq_false (by omega)]
  simp [b2i]
theorem IsCnt.short {L : List Int} {c : Nat → Int} (h : IsCnt L c) {N : Nat} (hc : ∀ k, N < k → c k = 0) : L.length ≤ N + 1 := by
  rcases Nat.lt_or_ge (N + 1) L.length with e | e
  · have := h.pos (N + 1) e
    rw [hc (N + 1) (by omega)] at this
    omega
  · exact e
theorem cnt_one (c : Nat → Int) (h : ∀ k, c k = if k = 0 then 1 else 0) : IsCnt [1] c where
  at' := fun k => by
    rw [h]
    match k with
    | 0 => rfl
    | k + 1 => rfl
  pos := fun k hk => by
    have : k = 0 := by simpa using hk
    rw [h, if_pos this]; decide

end Go.Proofs.Ytmhcnekbfngafaa
