/- General facts on memory: what a slice value reads as (IsInts, IsRows), and which blocks a call may have turned (Chg). No program in sight. Slices that the call itself builds by append: laws in the form that the walk takes. No program in sight. The code of bytes of a graph, and its text: plain. No program in sight. Rows of memory that are told by a function, of integers or bools. No program in sight. All pairs that are told: a list, row by row. No program in sight. Lists of pairs that rise. No program in sight. -/
import Derived.WalkKit
import Derived.Lib.Hide
import Derived.Deep.OwnRows
import Derived.Deep.Draws
import Derived.Laws.AppendOwnNone
import Derived.Lib.ItoaNum
namespace Go.Proofs.YtokjcapheogkoaaDoor
open Go.RowKit

/-- Slice value v reads as the integers l. -/
def IsInts (w : World) (v : Value) (l : List Int) : Prop :=
  ∃ (a : Option Addr) (cap b o : Nat), v = .slice a l.length cap ∧ l.length ≤ cap ∧ cap ≤ 9223372036854775807 ∧ (0 < l.length → a = some ⟨b, o, none⟩) ∧
    (a = none → cap = 0) ∧ ∀ j, j < l.length → w.cell? ⟨b, o + j, none⟩ = some (.int .i64 (l.getD j 0))

/-- Slice value v reads as the rows m of integers. -/
def IsRows (w : World) (v : Value) (m : List (List Int)) : Prop :=
  ∃ (a : Option Addr) (cap b o : Nat), v = .slice a m.length cap ∧ m.length ≤ cap ∧ cap ≤ 9223372036854775807 ∧ (0 < m.length → a = some ⟨b, o, none⟩) ∧
    (a = none → cap = 0) ∧ ∀ j, j < m.length → ∃ r, w.cell? ⟨b, o + j, none⟩ = some r ∧ IsInts w r (m.getD j [])

theorem IsInts.nil (w : World) : IsInts w (.slice none 0 0) [] := ⟨none, 0, 0, 0, rfl, Nat.le_refl _, by omega, by simp, by simp, by simp⟩

theorem below_cell {w w' : World} (h : Below w.heap.size w w') {a : Addr} {v : Value} (hc : w.cell? a = some v) : w'.cell? a = some v := by
  rw [h.cell (World.block_lt_of_cell? w a hc)]; exact hc

theorem IsInts.below {w w' : World} {v : Value} {l : List Int} (h : IsInts w v l) (hb : Below w.heap.size w w') : IsInts w' v l := by
  obtain ⟨a, cap, b, o, h1, h2, h3, h4, h4', h5⟩ := h
  exact ⟨a, cap, b, o, h1, h2, h3, h4, h4', fun j hj => below_cell hb (h5 j hj)⟩

theorem IsRows.below {w w' : World} {v : Value} {m : List (List Int)} (h : IsRows w v m) (hb : Below w.heap.size w w') : IsRows w' v m := by
  obtain ⟨a, cap, b, o, h1, h2, h3, h4, h4', h5⟩ := h
  exact ⟨a, cap, b, o, h1, h2, h3, h4, h4', fun j hj => by obtain ⟨r, hr, hi⟩ := h5 j hj; exact ⟨r, below_cell hb hr, hi.below hb⟩⟩

theorem Below.drewN' {B : Nat} {a w : World} (h : Below B a w) (n : Nat) : Below B a (w.drewN n) := ⟨h.os, h.tape, h.output, h.size, h.block⟩

theorem IsInts.drewN {w : World} {v : Value} {l : List Int} (h : IsInts w v l) (n : Nat) : IsInts (w.drewN n) v l := h
theorem IsRows.drewN {w : World} {v : Value} {m : List (List Int)} (h : IsRows w v m) (n : Nat) : IsRows (w.drewN n) v m := h.below (Below.drewN' (Below.refl _ _) n)

/-- An element under a name of its own, in a later world. -/
theorem ints_at {w wr : World} {b o k : Nat} {l : List Int} (h : ∀ j, j < l.length → w.cell? ⟨b, o + j, none⟩ = some (.int .i64 (l.getD j 0))) (hb : Below w.heap.size w wr) (hk : k < l.length) :
    ∃ x, Hid (l.getD k 0 = x) ∧ wr.cell? ⟨b, o + k, none⟩ = some (.int .i64 x) := ⟨_, rfl, below_cell hb (h k hk)⟩
theorem rows_at {w wr : World} {b o k : Nat} {m : List (List Int)} (h : ∀ j, j < m.length → ∃ r, w.cell? ⟨b, o + j, none⟩ = some r ∧ IsInts w r (m.getD j [])) (hb : Below w.heap.size w wr) (hk : k < m.length) :
    ∃ x, Hid (m.getD k [] = x) ∧ ∃ a cap, wr.cell? ⟨b, o + k, none⟩ = some (.slice a x.length cap) ∧ IsInts wr (.slice a x.length cap) x := by
  obtain ⟨r, hr, hi⟩ := h k hk
  obtain ⟨a, cap, b', o', rfl, hh⟩ := id hi
  exact ⟨_, rfl, a, cap, below_cell hb hr, hi.below hb⟩

/-- The world moved on by draws alone. -/
def Drew (w w' : World) : Prop := ∃ n, w' = w.drewN n
theorem Drew.refl (w : World) : Drew w w := ⟨0, rfl⟩
theorem Drew.add {w w' : World} (h : Drew w w') (n : Nat) : Drew w (w'.drewN n) := by
  obtain ⟨m, rfl⟩ := h
  exact ⟨m + n, by rw [World.drewN_drewN]⟩
theorem Drew.drew {w w' : World} (h : Drew w w') : Drew w w'.drew := h.add 1
theorem Drew.trans {a b c : World} (h : Drew a b) (k : Drew b c) : Drew a c := by
  obtain ⟨m, rfl⟩ := k
  exact h.add m
theorem ret_bool {a b : Bool} (h : a = b) : Ending.returned (.bool a) = Ending.returned (.bool b) := by rw [h]
theorem ret_int {a b : Int} (h : a = b) : Ending.returned (.int .i64 a) = Ending.returned (.int .i64 b) := by rw [h]
theorem Drew.below {w w' : World} (h : Drew w w') {B : Nat} : Below B w w' := by obtain ⟨n, rfl⟩ := h; exact Below.drewN' (Below.refl _ _) n

/-- Of the blocks of w only those of S may have turned. -/
structure Chg (S : Nat → Prop) (w w' : World) : Prop where
  os : w'.os = w.os
  tape : w'.tape = w.tape
  output : w'.output = w.output
  size : w.heap.size ≤ w'.heap.size
  block : ∀ k, k < w.heap.size → ¬ S k → w'.heap[k]? = w.heap[k]?

theorem Chg.refl (S : Nat → Prop) (w : World) : Chg S w w := ⟨rfl, rfl, rfl, Nat.le_refl _, fun _ _ _ => rfl⟩
theorem Chg.trans {S : Nat → Prop} {a b c : World} (h : Chg S a b) (k : Chg S b c) : Chg S a c :=
  ⟨k.os.trans h.os, k.tape.trans h.tape, k.output.trans h.output, Nat.le_trans h.size k.size, fun i hi hs => (k.block i (Nat.lt_of_lt_of_le hi h.size) hs).trans (h.block i hi hs)⟩
theorem Chg.mono {S T : Nat → Prop} {w w' : World} (h : Chg S w w') (hT : ∀ k, k < w.heap.size → S k → T k) : Chg T w w' :=
  ⟨h.os, h.tape, h.output, h.size, fun i hi hs => h.block i hi (fun hk => hs (hT i hi hk))⟩
theorem Chg.ofBelow {S : Nat → Prop} {w w' : World} (h : Below w.heap.size w w') : Chg S w w' := ⟨h.os, h.tape, h.output, h.size, fun i hi _ => h.block i hi⟩
theorem Chg.toBelow {B : Nat} {S : Nat → Prop} {w w' : World} (h : Chg S w w') (hB : B ≤ w.heap.size) (hS : ∀ k, k < B → ¬ S k) : Below B w w' :=
  ⟨h.os, h.tape, h.output, h.size, fun i hi => h.block i (Nat.lt_of_lt_of_le hi hB) (hS i hi)⟩
theorem Chg.drew {S : Nat → Prop} {a w : World} (h : Chg S a w) : Chg S a w.drew := ⟨h.os, h.tape, h.output, h.size, h.block⟩
theorem Chg.drewN {S : Nat → Prop} {a w : World} (h : Chg S a w) (n : Nat) : Chg S a (w.drewN n) := ⟨h.os, h.tape, h.output, h.size, h.block⟩
theorem Chg.alloc {S : Nat → Prop} {a w : World} (h : Chg S a w) (o : Obj) : Chg S a (w.alloc o) :=
  h.trans (Chg.ofBelow ((Below.refl _ _).alloc (Nat.le_refl _) o))
theorem Chg.setCell {S : Nat → Prop} {a w : World} (h : Chg S a w) {p : Addr} (hp : p.block < a.heap.size → S p.block) (u : Value) : Chg S a (w.setCell p u) :=
  ⟨h.os, h.tape, h.output, by simpa [World.setCell] using h.size, fun k hk hs => (Below.heap_setCell w p u k (fun e => hs (e ▸ hp (e ▸ hk)))).trans (h.block k hk hs)⟩
theorem Chg.cell {S : Nat → Prop} {w w' : World} (h : Chg S w w') {a : Addr} {v : Value} (hc : w.cell? a = some v) (hs : ¬ S a.block) : w'.cell? a = some v := by
  rw [World.cell?_of_block (h.block _ (World.block_lt_of_cell? w a hc) hs)]; exact hc
theorem Chg.rowIs {S : Nat → Prop} {w w' : World} (h : Chg S w w') {b : Nat} {t : TypeId} {n : Nat} {f : Nat → Value} (hr : w.rowIs b t n f) (hs : ¬ S b) : w'.rowIs b t n f :=
  hr.of_block (h.block _ hr.lt hs)

theorem IsInts.take {w : World} {a : Option Addr} {n cap : Nat} {l : List Int} (h : IsInts w (.slice a n cap) l) {k : Nat} (hk : k ≤ n) : IsInts w (.slice a k cap) (l.take k) := by
  obtain ⟨a', cap', b, o, h1, h2, h3, h4, h4', h5⟩ := h
  simp only [Value.slice.injEq] at h1
  obtain ⟨rfl, rfl, rfl⟩ := h1
  have hl : (l.take k).length = k := by simp; omega
  refine ⟨a, cap, b, o, by rw [hl], by omega, h3, fun hp => h4 (by omega), h4', fun j hj => ?_⟩
  rw [h5 j (by omega)]
  have hj' : j < k := by omega
  simp [List.getD, hj']

/-- 'x[:k]' of a slice, for every world. -/
theorem run_slice_hi {P : Program} {t e : TypeId} {i : TypeInfo} (ht : P.underlying t = some (.slice e)) (hi : P.info? e = some i) (a : Option Addr) (len cap k : Nat) (hk : k ≤ cap) (w : World) :
    (Instr.slice t (.slice a len cap) none (some (.int .i64 (k : Int))) none).run P w = .ok (.slice a k cap) w := by
  have e0 : ∀ s : Nat, (if cap = 0 then a else a.map (fun x => x.add (0 * s))) = a := by
    intro s
    split
    · rfl
    · cases a <;> simp [Addr.add]
  simp [Instr.slice, run_underlying ht, Instr.sliceBounds, run_sliceBound, hk, sizeOf, typeInfo, hi]
  intro _
  cases a <;> simp [Addr.add]

/-- Where 'x[1:]' of a whole block begins. -/
def tailAt (b n : Nat) : Option Addr := if n = 0 then some ⟨b, 0, none⟩ else some ⟨b, 1, none⟩
/-- 'x[1:]' of a whole block of n + 1 one-cell elements, for every world. -/
theorem run_slice_tail {P : Program} {t e : TypeId} {i : TypeInfo} (ht : P.underlying t = some (.slice e)) (hi : P.info? e = some i) (hs : i.size = 1) (b n : Nat) (w : World) :
    (Instr.slice t (.slice (some ⟨b, 0, none⟩) (n + 1) (n + 1)) (some (.int .i64 1)) none none).run P w = .ok (.slice (tailAt b n) n n) w := by
  have hb : (Instr.sliceBound (.int .i64 1) (n + 1) .sliceB).run P w = .ok 1 w := run_sliceBound w .i64 1 (n + 1) .sliceB (by omega) (by omega)
  simp [Instr.slice, run_underlying ht, Instr.sliceBounds, hb, sizeOf, typeInfo, hi, hs, tailAt]
  by_cases e : n = 0
  · rw [if_pos e, if_pos e]
  · rw [if_neg e, if_neg e]; simp [Addr.add]

/-- The tail of a whole block that is a row of integers. -/
theorem IsInts.ofTail {w : World} {b n : Nat} {t : TypeId} {f : Nat → Int} (h : w.rowIs b t (n + 1) (fun i => .int .i64 (f i))) (hn : n ≤ 9223372036854775807) :
    IsInts w (.slice (tailAt b n) n n) ((List.range n).map fun i => f (i + 1)) := by
  refine ⟨tailAt b n, n, b, 1, by simp, by simp, hn, fun hp => ?_, fun h => ?_, fun j hj => ?_⟩
  · have : 0 < n := by simpa using hp
    unfold tailAt; rw [if_neg (by omega)]
  · unfold tailAt at h; split at h <;> cases h
  · have hj' : j < n := by simpa using hj
    rw [Nat.add_comm 1 j, h.cell (by omega)]; simp [List.getD, hj']

/-- A whole block that is a row of integers, off the head. -/
theorem IsInts.ofRow {w : World} {b n : Nat} {t : TypeId} {f : Nat → Int} (h : w.rowIs b t n (fun i => .int .i64 (f i))) (hn : n ≤ 9223372036854775807) :
    IsInts w (.slice (some ⟨b, 0, none⟩) n n) ((List.range n).map f) :=
  ⟨some ⟨b, 0, none⟩, n, b, 0, by simp, by simp, hn, fun _ => rfl, (fun h => by cases h), fun j hj => by
    have hj' : j < n := by simpa using hj
    rw [Nat.zero_add, h.cell hj']; simp [List.getD, hj']⟩

end Go.Proofs.YtokjcapheogkoaaDoor
namespace Go.Proofs.YtokjcapheogkoaaDoor
open Go.RowKit

/-- Slice value v has the m one-cell elements xs, wherever. -/
def HasCells (w : World) (v : Value) (m : Nat) (xs : List Value) : Prop :=
  ∃ (a : Option Addr) (cap : Nat), v = .slice a m cap ∧ xs.length = m ∧ (a = none → m = 0 ∧ cap = 0) ∧ (∀ ad, a = some ad → ∀ j u, xs[j]? = some u → w.cell? (ad.add j) = some u) ∧ ∀ u ∈ xs, u.oneCell' = true

theorem IsInts.cells {w : World} {v : Value} {l : List Int} (h : IsInts w v l) : HasCells w v l.length (l.map (Value.int .i64)) := by
  obtain ⟨a, cap, b, o, rfl, h2, h3, h4, h4', h5⟩ := h
  refine ⟨a, cap, rfl, by simp, fun e => ⟨by have := h4' e; omega, h4' e⟩, fun ad had j u hu => ?_, ints_oneCell _ _⟩
  have hj : j < l.length := by have := (List.getElem?_eq_some_iff.1 hu).1; simpa using this
  rw [h4 (by omega)] at had
  obtain rfl := Option.some.inj had
  rw [Addr.add_lit, h5 j hj]
  have e : (l.map (Value.int .i64))[j]? = some (.int .i64 (l.getD j 0)) := by simp [List.getD, hj]
  rw [e] at hu
  exact hu

/-- One value in a new block of its own. -/
theorem HasCells.one (w : World) (v : Value) (t : TypeId) (hv : v.oneCell' = true) : HasCells (w.alloc (.cells #[v] t)) (.slice (some ⟨w.heap.size, 0, none⟩) 1 1) 1 [v] := by
  refine ⟨_, _, rfl, rfl, by simp, fun ad had j u hu => ?_, by simpa using hv⟩
  obtain rfl := Option.some.inj had
  have hj : j = 0 := by have := (List.getElem?_eq_some_iff.1 hu).1; simp at this; omega
  subst hj
  simp only [List.getElem?_cons_zero, Option.some.injEq] at hu
  subst hu
  simp [Addr.add]

/-- .. its number said otherwise. -/
theorem HasCells.at (w : World) (v : Value) (t : TypeId) (hv : v.oneCell' = true) {b : Nat} (hb : b = w.heap.size) : HasCells (w.alloc (.cells #[v] t)) (.slice (some ⟨b, 0, none⟩) 1 1) 1 [v] := by
  subst hb; exact HasCells.one w v t hv

theorem grown_none {w w' : World} {base : Nat} {e : TypeId} {size : Nat} {v : Value} {n : Nat} {xs : List Value} (h : w.ownsRow base e size v n xs) (hg : w.grownBy w' none) : w'.ownsRow base e size v n xs :=
  h.kept hg (by cases v.ownBlock <;> simp)

theorem le_alloc {B : Nat} {w : World} {o : Obj} (h : B ≤ w.heap.size) : B ≤ (w.alloc o).heap.size := by rw [World.size_alloc]; omega

/-- An owned value is a slice of its length. -/
theorem ownsRow_form {w : World} {base : Nat} {e : TypeId} {size : Nat} {v : Value} {n : Nat} {xs : List Value} (h : w.ownsRow base e size v n xs) : ∃ a c, v = .slice a n c := by
  rcases h.2 with ⟨rfl, rfl⟩ | ⟨g, cap, cur, rfl, _⟩
  · exact ⟨none, 0, rfl⟩
  · exact ⟨_, _, rfl⟩

/-- What is owned stays owned where blocks of another element type alone have turned. -/
theorem ownsRow_typed {w w' : World} {base : Nat} {e : TypeId} {size : Nat} {v : Value} {n : Nat} {xs : List Value} {row : Option Nat} (h : w.ownsRow base e size v n xs) (hg : w.grownBy w' row)
    (hr : ∀ g, row = some g → ∃ c e' fz, w.heap[g]? = some (.cells c e' fz) ∧ e' ≠ e) : w'.ownsRow base e size v n xs := by
  refine h.kept hg ?_
  rcases h.2 with ⟨rfl, _⟩ | ⟨g, cap, cur, rfl, hb, hgg, _⟩
  · exact Or.inl rfl
  · refine Or.inr fun e1 => ?_
    obtain ⟨c, e', fz, h1, h2⟩ := hr g (by rw [← e1]; rfl)
    rw [hgg] at h1
    simp only [Option.some.injEq, Obj.cells.injEq] at h1
    exact h2 h1.2.1.symm

theorem ownsRow_type {w : World} {base : Nat} {e : TypeId} {size : Nat} {v : Value} {n : Nat} {xs : List Value} (h : w.ownsRow base e size v n xs) : ∀ g, v.ownBlock = some g → ∃ c fz, w.heap[g]? = some (.cells c e fz) := by
  intro g hg
  rcases h.2 with ⟨rfl, _⟩ | ⟨g', cap, cur, rfl, hb, hgg, _⟩
  · simp [Value.ownBlock] at hg
  · simp only [Value.ownBlock, Option.some.injEq] at hg
    subst hg
    exact ⟨_, _, hgg⟩

theorem ownsRow_below {w w' : World} {base B : Nat} {e : TypeId} {size : Nat} {v : Value} {n : Nat} {xs : List Value} (h : w.ownsRow base e size v n xs) (hb : Below B w w') (hB : w.heap.size ≤ B) : w'.ownsRow base e size v n xs :=
  h.kept (row := none) ⟨hb.os, hb.tape, hb.output, hb.size, fun k hk _ => hb.block k (by omega)⟩ (by cases hv : v.ownBlock <;> simp)

theorem ownsRow_cap {w : World} {base : Nat} {e : TypeId} {a : Option Addr} {c : Nat} {n : Nat} {xs : List Value} (h : w.ownsRow base e 1 (.slice a n c) n xs) :
    n ≤ c ∧ c ≤ 9223372036854775807 ∧ (a = none → c = 0) ∧ ∃ b, (0 < n → a = some ⟨b, 0, none⟩ ∧ base ≤ b) ∧ ∀ j u, xs[j]? = some u → w.cell? ⟨b, j, none⟩ = some u := by
  have hx := h.1
  rcases h.2 with ⟨h1, rfl⟩ | ⟨g, cap, cur, h1, hb, hgg, h3, h4, h5, h6⟩
  · simp only [Value.slice.injEq] at h1
    obtain ⟨rfl, -, rfl⟩ := h1
    have : xs = [] := List.eq_nil_of_length_eq_zero (by omega)
    subst this
    exact ⟨by omega, by omega, fun _ => rfl, 0, by omega, by simp⟩
  · simp only [Value.slice.injEq] at h1
    obtain ⟨rfl, -, rfl⟩ := h1
    refine ⟨h3, by unfold maxLen at h4; omega, by simp, g, fun _ => ⟨rfl, hb⟩, fun j u hu => ?_⟩
    have := h.cells (g := g) rfl j u hu
    rwa [Addr.add_lit, Nat.zero_add] at this

/-- An owned row of integers reads as them. -/
theorem IsInts.owned {w : World} {base : Nat} {e : TypeId} {v : Value} {n : Nat} {l : List Int} (h : w.ownsRow base e 1 v n (l.map (Value.int .i64))) : IsInts w v l := by
  have hl : n = l.length := by have := h.1; simpa using this.symm
  subst hl
  obtain ⟨a, c, rfl⟩ := ownsRow_form h
  obtain ⟨h1, h2, h3, b, h4, h5⟩ := ownsRow_cap h
  refine ⟨a, c, b, 0, rfl, h1, h2, fun hp => (h4 hp).1, h3, fun j hj => ?_⟩
  rw [Nat.zero_add]
  exact h5 j _ (by simp [List.getD, hj])

/-- 'append' onto what the call owns, of whatever one-cell elements: it may be that nothing is appended. -/
theorem wpList_append_has {P : Program} {w : World} {ops : Array Oper} {rest : List Oper} {o : Oper} {a : Act} {Q : Exit → Act → World → Prop} (hgd : o.guard = none) (s x : Operand) (t : TypeId)
    (ho : o.op = .call { callee := .builtin .append, args := #[s, x], argTypes := #[t, t] })
    (base : Nat) (e : TypeId) (z : Value) (bytes : Nat) (ht : P.underlying t = some (.slice e)) (hinfo : (P.info? e).map (fun i => (i.zero, i.size, i.bytes)) = some (some z, 1, bytes)) (hz1 : z.cells.size = 1)
    (v : Value) (n : Nat) (xs : List Value) (hs : a.eval s = v) (hown : w.ownsRow base e 1 v n xs)
    (src : Value) (m : Nat) (news : List Value) (hx : a.eval x = src) (hsrc : HasCells w src m news)
    (h63 : n + m ≤ 9223372036854775807) (hbytes : (n + m) * bytes ≤ 140737488355328) (hbase : base ≤ w.heap.size)
    (h : ∀ a' c' w', w'.ownsRow base e 1 (.slice a' (n + m) c') (n + m) (xs ++ news) → w.grownBy w' v.ownBlock → wpList P ops Q rest (a.put o.dst (.slice a' (n + m) c')) w') : wpList P ops Q (o :: rest) a w := by
  obtain ⟨i, hi, hz0, hsz, hby⟩ := info_parts hinfo
  obtain ⟨ao, cap, rfl, hl, hnone, hcells, hone⟩ := hsrc
  cases ao with
  | none =>
    obtain ⟨rfl, rfl⟩ := hnone rfl
    have hn : news = [] := List.eq_nil_of_length_eq_zero hl
    subst hn
    obtain ⟨a', c', rfl⟩ := ownsRow_form hown
    exact wpList_append_own_none hgd s x t ho base e i 1 ht hi _ n xs hs hown hx (h a' c' w (by simpa using hown) (World.grownBy.refl _ _))
  | some ad =>
    refine wpList_append_own w hgd s x t ho base e i z 1 bytes ht hi hz0 hsz hby hz1 (by omega) v n xs hs hown ad m cap news hx (by omega) (hcells ad rfl) hone (by unfold maxLen; omega) hbytes hbase fun v' w' h1 h2 _ => ?_
    obtain ⟨a', c', rfl⟩ := ownsRow_form h1
    exact h a' c' w' h1 h2

end Go.Proofs.YtokjcapheogkoaaDoor
namespace Go.Proofs.YtokjcapheogkoaaDoor
open Go Go.RowKit

/-! The bits of a table's columns. -/
def colB (G : Nat → Nat → Bool) (j : Nat) : Nat → List Bool
  | 0 => []
  | i + 1 => colB G j i ++ [G i j]
def preB (G : Nat → Nat → Bool) : Nat → List Bool
  | 0 => []
  | j + 1 => preB G j ++ colB G j j
theorem colB_length (G : Nat → Nat → Bool) (j : Nat) : ∀ i, (colB G j i).length = i
  | 0 => rfl
  | i + 1 => by rw [colB, List.length_append, colB_length G j i]; rfl
theorem preB_length (G : Nat → Nat → Bool) : ∀ j, 2 * (preB G j).length + j = j * j
  | 0 => rfl
  | j + 1 => by
    have := preB_length G j
    have e : (j + 1) * (j + 1) = j * j + j + j + 1 := by rw [Nat.add_mul, Nat.mul_add]; omega
    rw [preB, List.length_append, colB_length, e]
    omega
theorem bits_few {G : Nat → Nat → Bool} {j i : Nat} (hj : j ≤ 100) (hi : i ≤ j) : (preB G j ++ colB G j i).length ≤ 5050 := by
  have h1 := preB_length G j
  have h2 : j * j ≤ 100 * 100 := Nat.mul_le_mul hj hj
  rw [List.length_append, colB_length]
  omega

/-- Six bits' number. -/
def b01 (l : List Bool) (k : Nat) : Nat := (l.getD k false).toNat
def v6 (l : List Bool) (q : Nat) : Nat := 32 * b01 l (6 * q) + 16 * b01 l (6 * q + 1) + 8 * b01 l (6 * q + 2) + 4 * b01 l (6 * q + 3) + 2 * b01 l (6 * q + 4) + b01 l (6 * q + 5)
theorem b01_le (l : List Bool) (k : Nat) : b01 l k ≤ 1 := by unfold b01; cases l.getD k false <;> decide
theorem v6_le (l : List Bool) (q : Nat) : v6 l q ≤ 63 := by
  have h0 := b01_le l (6 * q); have h1 := b01_le l (6 * q + 1); have h2 := b01_le l (6 * q + 2); have h3 := b01_le l (6 * q + 3); have h4 := b01_le l (6 * q + 4); have h5 := b01_le l (6 * q + 5)
  unfold v6; omega
/-- The bytes of bits. -/
def bodyN (l : List Bool) : List Nat := (List.range ((l.length + 5) / 6)).map fun q => 63 + v6 l q
theorem b01_snoc {l : List Bool} {x : Bool} {k : Nat} : b01 (l ++ [x]) k = if k = l.length then x.toNat else b01 l k := by
  unfold b01
  by_cases h : k < l.length
  · rw [if_neg (by omega)]; simp [List.getD, List.getElem?_append_left h]
  · by_cases e : k = l.length
    · subst e; rw [if_pos rfl]; simp [List.getD]
    · rw [if_neg e, List.getD, List.getD, List.getElem?_eq_none (by simp; omega), List.getElem?_eq_none (by omega)]
theorem v6_snoc_far {l : List Bool} {x : Bool} {q : Nat} (h : 6 * q + 5 < l.length) : v6 (l ++ [x]) q = v6 l q := by
  unfold v6
  rw [b01_snoc, b01_snoc, b01_snoc, b01_snoc, b01_snoc, b01_snoc, if_neg (by omega), if_neg (by omega), if_neg (by omega), if_neg (by omega), if_neg (by omega), if_neg (by omega)]
theorem b01_beyond {l : List Bool} {k : Nat} (h : l.length ≤ k) : b01 l k = 0 := by
  unfold b01; rw [List.getD, List.getElem?_eq_none h]; rfl
theorem v6_snoc_at {l : List Bool} {x : Bool} {r q : Nat} (hl : l.length = 6 * q + r) (hr : r < 6) : v6 (l ++ [x]) q = v6 l q + x.toNat * 2 ^ (5 - r) := by
  have h0 : b01 l (6 * q + r) = 0 := b01_beyond (by omega)
  unfold v6
  rw [b01_snoc, b01_snoc, b01_snoc, b01_snoc, b01_snoc, b01_snoc]
  match r, hr with
  | 0, _ => rw [Nat.add_zero] at h0; rw [if_pos (by omega), if_neg (by omega), if_neg (by omega), if_neg (by omega), if_neg (by omega), if_neg (by omega), h0]; simp; omega
  | 1, _ => rw [if_neg (by omega), if_pos (by omega), if_neg (by omega), if_neg (by omega), if_neg (by omega), if_neg (by omega), h0]; simp; omega
  | 2, _ => rw [if_neg (by omega), if_neg (by omega), if_pos (by omega), if_neg (by omega), if_neg (by omega), if_neg (by omega), h0]; simp; omega
  | 3, _ => rw [if_neg (by omega), if_neg (by omega), if_neg (by omega), if_pos (by omega), if_neg (by omega), if_neg (by omega), h0]; simp; omega
  | 4, _ => rw [if_neg (by omega), if_neg (by omega), if_neg (by omega), if_neg (by omega), if_pos (by omega), if_neg (by omega), h0]; simp; omega
  | 5, _ => rw [if_neg (by omega), if_neg (by omega), if_neg (by omega), if_neg (by omega), if_neg (by omega), if_pos (by omega), h0]; simp
theorem bodyN_length (l : List Bool) : (bodyN l).length = (l.length + 5) / 6 := by simp [bodyN]
/-- A bit more: a new byte, or the last one with it. -/
theorem bodyN_new {l : List Bool} {x : Bool} {q : Nat} (hl : l.length = 6 * q) : bodyN (l ++ [x]) = bodyN l ++ [63 + x.toNat * 32] := by
  unfold bodyN
  rw [List.length_append, List.length_singleton, show (l.length + 1 + 5) / 6 = q + 1 by omega, show (l.length + 5) / 6 = q by omega, List.range_succ, List.map_append]
  congr 1
  · refine List.map_congr_left fun i hi => ?_
    rw [List.mem_range] at hi
    rw [v6_snoc_far (by omega)]
  · have h0 : v6 l q = 0 := by
      unfold v6
      rw [b01_beyond (by omega), b01_beyond (by omega), b01_beyond (by omega), b01_beyond (by omega), b01_beyond (by omega), b01_beyond (by omega)]
    simp only [List.map_cons, List.map_nil, v6_snoc_at (x := x) (r := 0) (q := q) (by omega) (by omega), h0, Nat.zero_add]
theorem bodyN_more {l : List Bool} {x : Bool} {q r : Nat} (hl : l.length = 6 * q + r) (h0 : 0 < r) (hr : r < 6) :
    (∀ k, k < q → (bodyN (l ++ [x])).getD k 0 = (bodyN l).getD k 0) ∧ (bodyN (l ++ [x])).getD q 0 = (bodyN l).getD q 0 + x.toNat * 2 ^ (5 - r) ∧ (bodyN (l ++ [x])).length = (bodyN l).length ∧ (bodyN l).length = q + 1 := by
  have e1 : ((l ++ [x]).length + 5) / 6 = q + 1 := by rw [List.length_append, List.length_singleton]; omega
  have e2 : (l.length + 5) / 6 = q + 1 := by omega
  have at1 : ∀ k, k < q + 1 → (bodyN (l ++ [x])).getD k 0 = 63 + v6 (l ++ [x]) k := fun k hk => by simp only [bodyN, e1]; simp [List.getD, hk]
  have at2 : ∀ k, k < q + 1 → (bodyN l).getD k 0 = 63 + v6 l k := fun k hk => by simp only [bodyN, e2]; simp [List.getD, hk]
  refine ⟨fun k hk => ?_, ?_, ?_, ?_⟩
  · rw [at1 k (by omega), at2 k (by omega), v6_snoc_far (by omega)]
  · rw [at1 q (by omega), at2 q (by omega), v6_snoc_at hl hr]; omega
  · rw [bodyN_length, bodyN_length, e1, e2]
  · rw [bodyN_length, e2]
/-- Bits that are 0 make no odds. -/
theorem bodyN_pad {l : List Bool} (h : l.length % 6 ≠ 0) : bodyN (l ++ [false]) = bodyN l := by
  obtain ⟨q, r, hl, h0, hr⟩ : ∃ q r, l.length = 6 * q + r ∧ 0 < r ∧ r < 6 := ⟨l.length / 6, l.length % 6, by omega, by omega, by omega⟩
  obtain ⟨h1, h2, h3, h4⟩ := bodyN_more (x := false) hl h0 hr
  refine List.ext_getElem h3 fun k hk hk' => ?_
  have e : ∀ (m : List Nat) (hm : k < m.length), m[k] = m.getD k 0 := fun m hm => by simp [List.getD, hm]
  rw [e _ hk, e _ hk']
  by_cases c : k < q
  · exact h1 k c
  · obtain rfl : k = q := by omega
    rw [h2]; simp

/-- With the bit, and without it. -/
theorem bodyN_true {l : List Bool} {q r : Nat} (hl : l.length = 6 * q + r) (hr : r < 6) :
    (∀ k, k < q → (bodyN (l ++ [true])).getD k 0 = (bodyN (l ++ [false])).getD k 0) ∧ (bodyN (l ++ [true])).getD q 0 = (bodyN (l ++ [false])).getD q 0 + 2 ^ (5 - r) ∧
      (bodyN (l ++ [true])).length = q + 1 ∧ (bodyN (l ++ [false])).length = q + 1 ∧ (bodyN (l ++ [false])).getD q 0 + 2 ^ (5 - r) ≤ 126 := by
  have e1 : ∀ x : Bool, ((l ++ [x]).length + 5) / 6 = q + 1 := fun x => by rw [List.length_append, List.length_singleton]; omega
  have at1 : ∀ (x : Bool) k, k < q + 1 → (bodyN (l ++ [x])).getD k 0 = 63 + v6 (l ++ [x]) k := fun x k hk => by simp only [bodyN, e1]; simp [List.getD, hk]
  have h2 : (bodyN (l ++ [true])).getD q 0 = (bodyN (l ++ [false])).getD q 0 + 2 ^ (5 - r) := by rw [at1 true q (by omega), at1 false q (by omega), v6_snoc_at hl hr, v6_snoc_at hl hr]; simp; omega
  refine ⟨fun k hk => ?_, h2, ?_, ?_, ?_⟩
  · rw [at1 true k (by omega), at1 false k (by omega), v6_snoc_far (by omega), v6_snoc_far (by omega)]
  · rw [bodyN_length, e1]
  · rw [bodyN_length, e1]
  · rw [← h2, at1 true q (by omega)]
    have := v6_le (l ++ [true]) q
    omega

/-- The first bytes. -/
def headN (n : Nat) : List Nat := if n < 63 then [n + 63] else [126, 63, n / 64 + 63, n % 64 + 63]
def packN (n : Nat) (G : Nat → Nat → Bool) : List Nat := headN n ++ bodyN (preB G n)
def u8L (l : List Nat) : List UInt8 := l.map UInt8.ofNat
/-- As Go keeps bytes. -/
def u8V (l : List Nat) : List Value := l.map fun (k : Nat) => Value.int .u8 (k : Int)
theorem u8V_length (l : List Nat) : (u8V l).length = l.length := by simp [u8V]
theorem u8V_snoc (l : List Nat) (k : Nat) : u8V (l ++ [k]) = u8V l ++ [.int .u8 (k : Int)] := by simp [u8V]

end Go.Proofs.YtokjcapheogkoaaDoor
namespace Go.Proofs.YtokjcapheogkoaaDoor
open Go.RowKit

def ri (f : Nat → Int) : Nat → Value := fun k => .int .i64 (f k)
def rn (f : Nat → Nat) : Nat → Value := fun k => .int .i64 (f k : Int)
def rb (f : Nat → Bool) : Nat → Value := fun k => .bool (f k)
theorem row_ri {w : World} {g g' : Nat → Int} {b t n : Nat} (h : w.rowIs b t n (ri g)) (e : ∀ k, k < n → g k = g' k) : w.rowIs b t n (ri g') := h.congr fun k hk => by simp [ri, e k hk]
theorem row_rn {w : World} {g g' : Nat → Nat} {b t n : Nat} (h : w.rowIs b t n (rn g)) (e : ∀ k, k < n → g k = g' k) : w.rowIs b t n (rn g') := h.congr fun k hk => by simp [rn, e k hk]
theorem row_rb {w : World} {g g' : Nat → Bool} {b t n : Nat} (h : w.rowIs b t n (rb g)) (e : ∀ k, k < n → g k = g' k) : w.rowIs b t n (rb g') := h.congr fun k hk => by simp [rb, e k hk]
theorem row_set_ri {w : World} {g : Nat → Int} {b t n : Nat} (h : w.rowIs b t n (ri g)) (k : Nat) (x : Int) : (w.setCell ⟨b, k, none⟩ (.int .i64 x)).rowIs b t n (ri fun q => if q = k then x else g q) :=
  (h.set k _).congr fun q _ => by simp only [ri]; split <;> rfl
theorem row_set_rn {w : World} {g : Nat → Nat} {b t n : Nat} (h : w.rowIs b t n (rn g)) (k x : Nat) : (w.setCell ⟨b, k, none⟩ (.int .i64 (x : Int))).rowIs b t n (rn fun q => if q = k then x else g q) :=
  (h.set k _).congr fun q _ => by simp only [rn]; split <;> rfl
theorem row_set_rb {w : World} {g : Nat → Bool} {b t n : Nat} (h : w.rowIs b t n (rb g)) (k : Nat) (x : Bool) : (w.setCell ⟨b, k, none⟩ (.bool x)).rowIs b t n (rb fun q => if q = k then x else g q) :=
  (h.set k _).congr fun q _ => by simp only [rb]; split <;> rfl
theorem size_setCell (w : World) (a : Addr) (x : Value) : (w.setCell a x).heap.size = w.heap.size := by simp [World.setCell]

end Go.Proofs.YtokjcapheogkoaaDoor
namespace Go.Proofs.YtokjcapheogkoaaDoor
open Go.RowKit

/-- The pairs (i, j), i < j < b, that p tells. -/
def rowTo (p : Nat → Nat → Bool) (i b : Nat) : List (Int × Int) := ((List.range b).filter fun j => decide (i < j) && p i j).map fun j : Nat => ((i : Int), (j : Int))
/-- .. of the first a rows. -/
def prsTo (n : Nat) (p : Nat → Nat → Bool) (a : Nat) : List (Int × Int) := (List.range a).flatMap fun i : Nat => rowTo p i n

theorem rowTo_start (p : Nat → Nat → Bool) (i : Nat) : rowTo p i (i + 1) = [] := by
  unfold rowTo
  rw [List.map_eq_nil_iff, List.filter_eq_nil_iff]
  intro j hj
  have := List.mem_range.1 hj
  simp; omega
theorem rowTo_yes {p : Nat → Nat → Bool} {i b : Nat} (hb : i < b) (h : p i b = true) : rowTo p i (b + 1) = rowTo p i b ++ [((i : Int), (b : Int))] := by
  unfold rowTo; rw [List.range_succ, List.filter_append]; simp [hb, h]
theorem rowTo_no {p : Nat → Nat → Bool} {i b : Nat} (h : p i b = false) : rowTo p i (b + 1) = rowTo p i b := by
  unfold rowTo; rw [List.range_succ, List.filter_append]; simp [h]
theorem prsTo_succ (n : Nat) (p : Nat → Nat → Bool) (a : Nat) : prsTo n p (a + 1) = prsTo n p a ++ rowTo p a n := by
  unfold prsTo; rw [List.range_succ, List.flatMap_append]; simp
theorem rowTo_length (p : Nat → Nat → Bool) (i b : Nat) : (rowTo p i b).length ≤ b := by
  unfold rowTo; rw [List.length_map]; exact Nat.le_trans (List.length_filter_le _ _) (by simp)
theorem prsTo_length (n : Nat) (p : Nat → Nat → Bool) (a : Nat) : (prsTo n p a).length ≤ a * n := by
  induction a with
  | zero => simp [prsTo]
  | succ a ih => rw [prsTo_succ, List.length_append]; have := rowTo_length p a n; rw [Nat.add_mul]; omega
theorem rowTo_congr {p q : Nat → Nat → Bool} {i b n : Nat} (hb : b ≤ n) (h : ∀ j, i < j → j < n → p i j = q i j) : rowTo p i b = rowTo q i b := by
  unfold rowTo
  congr 1
  apply List.filter_congr
  intro j hj
  have := List.mem_range.1 hj
  by_cases e : i < j
  · simp [h j e (by omega)]
  · simp [e]
theorem prsTo_congr {p q : Nat → Nat → Bool} {n : Nat} (h : ∀ i j, i < j → j < n → p i j = q i j) (a : Nat) : prsTo n p a = prsTo n q a := by
  induction a with
  | zero => rfl
  | succ a ih => rw [prsTo_succ, prsTo_succ, ih, rowTo_congr (Nat.le_refl n) (h a)]

end Go.Proofs.YtokjcapheogkoaaDoor
namespace Go.Proofs.YtokjcapheogkoaaDoor
open Go.RowKit

/-- Two lists that rise strictly and hold the same are one. -/
theorem rise_uniq {α : Type} {lt : α → α → Prop} (irr : ∀ a, ¬ lt a a) (tr : ∀ a b c, lt a b → lt b c → lt a c) : ∀ {l m : List α}, l.Pairwise lt → m.Pairwise lt → (∀ a, a ∈ l ↔ a ∈ m) → l = m
  | [], [], _, _, _ => rfl
  | [], b :: m, _, _, h => absurd ((h b).2 (List.mem_cons_self ..)) (by simp)
  | a :: l, [], _, _, h => absurd ((h a).1 (List.mem_cons_self ..)) (by simp)
  | a :: l, b :: m, hl, hm, h => by
    rw [List.pairwise_cons] at hl hm
    have e : a = b := by
      rcases List.mem_cons.1 ((h a).1 (List.mem_cons_self ..)) with e | ha
      · exact e
      · rcases List.mem_cons.1 ((h b).2 (List.mem_cons_self ..)) with e | hb
        · exact e.symm
        · exact absurd (tr _ _ _ (hm.1 a ha) (hl.1 b hb)) (irr _)
    subst e
    rw [rise_uniq irr tr hl.2 hm.2 fun x => ⟨fun hx => ?_, fun hx => ?_⟩]
    · rcases List.mem_cons.1 ((h x).1 (List.mem_cons_of_mem _ hx)) with e | hx'
      · subst e; exact absurd (hl.1 _ hx) (irr _)
      · exact hx'
    · rcases List.mem_cons.1 ((h x).2 (List.mem_cons_of_mem _ hx)) with e | hx'
      · subst e; exact absurd (hm.1 _ hx) (irr _)
      · exact hx'

/-- Pairs in order. -/
def LexLt (e f : Int × Int) : Prop := e.1 < f.1 ∨ (e.1 = f.1 ∧ e.2 < f.2)
instance (e f : Int × Int) : Decidable (LexLt e f) := by unfold LexLt; infer_instance
theorem LexLt.irr (e : Int × Int) : ¬ LexLt e e := by unfold LexLt; omega
theorem LexLt.tr (a b c : Int × Int) (h : LexLt a b) (k : LexLt b c) : LexLt a c := by unfold LexLt at *; omega
theorem LexLt.tri (a b : Int × Int) : LexLt a b ∨ a = b ∨ LexLt b a := by
  unfold LexLt
  rcases Int.lt_trichotomy a.1 b.1 with h | h | h
  · exact Or.inl (Or.inl h)
  · rcases Int.lt_trichotomy a.2 b.2 with k | k | k
    · exact Or.inl (Or.inr ⟨h, k⟩)
    · exact Or.inr (Or.inl (Prod.ext h k))
    · exact Or.inr (Or.inr (Or.inr ⟨h.symm, k⟩))
  · exact Or.inr (Or.inr (Or.inl h))

theorem mem_rowTo {p : Nat → Nat → Bool} {i b : Nat} {e : Int × Int} : e ∈ rowTo p i b ↔ ∃ j : Nat, i < j ∧ j < b ∧ p i j = true ∧ e = ((i : Int), (j : Int)) := by
  unfold rowTo
  simp only [List.mem_map, List.mem_filter, List.mem_range, Bool.and_eq_true, decide_eq_true_eq]
  exact ⟨fun ⟨j, ⟨h1, h2, h3⟩, h4⟩ => ⟨j, h2, h1, h3, h4.symm⟩, fun ⟨j, h1, h2, h3, h4⟩ => ⟨j, ⟨h2, h1, h3⟩, h4.symm⟩⟩
theorem mem_prsTo {p : Nat → Nat → Bool} {n a : Nat} {e : Int × Int} : e ∈ prsTo n p a ↔ ∃ i j : Nat, i < a ∧ i < j ∧ j < n ∧ p i j = true ∧ e = ((i : Int), (j : Int)) := by
  unfold prsTo
  simp only [List.mem_flatMap, List.mem_range, mem_rowTo]
  exact ⟨fun ⟨i, h, j, h1, h2, h3, h4⟩ => ⟨i, j, h, h1, h2, h3, h4⟩, fun ⟨i, j, h, h1, h2, h3, h4⟩ => ⟨i, h, j, h1, h2, h3, h4⟩⟩
theorem rowTo_rise (p : Nat → Nat → Bool) (i b : Nat) : (rowTo p i b).Pairwise LexLt := by
  unfold rowTo
  rw [List.pairwise_map]
  refine List.Pairwise.filter _ ?_
  refine List.Pairwise.imp ?_ List.pairwise_lt_range
  intro x y h
  unfold LexLt
  right
  exact ⟨rfl, by simpa using h⟩
theorem prsTo_rise (n : Nat) (p : Nat → Nat → Bool) (a : Nat) : (prsTo n p a).Pairwise LexLt := by
  induction a with
  | zero => simp [prsTo]
  | succ a ih =>
    rw [prsTo_succ, List.pairwise_append]
    refine ⟨ih, rowTo_rise p a n, fun e he f hf => ?_⟩
    obtain ⟨i, j, h1, -, -, -, rfl⟩ := mem_prsTo.1 he
    obtain ⟨k, -, -, -, rfl⟩ := mem_rowTo.1 hf
    unfold LexLt
    left
    simpa using h1
theorem rise_nodup {l : List (Int × Int)} (h : l.Pairwise LexLt) : l.Nodup := List.Pairwise.imp (R := LexLt) (S := (· ≠ ·)) (fun {a b} hab => by intro e; subst e; exact LexLt.irr a hab) h
/-- What does not fall and holds nothing twice rises. -/
theorem rise_of {l : List (Int × Int)} (h : l.Pairwise fun a b => ¬ LexLt b a) (hd : l.Nodup) : l.Pairwise LexLt := by
  refine List.Pairwise.imp₂ ?_ h hd
  intro a b h1 h2
  rcases LexLt.tri a b with h | h | h
  · exact h
  · exact absurd h h2
  · exact absurd h h1

/-- A pair with the lesser one first. -/
def norm (e : Int × Int) : Int × Int := (if e.1 ≤ e.2 then e.1 else e.2, if e.1 ≤ e.2 then e.2 else e.1)

end Go.Proofs.YtokjcapheogkoaaDoor
