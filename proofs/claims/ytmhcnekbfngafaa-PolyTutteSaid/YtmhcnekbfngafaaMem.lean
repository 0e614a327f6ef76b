/- General facts on memory: what a slice value reads as (IsInts, IsRows), and which blocks a call may have turned (Chg). No program in sight. -/
import Derived.WalkKit
import Derived.Lib.Hide
import Derived.Deep.OwnRows
import Derived.Deep.Draws
namespace Go.Proofs.Ytmhcnekbfngafaa
open Go.RowKit

/-- Slice value v reads as the integers l. -/
def IsInts (w : World) (v : Value) (l : List Int) : Prop :=
  ∃ (a : Option Addr) (cap b o : Nat), v = .slice a l.length cap ∧ l.length ≤ cap ∧ cap ≤ 9223372036854775807 ∧ (0 < l.length → a = some ⟨b, o, none⟩) ∧
    (a = none → cap = 0) ∧ ∀ j, j < l.length → w.cell? ⟨b, o + j, none⟩ = some (.int .i64 (l.getD j 0))

/-- Slice value v reads as the rows m of integers. -/
def IsRows (w : World) (v : Value) (m : List (List Int)) : Prop :=
  ∃ (a : Option Addr) (cap b o : Nat), v = .slice a m.length cap ∧ m.length ≤ cap ∧ cap ≤ 9223372036854775807 ∧ (0 < m.length → a = some ⟨b, o, none⟩) ∧
    (a = none → cap = 0) ∧ ∀ j, j < m.length → ∃ r, w.cell? ⟨b, o + j, none⟩ = some r ∧ IsInts w r (m.getD j [])

theorem IsInts.nil (w : World) : IsInts w (.slice none 0 0) [] := ⟨none, 0, 0, 0, rfl, Nat.le_refl _, by omega, by simp, by simp, by simp⟩

theorem below_cell {w w' : World} (h : Below w.heap.size w w') {a : Addr} {v : Value} (hc : w.cell? a = some v) : w'.cell? a = some v := by
  rw [h.cell (World.block_lt_of_cell? w a hc)]; exact hc

theorem IsInts.below {w w' : World} {v : Value} {l : List Int} (h : IsInts w v l) (hb : Below w.heap.size w w') : IsInts w' v l := by
  obtain ⟨a, cap, b, o, h1, h2, h3, h4, h4', h5⟩ := h
  exact ⟨a, cap, b, o, h1, h2, h3, h4, h4', fun j hj => below_cell hb (h5 j hj)⟩

theorem IsRows.below {w w' : World} {v : Value} {m : List (List Int)} (h : IsRows w v m) (hb : Below w.heap.size w w') : IsRows w' v m := by
  obtain ⟨a, cap, b, o, h1, h2, h3, h4, h4', h5⟩ := h
  exact ⟨a, cap, b, o, h1, h2, h3, h4, h4', fun j hj => by obtain ⟨r, hr, hi⟩ := h5 j hj; exact ⟨r, below_cell hb hr, hi.below hb⟩⟩

theorem Below.drewN' {B : Nat} {a w : World} (h : Below B a w) (n : Nat) : Below B a (w.drewN n) := ⟨h.os, h.tape, h.output, h.size, h.block⟩

theorem IsInts.drewN {w : World} {v : Value} {l : List Int} (h : IsInts w v l) (n : Nat) : IsInts (w.drewN n) v l := h
theorem IsRows.drewN {w : World} {v : Value} {m : List (List Int)} (h : IsRows w v m) (n : Nat) : IsRows (w.drewN n) v m := h.below (Below.drewN' (Below.refl _ _) n)

/-- An element under a name of its own, in a later world. -/
theorem ints_at {w wr : World} {b o k : Nat} {l : List Int} (h : ∀ j, j < l.length → w.cell? ⟨b, o + j, none⟩ = some (.int .i64 (l.getD j 0))) (hb : Below w.heap.size w wr) (hk : k < l.length) :
    ∃ x, Hid (l.getD k 0 = x) ∧ wr.cell? ⟨b, o + k, none⟩ = some (.int .i64 x) := ⟨_, rfl, below_cell hb (h k hk)⟩
theorem rows_at {w wr : World} {b o k : Nat} {m : List (List Int)} (h : ∀ j, j < m.length → ∃ r, w.cell? ⟨b, o + j, none⟩ = some r ∧ IsInts w r (m.getD j [])) (hb : Below w.heap.size w wr) (hk : k < m.length) :
    ∃ x, Hid (m.getD k [] = x) ∧ ∃ a cap, wr.cell? ⟨b, o + k, none⟩ = some (.slice a x.length cap) ∧ IsInts wr (.slice a x.length cap) x := by
  obtain ⟨r, hr, hi⟩ := h k hk
  obtain ⟨a, cap, b', o', rfl, hh⟩ := id hi
  exact ⟨_, rfl, a, cap, below_cell hb hr, hi.below hb⟩

/-- The world moved on by draws alone. -/
def Drew (w w' : World) : Prop := ∃ n, w' = w.drewN n
theorem Drew.refl (w : World) : Drew w w := ⟨0, rfl⟩
theorem Drew.add {w w' : World} (h : Drew w w') (n : Nat) : Drew w (w'.drewN n) := by
  obtain ⟨m, rfl⟩ := h
  exact ⟨m + n, by rw [World.drewN_drewN]⟩
theorem Drew.drew {w w' : World} (h : Drew w w') : Drew w w'.drew := h.add 1
theorem Drew.trans {a b c : World} (h : Drew a b) (k : Drew b c) : Drew a c := by
  obtain ⟨m, rfl⟩ := k
  exact h.add m
theorem ret_bool {a b : Bool} (h : a = b) : Ending.returned (.bool a) = Ending.returned (.bool b) := by rw [h]
theorem ret_int {a b : Int} (h : a = b) : Ending.returned (.int .i64 a) = Ending.returned (.int .i64 b) := by rw [h]
theorem Drew.below {w w' : World} (h : Drew w w') {B : Nat} : Below B w w' := by obtain ⟨n, rfl⟩ := h; exact Below.drewN' (Below.refl _ _) n

/-- Of the blocks of w only those of S may have turned. -/
structure Chg (S : Nat → Prop) (w w' : World) : Prop where
  os : w'.os = w.os
  tape : w'.tape = w.tape
  output : w'.output = w.output
  size : w.heap.size ≤ w'.heap.size
  block : ∀ k, k < w.heap.size → ¬ S k → w'.heap[k]? = w.heap[k]?

theorem Chg.refl (S : Nat → Prop) (w : World) : Chg S w w := ⟨rfl, rfl, rfl, Nat.le_refl _, fun _ _ _ => rfl⟩
theorem Chg.trans {S : Nat → Prop} {a b c : World} (h : Chg S a b) (k : Chg S b c) : Chg S a c :=
  ⟨k.os.trans h.os, k.tape.trans h.tape, k.output.trans h.output, Nat.le_trans h.size k.size, fun i hi hs => (k.block i (Nat.lt_of_lt_of_le hi h.size) hs).trans (h.block i hi hs)⟩
theorem Chg.mono {S T : Nat → Prop} {w w' : World} (h : Chg S w w') (hT : ∀ k, k < w.heap.size → S k → T k) : Chg T w w' :=
  ⟨h.os, h.tape, h.output, h.size, fun i hi hs => h.block i hi (fun hk => hs (hT i hi hk))⟩
theorem Chg.ofBelow {S : Nat → Prop} {w w' : World} (h : Below w.heap.size w w') : Chg S w w' := ⟨h.os, h.tape, h.output, h.size, fun i hi _ => h.block i hi⟩
theorem Chg.toBelow {B : Nat} {S : Nat → Prop} {w w' : World} (h : Chg S w w') (hB : B ≤ w.heap.size) (hS : ∀ k, k < B → ¬ S k) : Below B w w' :=
  ⟨h.os, h.tape, h.output, h.size, fun i hi => h.block i (Nat.lt_of_lt_of_le hi hB) (hS i hi)⟩
theorem Chg.drew {S : Nat → Prop} {a w : World} (h : Chg S a w) : Chg S a w.drew := ⟨h.os, h.tape, h.output, h.size, h.block⟩
theorem Chg.drewN {S : Nat → Prop} {a w : World} (h : Chg S a w) (n : Nat) : Chg S a (w.drewN n) := ⟨h.os, h.tape, h.output, h.size, h.block⟩
theorem Chg.alloc {S : Nat → Prop} {a w : World} (h : Chg S a w) (o : Obj) : Chg S a (w.alloc o) :=
  h.trans (Chg.ofBelow ((Below.refl _ _).alloc (Nat.le_refl _) o))
theorem Chg.setCell {S : Nat → Prop} {a w : World} (h : Chg S a w) {p : Addr} (hp : p.block < a.heap.size → S p.block) (u : Value) : Chg S a (w.setCell p u) :=
  ⟨h.os, h.tape, h.output, by simpa [World.setCell] using h.size, fun k hk hs => (Below.heap_setCell w p u k (fun e => hs (e ▸ hp (e ▸ hk)))).trans (h.block k hk hs)⟩
theorem Chg.cell {S : Nat → Prop} {w w' : World} (h : Chg S w w') {a : Addr} {v : Value} (hc : w.cell? a = some v) (hs : ¬ S a.block) : w'.cell? a = some v := by
  rw [World.cell?_of_block (h.block _ (World.block_lt_of_cell? w a hc) hs)]; exact hc
theorem Chg.rowIs {S : Nat → Prop} {w w' : World} (h : Chg S w w') {b : Nat} {t : TypeId} {n : Nat} {f : Nat → Value} (hr : w.rowIs b t n f) (hs : ¬ S b) : w'.rowIs b t n f :=
  hr.of_block (h.block _ hr.lt hs)

theorem IsInts.take {w : World} {a : Option Addr} {n cap : Nat} {l : List Int} (h : IsInts w (.slice a n cap) l) {k : Nat} (hk : k ≤ n) : IsInts w (.slice a k cap) (l.take k) := by
  obtain ⟨a', cap', b, o, h1, h2, h3, h4, h4', h5⟩ := h
  simp only [Value.slice.injEq] at h1
  obtain ⟨rfl, rfl, rfl⟩ := h1
  have hl : (l.take k).length = k := by simp; omega
  refine ⟨a, cap, b, o, by rw [hl], by omega, h3, fun hp => h4 (by omega), h4', fun j hj => ?_⟩
  rw [h5 j (by omega)]
  have hj' : j < k := by omega
  simp [List.getD, hj']

/-- 'x[:k]' of a slice, for every world. -/
theorem run_slice_hi {P : Program} {t e : TypeId} {i : TypeInfo} (ht : P.underlying t = some (.slice e)) (hi : P.info? e = some i) (a : Option Addr) (len cap k : Nat) (hk : k ≤ cap) (w : World) :
    (Instr.slice t (.slice a len cap) none (some (.int .i64 (k : Int))) none).run P w = .ok (.slice a k cap) w := by
  have e0 : ∀ s : Nat, (if cap = 0 then a else a.map (fun x => x.add (0 * s))) = a := by
    intro s
    split
    · rfl
    · cases a <;> simp [Addr.add]
  simp [Instr.slice, run_underlying ht, Instr.sliceBounds, run_sliceBound, hk, sizeOf, typeInfo, hi]
  intro _
  cases a <;> simp [Addr.add]

/-- Where 'x[1:]' of a whole block begins. -/
def tailAt (b n : Nat) : Option Addr := if n = 0 then some ⟨b, 0, none⟩ else some ⟨b, 1, none⟩
/-- 'x[1:]' of a whole block of n + 1 one-cell elements, for every world. -/
theorem run_slice_tail {P : Program} {t e : TypeId} {i : TypeInfo} (ht : P.underlying t = some (.slice e)) (hi : P.info? e = some i) (hs : i.size = 1) (b n : Nat) (w : World) :
    (Instr.slice t (.slice (some ⟨b, 0, none⟩) (n + 1) (n + 1)) (some (.int .i64 1)) none none).run P w = .ok (.slice (tailAt b n) n n) w := by
  have hb : (Instr.sliceBound (.int .i64 1) (n + 1) .sliceB).run P w = .ok 1 w := run_sliceBound w .i64 1 (n + 1) .sliceB (by omega) (by omega)
  simp [Instr.slice, run_underlying ht, Instr.sliceBounds, hb, sizeOf, typeInfo, hi, hs, tailAt]
  by_cases e : n = 0
  · rw [if_pos e, if_pos e]
  · rw [if_neg e, if_neg e]; simp [Addr.add]

/-- The tail of a whole block that is a row of integers. -/
theorem IsInts.ofTail {w : World} {b n : Nat} {t : TypeId} {f : Nat → Int} (h : w.rowIs b t (n + 1) (fun i => .int .i64 (f i))) (hn : n ≤ 9223372036854775807) :
    IsInts w (.slice (tailAt b n) n n) ((List.range n).map fun i => f (i + 1)) := by
  refine ⟨tailAt b n, n, b, 1, by simp, by simp, hn, fun hp => ?_, fun h => ?_, fun j hj => ?_⟩
  · have : 0 < n := by simpa using hp
    unfold tailAt; rw [if_neg (by omega)]
  · unfold tailAt at h; split at h <;> cases h
  · have hj' : j < n := by simpa using hj
    rw [Nat.add_comm 1 j, h.cell (by omega)]; simp [List.getD, hj']

/-- A whole block that is a row of integers, off the head. -/
theorem IsInts.ofRow {w : World} {b n : Nat} {t : TypeId} {f : Nat → Int} (h : w.rowIs b t n (fun i => .int .i64 (f i))) (hn : n ≤ 9223372036854775807) :
    IsInts w (.slice (some ⟨b, 0, none⟩) n n) ((List.range n).map f) :=
  ⟨some ⟨b, 0, none⟩, n, b, 0, by simp, by simp, hn, fun _ => rfl, (fun h => by cases h), fun j hj => by
    have hj' : j < n := by simpa using hj
    rw [Nat.zero_add, h.cell hj']; simp [List.getD, hj']⟩

end Go.Proofs.Ytmhcnekbfngafaa
