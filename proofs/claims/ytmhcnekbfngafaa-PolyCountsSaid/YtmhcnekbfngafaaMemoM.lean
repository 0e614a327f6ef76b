/- The memo of poly.Matchings: a map from sets of nodes to lists of counts, each in a row of its own. No walk. -/
import Derived.Test.YtmhcnekbfngafaaPB
import Derived.Test.YtmhcnekbfngafaaPC
import Derived.Test.YtmhcnekbfngafaaBMap
namespace Go.Proofs.Ytmhcnekbfngafaa
open Go Go.RowKit Go.Maps

/-- An element is read as what it is. -/
def memR (v : Value) : Option (DataW Value × List MemPlace) := some (.held v, [])
theorem zero_runS (w : World) : (zeroValue 39).run Try.prog w = .ok (.slice none 0 0) w := by kernel_rfl
theorem few_wf {i : Nat} (h : i ≤ 100000) : (Lit.int .i64 (i : Int)).wf = true := by simp [Lit.wf, IntKind.min, IntKind.max, IntKind.bits, IntKind.signed]; omega
/-- Block b is such a map; no row of it lies in a block of No; z: the empty set has its entry. -/
def Memo (w : World) (base b n N : Nat) (l : EL) (z : Bool) (No : Nat → Prop) : Prop :=
  ∃ D : DataW Value, w.ownsMap Try.prog 3 memR b n D ∧ ∀ S : Nat, S < 2 ^ N → ((z = true → S ≠ 0) ∧ D.atKey (.int .i64 (S : Int)) (.held (.slice none 0 0)) = .held (.slice none 0 0)) ∨
    ∃ v L, D.atKey (.int .i64 (S : Int)) (.held (.slice none 0 0)) = .held v ∧ 0 < L.length ∧ IsCnt L (matA l fun i => S.testBit i) ∧ OwnC w base v L ∧ ∀ g, v.ownBlock = some g → ¬ No g
section
variable {w w' : World} {base b n N : Nat} {l : EL} {z : Bool} {No No' : Nat → Prop}
theorem Memo.made (w : World) (base N : Nat) (l : EL) (No : Nat → Prop) : Memo (w.alloc (.map #[] 0)) base w.heap.size 0 N l false No :=
  ⟨_, World.ownsMap_made w _ _ _, fun S _ => Or.inl ⟨fun h => (by cases h), by rw [WideAt.atKey_none _ (by simp)]⟩⟩
theorem Memo.lt (h : Memo w base b n N l z No) : b < w.heap.size := by
  obtain ⟨D, h1, -⟩ := h
  exact h1.lt
theorem Memo.mono (h : Memo w base b n N l z No) {n' : Nat} (hn : n ≤ n') : Memo w base b n' N l z No := by
  obtain ⟨D, h1, h2⟩ := h
  exact ⟨D, h1.mono hn, h2⟩
theorem Memo.weak (h : Memo w base b n N l z No) (hN : ∀ g, No' g → No g) : Memo w base b n N l z No' := by
  obtain ⟨D, h1, h2⟩ := h
  refine ⟨D, h1, fun S hS => ?_⟩
  rcases h2 S hS with h | ⟨v, L, a1, a2, a3, a4, a5⟩
  · exact Or.inl h
  · exact Or.inr ⟨v, L, a1, a2, a3, a4, fun g e k => a5 g e (hN g k)⟩
/-- A block that is new may be shunned too. -/
theorem Memo.shun (h : Memo w base b n N l z No) (hN : ∀ g, No' g → No g ∨ w.heap.size ≤ g) : Memo w base b n N l z No' := by
  obtain ⟨D, h1, h2⟩ := h
  refine ⟨D, h1, fun S hS => ?_⟩
  rcases h2 S hS with h | ⟨v, L, a1, a2, a3, a4, a5⟩
  · exact Or.inl h
  · refine Or.inr ⟨v, L, a1, a2, a3, a4, fun g e k => ?_⟩
    rcases hN g k with k | k
    · exact a5 g e k
    · have := (World.ownsRow.lt a4 g e).2; omega
theorem Memo.kept {row : Option Nat} (h : Memo w base b n N l z No) (hg : w.grownBy w' row) (hr : ∀ g, row = some g → No g) (hb : some b ≠ row) : Memo w' base b n N l z No := by
  obtain ⟨D, h1, h2⟩ := h
  refine ⟨D, h1.kept hg hb, fun S hS => ?_⟩
  rcases h2 S hS with h | ⟨v, L, a1, a2, a3, a4, a5⟩
  · exact Or.inl h
  · refine Or.inr ⟨v, L, a1, a2, a3, World.ownsRow.kept a4 hg ?_, a5⟩
    cases e : v.ownBlock with
    | none => exact Or.inl rfl
    | some g => exact Or.inr fun e2 => a5 g e (hr g e2.symm)
theorem Memo.drewN (h : Memo w base b n N l z No) (k : Nat) : Memo (w.drewN k) base b n N l z No := h
theorem Memo.look (h : Memo w base b n N l z No) (hN : N ≤ 12) {S : Nat} (hS : S < 2 ^ N) :
    ∃ v, (Instr.lookup 83 (.map (some b)) (.int .i64 (S : Int)) false).run Try.prog w = .ok v w ∧ ((v = .slice none 0 0 ∧ (z = true → S ≠ 0)) ∨ ∃ L, 0 < L.length ∧ IsCnt L (matA l fun i => S.testBit i) ∧ OwnC w base v L ∧ ∀ g, v.ownBlock = some g → ¬ No g) := by
  obtain ⟨D, h1, h2⟩ := h
  have hp : 2 ^ N ≤ 4096 := Nat.pow_le_pow_right (n := 2) (by decide) hN
  obtain ⟨v, ps, hrun, hr⟩ := h1.lookup intKeyedB Try.underlying83 (zero_runS w) (zd := .held (.slice none 0 0)) (zp := []) rfl (keyOf_int_mk Try.underlying3 (few_wf (i := S) (by omega)))
  refine ⟨v, hrun, ?_⟩
  simp only [memR, Option.some.injEq, Prod.mk.injEq] at hr
  rcases h2 S hS with h | ⟨u, L, a1, a2, a3, a4, a5⟩
  · rw [h.2] at hr
    exact Or.inl ⟨DataW.held.inj hr.1, h.1⟩
  · rw [a1] at hr
    obtain rfl := DataW.held.inj hr.1
    exact Or.inr ⟨L, a2, a3, a4, a5⟩
theorem Memo.put (h : Memo w base b n N l z No) (hN : N ≤ 12) (hb : b < base) (hn : n < 1000000000000000) {S : Nat} (hS : S < 2 ^ N) {v : Value} {L : List Int} (h0 : 0 < L.length) (hL : IsCnt L (matA l fun i => S.testBit i)) (ho : OwnC w base v L) (hv : ∀ g, v.ownBlock = some g → ¬ No g) :
    ∃ w', (Instr.mapUpdate 83 (.map (some b)) (.int .i64 (S : Int)) v).run Try.prog w = .ok () w' ∧ Memo w' base b (n + 1) N l (z || decide (S = 0)) No ∧ w.grownBy w' (some b) := by
  obtain ⟨D, h1, h2⟩ := h
  have hp : 2 ^ N ≤ 4096 := Nat.pow_le_pow_right (n := 2) (by decide) hN
  have hkey := keyOf_int_mk (P := Try.prog) Try.underlying3 (few_wf (i := S) (by omega))
  obtain ⟨w', hr, hm, hg⟩ := h1.update intKeyedB Try.underlying83 (by unfold maxLen; omega) hkey (val := v) (d := .held v) (ps := []) rfl
  have hk : ∀ (u : Value) (K : List Int), OwnC w base u K → OwnC w' base u K := by
    intro u K hu
    refine World.ownsRow.kept hu hg ?_
    cases e : u.ownBlock with
    | none => exact Or.inl rfl
    | some g =>
      refine Or.inr fun e2 => ?_
      have := (World.ownsRow.lt hu g e).1
      have := Option.some.inj e2
      omega
  refine ⟨w', hr, ⟨_, hm, fun T hT => ?_⟩, hg⟩
  by_cases e : T = S
  · subst e
    refine Or.inr ⟨v, L, ?_, h0, hL, hk _ _ ho, hv⟩
    rw [atKey_put_same h1.isMap (intKeyedB.key hkey)]
  · rw [atKey_put_other (fun h => e (by simp only [Lit.int.injEq, true_and] at h; omega))]
    rcases h2 T hT with h | ⟨u, K, a1, a2, a3, a4, a5⟩
    · refine Or.inl ⟨fun hz => ?_, h.2⟩
      rw [Bool.or_eq_true, decide_eq_true_eq] at hz
      rcases hz with hz | hz
      · exact h.1 hz
      · subst hz; exact e
    · exact Or.inr ⟨u, K, a1, a2, a3, hk _ _ a4, a5⟩
end

/-- The list under way, beside the memo. -/
structure CK (w : World) (base b n N : Nat) (l : EL) (No : Nat → Prop) (wr : World) (cv : Value) (L : List Int) : Prop where
  own : OwnC wr base cv L
  lo : ∀ g, cv.ownBlock = some g → w.heap.size ≤ g
  memo : Memo wr base b n N l true (fun g => No g ∨ cv.ownBlock = some g)
  ch : Chg (· = b) w wr
  hb : b < base
  lb : base ≤ w.heap.size
/-- .. and another one, that is read. -/
structure CR (wr : World) (cv mv : Value) (M : List Int) : Prop where
  im : IsInts wr mv M
  mlt : ∀ g, mv.ownBlock = some g → g < wr.heap.size
  sep : ∀ g, mv.ownBlock = some g → cv.ownBlock ≠ some g
section
variable {w wr w2 : World} {base b n N : Nat} {l : EL} {No : Nat → Prop} {cv mv : Value} {L M : List Int}
theorem CK.app {a2 : Option Addr} {c2 : Nat} {x : Int} (h : CK w base b n N l No wr cv L) (hown : w2.ownsRow base 3 1 (.slice a2 (L.length + 1) c2) (L.length + 1) (L.map (Value.int .i64) ++ [.int .i64 x])) (hg : (wr.alloc (Obj.cells #[.int .i64 x] 3)).grownBy w2 cv.ownBlock)
    (hat : (Value.slice a2 (L.length + 1) c2).ownBlock = cv.ownBlock ∨ (Value.slice a2 (L.length + 1) c2).ownBlock = some (wr.alloc (Obj.cells #[.int .i64 x] 3)).heap.size) : CK w base b n N l No w2 (.slice a2 (L.length + 1) c2) (L ++ [x]) := by
  have hs := h.ch.size
  have hlb := h.lb
  have hhb := h.hb
  have hne : some b ≠ cv.ownBlock := fun e => by
    have := h.lo b e.symm
    omega
  have hm1 : Memo (wr.alloc (Obj.cells #[.int .i64 x] 3)) base b n N l true (fun g => No g ∨ cv.ownBlock = some g) := h.memo.kept (World.grownBy_alloc wr _ none) (fun g e => by cases e) (by simp)
  have hm2 := (hm1.shun (No' := fun g => (No g ∨ cv.ownBlock = some g) ∨ (wr.alloc (Obj.cells #[.int .i64 x] 3)).heap.size ≤ g) (fun g e => e)).kept hg (fun g e => Or.inl (Or.inr e)) hne
  refine ⟨?_, fun g e => ?_, hm2.weak fun g e => ?_, ?_, h.hb, h.lb⟩
  · rw [OwnC, List.length_append, List.map_append]
    exact hown
  · rcases hat with e2 | e2
    · exact h.lo g (by rw [← e2]; exact e)
    · rw [e2, World.size_alloc] at e
      have := Option.some.inj e
      omega
  · rcases e with e | e
    · exact Or.inl (Or.inl e)
    · rcases hat with e2 | e2
      · exact Or.inl (Or.inr (by rw [← e2]; exact e))
      · rw [e2] at e
        have := Option.some.inj e
        exact Or.inr (by omega)
  · have h1 := h.ch.alloc (Obj.cells #[.int .i64 x] 3)
    have hz := hg.size
    refine ⟨hg.os.trans h1.os, hg.tape.trans h1.tape, hg.output.trans h1.output, Nat.le_trans h1.size hz, fun k hk hS => ?_⟩
    rw [← h1.block k hk hS]
    exact hg.block k (Nat.lt_of_lt_of_le hk h1.size) (fun e => by
      have := h.lo k e.symm
      omega)
theorem CK.mono (h : CK w base b n N l No wr cv L) {n' : Nat} (hn : n ≤ n') : CK w base b n' N l No wr cv L := ⟨h.own, h.lo, h.memo.mono hn, h.ch, h.hb, h.lb⟩
theorem CK.set {g cap : Nat} (h : CK w base b n N l No wr (.slice (some ⟨g, 0, none⟩) L.length cap) L) (j : Nat) (x : Int) : CK w base b n N l No (wr.setCell ⟨g, j, none⟩ (.int .i64 x)) (.slice (some ⟨g, 0, none⟩) L.length cap) (L.set j x) := by
  have h1 := (World.ownsRow.stored h.own j (.int .i64 x)).2
  have hlo := h.lo g rfl
  have hlb := h.lb
  have hhb := h.hb
  exact ⟨h.own.set j x, h.lo, h.memo.kept h1 (fun k e => Or.inr e) (fun e => by have := Option.some.inj e; omega), h.ch.setCell (fun hlt => absurd hlt (by show ¬ g < _; omega)) _, h.hb, h.lb⟩
theorem CR.app {a2 : Option Addr} {c2 : Nat} {x : Int} {k : Nat} (h : CR wr cv mv M) (hg : (wr.alloc (Obj.cells #[.int .i64 x] 3)).grownBy w2 cv.ownBlock)
    (hat : (Value.slice a2 k c2).ownBlock = cv.ownBlock ∨ (Value.slice a2 k c2).ownBlock = some (wr.alloc (Obj.cells #[.int .i64 x] 3)).heap.size) : CR w2 (.slice a2 k c2) mv M := by
  have hs := hg.size
  rw [World.size_alloc] at hs
  refine ⟨(h.im.below (below1 _ _)).kept hg (fun g e => by rw [World.size_alloc]; have := h.mlt g e; omega) (fun g e => h.sep g e), fun g e => Nat.lt_of_lt_of_le (h.mlt g e) (by omega), fun g e => ?_⟩
  rcases hat with e2 | e2
  · rw [e2]; exact h.sep g e
  · rw [e2, World.size_alloc]
    intro e3
    have := h.mlt g e
    have := Option.some.inj e3
    omega
theorem CR.set {g cap : Nat} {L : List Int} (h : CR wr (.slice (some ⟨g, 0, none⟩) L.length cap) mv M) (ho : OwnC wr base (.slice (some ⟨g, 0, none⟩) L.length cap) L) (j : Nat) (x : Int) : CR (wr.setCell ⟨g, j, none⟩ (.int .i64 x)) (.slice (some ⟨g, 0, none⟩) L.length cap) mv M :=
  ⟨h.im.kept (World.ownsRow.stored ho j (.int .i64 x)).2 h.mlt (fun k e => h.sep k e), fun k e => by rw [size_setCell]; exact h.mlt k e, h.sep⟩
end

end Go.Proofs.Ytmhcnekbfngafaa
