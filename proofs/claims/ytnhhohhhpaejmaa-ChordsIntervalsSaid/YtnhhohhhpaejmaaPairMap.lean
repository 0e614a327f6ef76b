/- Maps keyed by pairs of integers. -/
import Derived.Test.YtnhhohhhpaejmaaOpen
import Derived.Test.YtnhhohhhpaejmaaRCheck
import Derived.Maps.Own
import Derived.Maps.Views
import Derived.DeepKeys4
namespace Go.Proofs.Ytnhhohhhpaejmaa
open Go.RowKit Go.Maps

theorem pair_row : 52 < Try.prog.types.size := of_decide_eq_true (by kernel_rfl)
theorem pair_wide : (match Try.prog.underlying 52 with | some (.array _ _) | some (.struct _) => true | _ => false) = true := by kernel_rfl
theorem pair_at : Try.prog.keyTypeAt 2 52 = true := by kernel_rfl
theorem pairKeyed : Keyed Try.prog 52 := Keyed.of_law (deep_law_laid Try.laidOut (m := 2) (by omega) pair_row pair_at (by kernel_rfl))
theorem pair_type : Try.prog.underlying 52 = some (.array 2 3) := by kernel_rfl
theorem pair_cells2 : Try.prog.cellsOf 52 = 2 := by kernel_rfl
theorem pair_keyType : Try.prog.keyType 52 = true := by kernel_rfl

theorem pair_key (x y : Int) (hx : (Lit.int .i64 x).wf = true) (hy : (Lit.int .i64 y).wf = true) : ∃ l, keyOf Try.prog 52 (.agg #[.int .i64 x, .int .i64 y]) = some l := by
  unfold keyOf
  rw [pair_type, pair_keyType]
  simp only [Bool.true_and]
  obtain ⟨n, hn⟩ : ∃ n, Try.prog.types.size = n + 1 := ⟨Try.prog.types.size - 1, by have := pair_row; omega⟩
  have hf : Value.formed Try.prog 52 (.agg #[.int .i64 x, .int .i64 y]) = true := by simp [Value.formed, pair_cells2]
  rw [if_pos hf, hn]
  have e1 : ∀ z : Int, (Lit.int .i64 z).wf = true → Try.prog.keyLits (n + 1) 3 [.int .i64 z] = some [.int .i64 z] := fun z hz => by
    unfold Program.keyLits; rw [Try.underlying3]; simp [hz]
  refine ⟨.string (keyBytes [.int .i64 x, .int .i64 y]), ?_⟩
  unfold Program.keyLits
  rw [pair_type]
  simp [Value.cells, pair_cells2, Try.cellsInt, List.range, List.range.loop, e1 x hx, e1 y hy]

/-- Block b is a map of at most n entries that holds 1 at the pairs of S, and nothing at the others. -/
def Seen (w : World) (b n : Nat) (S : Int → Int → Bool) : Prop :=
  ∃ D : DataW Unit, w.ownsMap Try.prog 52 (plainElem Try.prog 3) b n D ∧ ∀ x y l, keyOf Try.prog 52 (.agg #[.int .i64 x, .int .i64 y]) = some l → D.atKey l (.lit (.int .i64 0)) = .lit (.int .i64 (if S x y then 1 else 0))

theorem Seen.made (w : World) : Seen (w.alloc (.map #[] 0)) w.heap.size 0 (fun _ _ => false) :=
  ⟨_, World.ownsMap_made w _ _ _, fun x y l _ => by rw [WideAt.atKey_none _ (by simp)]; simp⟩

theorem zero_run (w : World) : (zeroValue 3).run Try.prog w = .ok (.int .i64 0) w := by
  obtain ⟨i, hi, hz, _⟩ := info_parts info3
  simp [zeroValue, typeInfo, hi, hz]

theorem Seen.look {w : World} {b n : Nat} {S : Int → Int → Bool} (h : Seen w b n S) {x y : Int} (hx : (Lit.int .i64 x).wf = true) (hy : (Lit.int .i64 y).wf = true) :
    (Instr.lookup 76 (.map (some b)) (.agg #[.int .i64 x, .int .i64 y]) false).run Try.prog w = .ok (.int .i64 (if S x y then 1 else 0)) w := by
  obtain ⟨D, hD, hS⟩ := h
  obtain ⟨l, hl⟩ := pair_key x y hx hy
  obtain ⟨c, hrun, hat, _⟩ := hD.lookup_int pairKeyed Try.underlying76 Try.underlying3 (zero_run w) hl
  rw [hS x y l hl] at hat
  simp only [DataW.lit.injEq, Lit.int.injEq, true_and] at hat
  rw [hrun, ← hat]

theorem Seen.put {w : World} {b n : Nat} {S : Int → Int → Bool} {D : DataW Unit} {x y : Int} {l : Lit} (hw : w.ownsMap Try.prog 52 (plainElem Try.prog 3) b n (D.put l (.lit (.int .i64 1)))) (hm : IsMap D)
    (hl : keyOf Try.prog 52 (.agg #[.int .i64 x, .int .i64 y]) = some l) (hS : ∀ x y l, keyOf Try.prog 52 (.agg #[.int .i64 x, .int .i64 y]) = some l → D.atKey l (.lit (.int .i64 0)) = .lit (.int .i64 (if S x y then 1 else 0))) :
    Seen w b n (fun x' y' => if x' = x ∧ y' = y then true else S x' y') := by
  refine ⟨_, hw, fun x' y' l' hl' => ?_⟩
  by_cases e : l' = l
  · subst e
    have := pairKeyed.inj hl hl'
    simp only [Value.agg.injEq, Array.mk.injEq, List.cons.injEq, Value.int.injEq, true_and, and_true] at this
    obtain ⟨rfl, rfl⟩ := this
    rw [atKey_put_same hm (pairKeyed.key hl)]
    simp
  · rw [atKey_put_other e, hS x' y' l' hl']
    have : ¬ (x' = x ∧ y' = y) := fun ⟨h1, h2⟩ => e (by subst h1 h2; rw [hl'] at hl; exact Option.some.inj hl)
    simp [this]

theorem Seen.kept {w w' : World} {b n : Nat} {S : Int → Int → Bool} (h : Seen w b n S) (hb : w'.heap[b]? = w.heap[b]?) : Seen w' b n S := by
  obtain ⟨D, ⟨es, clock, h1, h2⟩, hS⟩ := h
  exact ⟨D, ⟨es, clock, by rw [hb]; exact h1, h2⟩, hS⟩

end Go.Proofs.Ytnhhohhhpaejmaa
