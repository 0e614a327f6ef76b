/- The state of the work up a tree of bags, in memory. slices.Index at integers; (*width.work).loose and agree. (*width.work).agree: do choices of two bags agree; what those in both weigh. (*width.work).choice: the choice of a bag below that goes best with one above. (*width.work).up: the states up a tree of bags. (*width.work).down: the nodes chosen down a tree of bags. -/
import Derived.Test.YtnmljgjegodkaaaDoorPJ
import Derived.Test.YtnmljgjegodkaaaDoorHasGrid
import Derived.Maps.RangeWalk
import Derived.Maps.OwnOps
import Derived.Maps.OwnSet
import Derived.Maps.Ext
import Derived.Test.YtnmljgjegodkaaaDoorFitF
import Derived.Test.YtnmljgjegodkaaaDoorPA
import Derived.BigQuiet
import Derived.Deep.Draws
namespace Go.Proofs.YtnmljgjegodkaaaDoor
open Go Go.RowKit Go.Maps

/-- A map's entries: T at those of p. -/
structure SHold (D : DataW Unit) (p : Nat → Prop) (T : Nat → Int) : Prop where
  at' : ∀ s : Nat, p s → Maps.has D (.int .i64 (s : Int)) = true ∧ ∀ z, D.atKey (.int .i64 (s : Int)) z = .lit (.int .i64 (T s))
  keys : ∀ l, Maps.has D l = true → ∃ s : Nat, p s ∧ l = .int .i64 (s : Int)
theorem intKeyedS : Keyed Tryd.prog 3 := int_keyed Tryd.underlying3
theorem zero_runI (w : World) : (zeroValue 3).run Tryd.prog w = .ok (.int .i64 0) w := by kernel_rfl
/-- Block b is such a map of at most n entries. -/
def SMap (w : World) (b n : Nat) (p : Nat → Prop) (T : Nat → Int) : Prop :=
  ∃ D : DataW Unit, w.ownsMap Tryd.prog 3 (plainElem Tryd.prog 3) b n D ∧ SHold D p T
section
variable {w w' : World} {b n : Nat} {p : Nat → Prop} {T : Nat → Int}
theorem SMap.made (w : World) (T : Nat → Int) : SMap (w.alloc (.map #[] 0)) w.heap.size 0 (fun _ => False) T :=
  ⟨_, World.ownsMap_made w _ _ _, fun _ h => h.elim, fun l h => by simp [Maps.has] at h⟩
theorem SMap.kept (h : SMap w b n p T) (hb : w'.heap[b]? = w.heap[b]?) : SMap w' b n p T := by
  obtain ⟨D, ⟨es, clock, h1, h2⟩, hS⟩ := h
  exact ⟨D, ⟨es, clock, by rw [hb]; exact h1, h2⟩, hS⟩
theorem SMap.lt (h : SMap w b n p T) : b < w.heap.size := by
  obtain ⟨D, h1, -⟩ := h
  exact h1.lt
theorem SMap.congr {q : Nat → Prop} {U : Nat → Int} (h : SMap w b n p T) (e : ∀ s, p s ↔ q s) (e2 : ∀ s, p s → T s = U s) : SMap w b n q U := by
  obtain ⟨D, h1, h2⟩ := h
  exact ⟨D, h1, fun s hs => by rw [← e2 s ((e s).2 hs)]; exact h2.at' s ((e s).2 hs), fun l hl => by obtain ⟨s, a, b⟩ := h2.keys l hl; exact ⟨s, (e s).1 a, b⟩⟩
theorem SMap.mono (h : SMap w b n p T) {n' : Nat} (hn : n ≤ n') : SMap w b n' p T := by
  obtain ⟨D, h1, h2⟩ := h
  exact ⟨D, h1.mono hn, h2⟩
theorem small_wfS {i : Nat} (h : i ≤ 1000000) : (Lit.int .i64 (i : Int)).wf = true := by simp [Lit.wf, IntKind.min, IntKind.max, IntKind.bits, IntKind.signed]; omega
theorem SHold.put {D : DataW Unit} (h : SHold D p T) (hm : IsMap D) {s0 : Nat} (hs : s0 ≤ 1000000) (c : Int) : SHold (D.put (.int .i64 (s0 : Int)) (.lit (.int .i64 c))) (fun s => s = s0 ∨ p s) (fun s => if s = s0 then c else T s) where
  at' := fun s hp => by
    have hkey : keyOf Tryd.prog 3 (.int .i64 (s0 : Int)) = some (.int .i64 (s0 : Int)) := keyOf_int_mk Tryd.underlying3 (small_wfS hs)
    by_cases e : s = s0
    · subst e
      exact ⟨has_put_same hm (intKeyedS.key hkey) _, fun z => by rw [atKey_put_same hm (intKeyedS.key hkey), if_pos rfl]⟩
    · have hne : Lit.int .i64 (s : Int) ≠ .int .i64 (s0 : Int) := fun k => e (by simp only [Lit.int.injEq, true_and] at k; omega)
      have hp' : p s := hp.elim (fun k => absurd k e) id
      exact ⟨by rw [has_put_other hne]; exact (h.at' s hp').1, fun z => by rw [atKey_put_other hne, if_neg e]; exact (h.at' s hp').2 z⟩
  keys := fun l hl => by
    by_cases e : l = .int .i64 (s0 : Int)
    · exact ⟨s0, .inl rfl, e⟩
    · rw [has_put_other e] at hl
      obtain ⟨s, a, b⟩ := h.keys l hl
      exact ⟨s, .inr a, b⟩
end

/-- The work: where it lies and what it holds. -/
structure WkD where
  K : Nat
  E : Nat
  N : Nat
  tv : Value
  wv : Value
  bv : Value
  lv : Value
  G : Nat → Nat → Bool
  ws : List Int
  bs : List (List Nat)
  ks : List (List Nat)
  rbv : Nat → Value
  rlv : Nat → Value
/-- The work's own: the table, the weights, the bags, what hangs below; the states hang at block E. -/
structure WkF (d : WkD) (w : World) : Prop where
  ct : w.cell? ⟨d.K, 0, none⟩ = some d.tv
  cw : w.cell? ⟨d.K, 1, none⟩ = some d.wv
  cb : w.cell? ⟨d.K, 2, none⟩ = some d.bv
  cl : w.cell? ⟨d.K, 3, none⟩ = some d.lv
  ce : w.cell? ⟨d.K, 4, none⟩ = some (.slice (some ⟨d.E, 0, none⟩) d.bs.length d.bs.length)
  ht : HasGrid w d.tv d.N d.G
  hw : IsInts w d.wv d.ws
  hb : IsRows w d.bv (d.bs.map ints)
  hl : IsRows w d.lv (d.ks.map ints)
  rb : ∀ i, i < d.bs.length → IsInts w (d.rbv i) (ints (bagA d.bs i)) ∧ ∃ b o c, d.bv = .slice (some ⟨b, o, none⟩) d.bs.length c ∧ w.cell? ⟨b, o + i, none⟩ = some (d.rbv i)
  rl : ∀ i, i < d.bs.length → IsInts w (d.rlv i) (ints (d.ks.getD i [])) ∧ ∃ b o c, d.lv = .slice (some ⟨b, o, none⟩) d.bs.length c ∧ w.cell? ⟨b, o + i, none⟩ = some (d.rlv i)
/-- It stays so, whatever is stored at block E. -/
def StE (E : Nat) (Q : World → Prop) (w : World) : Prop := ∀ W, Chg (· = E) w W → Q W
theorem StE.now {E : Nat} {Q : World → Prop} {w : World} (h : StE E Q w) : Q w := h w (Chg.refl _ _)
theorem StE.chg {E : Nat} {Q : World → Prop} {w w' : World} (h : StE E Q w) (hc : Chg (· = E) w w') : StE E Q w' := fun W hW => h W (hc.trans hW)
theorem StE.below {E : Nat} {Q : World → Prop} {w w' : World} (h : StE E Q w) (hb : Below w.heap.size w w') : StE E Q w' := h.chg (Chg.ofBelow hb)
theorem WkF.below {d : WkD} {w w' : World} (h : WkF d w) (hb : Below w.heap.size w w') : WkF d w' :=
  ⟨below_cell hb h.ct, below_cell hb h.cw, below_cell hb h.cb, below_cell hb h.cl, below_cell hb h.ce, h.ht.below hb, h.hw.below hb, h.hb.below hb, h.hl.below hb,
    fun i hi => ⟨(h.rb i hi).1.below hb, by obtain ⟨b, o, c, e, f⟩ := (h.rb i hi).2; exact ⟨b, o, c, e, below_cell hb f⟩⟩,
    fun i hi => ⟨(h.rl i hi).1.below hb, by obtain ⟨b, o, c, e, f⟩ := (h.rl i hi).2; exact ⟨b, o, c, e, below_cell hb f⟩⟩⟩
theorem Chg.thenB {S : Nat → Prop} {a b c : World} (h : Chg S a b) (k : Below a.heap.size b c) : Chg S a c :=
  ⟨k.os.trans h.os, k.tape.trans h.tape, k.output.trans h.output, Nat.le_trans h.size k.size, fun i hi hs => (k.block i hi).trans (h.block i hi hs)⟩
/-- The states of the bags of don. -/
structure BestS (d : WkD) (T : Nat → Nat → Int) (w : World) (B : Nat) (don : Nat → Prop) : Prop where
  lo : d.E < B
  hi : B ≤ w.heap.size
  row : ∃ val : Nat → Value, w.rowIs d.E 77 d.bs.length val ∧ ∀ q, q < d.bs.length → don q → ∃ mb n, val q = .map (some mb) ∧ mb < B ∧ SMap w mb n (fun t => t < 2 ^ (bagA d.bs q).length ∧ LooseM d.G (bagA d.bs q) t) (T q)
theorem BestS.below {d : WkD} {T : Nat → Nat → Int} {w w' : World} {B : Nat} {don : Nat → Prop} (h : BestS d T w B don) (hb : Below B w w') : BestS d T w' B don := by
  obtain ⟨val, h1, h2⟩ := h.row
  refine ⟨h.lo, Nat.le_trans h.hi hb.size, val, h1.of_block (hb.block _ h.lo), fun q hq hd => ?_⟩
  obtain ⟨mb, n, e, f, g⟩ := h2 q hq hd
  exact ⟨mb, n, e, f, g.kept (hb.block _ f)⟩
theorem BestS.up {d : WkD} {T : Nat → Nat → Int} {w : World} {B B' : Nat} {don : Nat → Prop} (h : BestS d T w B don) (h1 : B ≤ B') (h2 : B' ≤ w.heap.size) : BestS d T w B' don := by
  obtain ⟨val, a, b⟩ := h.row
  have := h.lo
  refine ⟨by omega, h2, val, a, fun q hq hd => ?_⟩
  obtain ⟨mb, n, e, f, g⟩ := b q hq hd
  exact ⟨mb, n, e, by omega, g⟩
theorem BestS.congr {d : WkD} {T : Nat → Nat → Int} {w : World} {B : Nat} {don don' : Nat → Prop} (h : BestS d T w B don) (e : ∀ q, q < d.bs.length → don' q → don q) : BestS d T w B don' := by
  obtain ⟨val, a, b⟩ := h.row
  exact ⟨h.lo, h.hi, val, a, fun q hq hd => b q hq (e q hq hd)⟩
/-- One bag's state is a new map. -/
theorem BestS.fresh {d : WkD} {T : Nat → Nat → Int} {w : World} {B : Nat} {don : Nat → Prop} (h : BestS d T w B don) {i : Nat} (v : Value) (hB : B = w.heap.size) (o : Obj) : BestS d T ((w.setCell ⟨d.E, i, none⟩ v).alloc o) B (fun q => don q ∧ q ≠ i) := by
  obtain ⟨val, a, b⟩ := h.row
  have h0 := h.lo
  refine ⟨h0, by rw [World.size_alloc, size_setCell]; omega, _, (a.set i v).alloc o, fun q hq hd => ?_⟩
  obtain ⟨mb, n, e, f, g⟩ := b q hq hd.1
  have hlt := g.lt
  have hne : mb ≠ d.E := fun k => by
    obtain ⟨D, ⟨es, clock, g1, _⟩, _⟩ := g
    obtain ⟨c, g2, _⟩ := a
    rw [k, g2] at g1
    cases g1
  refine ⟨mb, n, by rw [if_neg hd.2]; exact e, f, (g.kept (w' := w.setCell ⟨d.E, i, none⟩ v) (Below.heap_setCell w ⟨d.E, i, none⟩ v mb hne)).kept ((below1 _ o).block _ (by rw [size_setCell]; exact hlt))⟩
theorem BestS.add {d : WkD} {T : Nat → Nat → Int} {w : World} {B : Nat} {don : Nat → Prop} (h : BestS d T w B don) {i mb n : Nat} (hi : i < d.bs.length) (hc : w.cell? ⟨d.E, i, none⟩ = some (.map (some mb))) (hm : SMap w mb n (fun t => t < 2 ^ (bagA d.bs i).length ∧ LooseM d.G (bagA d.bs i) t) (T i)) :
    BestS d T w w.heap.size (fun q => don q ∨ q = i) := by
  obtain ⟨val, a, b⟩ := h.row
  have h0 := h.lo
  have h1 := h.hi
  refine ⟨by omega, Nat.le_refl _, val, a, fun q hq hd => ?_⟩
  by_cases e : q = i
  · subst e
    have h2 := a.cell hi
    rw [hc] at h2
    exact ⟨mb, n, (Option.some.inj h2).symm, hm.lt, hm⟩
  · obtain ⟨mb', n', e1, f, g⟩ := b q hq (hd.resolve_right e)
    exact ⟨mb', n', e1, by omega, g⟩
theorem BestS.at {d : WkD} {T : Nat → Nat → Int} {w : World} {B : Nat} {don : Nat → Prop} (h : BestS d T w B don) {q : Nat} (hq : q < d.bs.length) (hd : don q) : ∃ mb n, w.cell? ⟨d.E, q, none⟩ = some (.map (some mb)) ∧ SMap w mb n (fun t => t < 2 ^ (bagA d.bs q).length ∧ LooseM d.G (bagA d.bs q) t) (T q) := by
  obtain ⟨val, a, b⟩ := h.row
  obtain ⟨mb, n, e, f, g⟩ := b q hq hd
  exact ⟨mb, n, by rw [← e]; exact a.cell hq, g⟩
/-- A bag, read. -/
theorem WkF.bag {d : WkD} {w : World} (h : WkF d w) {i : Nat} (hi : i < d.bs.length) : ∃ bb bo bc ab cab, w.cell? ⟨d.K, 2, none⟩ = some (.slice (some ⟨bb, bo, none⟩) d.bs.length bc) ∧ w.cell? ⟨bb, bo + i, none⟩ = some (.slice ab (bagA d.bs i).length cab) ∧ d.rbv i = .slice ab (bagA d.bs i).length cab ∧ IsInts w (.slice ab (bagA d.bs i).length cab) (ints (bagA d.bs i)) := by
  obtain ⟨h1, bb, bo, bc, h2, h3⟩ := h.rb i hi
  obtain ⟨ab, cab, e⟩ : ∃ ab cab, d.rbv i = .slice ab (bagA d.bs i).length cab := by
    obtain ⟨a', c', b', o', er, _⟩ := h1
    rw [ints_length] at er
    exact ⟨a', c', er⟩
  rw [e] at h1 h3
  exact ⟨bb, bo, bc, ab, cab, by rw [← h2]; exact h.cb, h3, e, h1⟩
theorem WkF.low {d : WkD} {w : World} (h : WkF d w) {i : Nat} (hi : i < d.bs.length) : ∃ bb bo bc ab cab, w.cell? ⟨d.K, 3, none⟩ = some (.slice (some ⟨bb, bo, none⟩) d.bs.length bc) ∧ w.cell? ⟨bb, bo + i, none⟩ = some (.slice ab (d.ks.getD i []).length cab) ∧ d.rlv i = .slice ab (d.ks.getD i []).length cab ∧ IsInts w (.slice ab (d.ks.getD i []).length cab) (ints (d.ks.getD i [])) := by
  obtain ⟨h1, bb, bo, bc, h2, h3⟩ := h.rl i hi
  obtain ⟨ab, cab, e⟩ : ∃ ab cab, d.rlv i = .slice ab (d.ks.getD i []).length cab := by
    obtain ⟨a', c', b', o', er, _⟩ := h1
    rw [ints_length] at er
    exact ⟨a', c', er⟩
  rw [e] at h1 h3
  exact ⟨bb, bo, bc, ab, cab, by rw [← h2]; exact h.cl, h3, e, h1⟩
theorem SMap.put {w : World} {b n : Nat} {p : Nat → Prop} {T : Nat → Int} (h : SMap w b n p T) {s : Nat} (hs : s ≤ 1000000) (hn : n ≤ 1000000) {c : Int} (hc : (Lit.int .i64 c).wf = true) :
    ∃ w', (Instr.mapUpdate 77 (.map (some b)) (.int .i64 (s : Int)) (.int .i64 c)).run Tryd.prog w = .ok () w' ∧ SMap w' b (n + 1) (fun q => q = s ∨ p q) (fun q => if q = s then c else T q) ∧ w.grownBy w' (some b) := by
  obtain ⟨D, h1, h2⟩ := h
  have hkey := keyOf_int_mk Tryd.underlying3 (small_wfS hs)
  obtain ⟨w', hr, ho, hg⟩ := h1.update intKeyedS Tryd.underlying77 (by unfold maxLen; omega) hkey (plainElem_int Tryd.underlying3 hc)
  exact ⟨w', hr, ⟨_, ho, h2.put h1.isMap hs c⟩, hg⟩
theorem wpList_put_st {w : World} {ops : Array Oper} {rest : List Oper} {o : Oper} {a : Act} {Q : Exit → Act → World → Prop} (hg : o.guard = none) (m x y : Operand) (hop : o.op = Op.mapUpdate 77 m x y)
    {b n : Nat} {p : Nat → Prop} {T : Nat → Int} (hm : a.eval m = .map (some b)) (h : SMap w b n p T) {s : Nat} (hs : s ≤ 1000000) (hn : n ≤ 1000000) (hx : a.eval x = .int .i64 (s : Int)) (c : Int) (hy : a.eval y = .int .i64 c) (hc : (Lit.int .i64 c).wf = true)
    (hK : ∀ w', SMap w' b (n + 1) (fun q => q = s ∨ p q) (fun q => if q = s then c else T q) → w.grownBy w' (some b) → wpList Tryd.prog ops Q rest (a.put o.dst undef) w') : wpList Tryd.prog ops Q (o :: rest) a w := by
  refine wpList_plain hg fun K' hK' => ?_
  obtain ⟨w', hrun, r1, r2⟩ := h.put hs hn hc
  unfold Oper.wp
  simp [execOp, hop, hm, hx, hy, hrun, Result.andThen]
  exact hK' _ _ (hK w' r1 r2)
theorem kid_sum (p : Nat → Prop) [DecidablePred p] (f : Nat → Int) : ∀ M : Nat, sumI (fun q => f (((List.range M).filter fun k => decide (p k)).getD q 0)) ((List.range M).filter fun k => decide (p k)).length = sumI (fun k => if p k then f k else 0) M
  | 0 => rfl
  | M + 1 => by
    rw [List.range_succ, List.filter_append]
    have ih := kid_sum p f M
    have e0 : sumI (fun q => f (((List.range M).filter (fun k => decide (p k)) ++ [M].filter fun k => decide (p k)).getD q 0)) ((List.range M).filter fun k => decide (p k)).length = sumI (fun k => if p k then f k else 0) M := by
      rw [← ih]
      refine sumI_congr fun q hq => ?_
      rw [List.getD, List.getElem?_append_left hq]
      rfl
    rw [sumI]
    by_cases hp : p M
    · have e1 : ([M].filter fun k => decide (p k)) = [M] := by simp [hp]
      rw [e1] at e0 ⊢
      rw [List.length_append, List.length_singleton, sumI, e0, if_pos hp, List.getD, List.getElem?_append_right (Nat.le_refl _)]
      simp
    · have e1 : ([M].filter fun k => decide (p k)) = [] := by simp [hp]
      rw [e1] at e0 ⊢
      rw [List.append_nil] at e0 ⊢
      rw [e0, if_neg hp, Int.add_zero]
/-- What is asked of the work. -/
structure WkOk (d : WkD) (l : List (Int × Int)) (u : List Int) : Prop where
  bags : BagsOk d.N l d.bs u d.G
  nN : d.N ≤ 100
  nM : d.bs.length ≤ 100
  n12 : ∀ i, i < d.bs.length → (bagA d.bs i).length ≤ 12
  wl : d.ws.length = d.N
  wr : ∀ v, v < d.N → -1000000 ≤ d.ws.getD v 0 ∧ d.ws.getD v 0 ≤ 1000000
  kl : d.ks.length = d.bs.length
  kid : ∀ i, i < d.bs.length → d.ks.getD i [] = (List.range d.bs.length).filter fun k => decide (u.getD k 0 = (i : Int))
abbrev WkD.W (d : WkD) (v : Nat) : Int := d.ws.getD v 0
end Go.Proofs.YtnmljgjegodkaaaDoor
namespace Go.Proofs.YtnmljgjegodkaaaDoor
open Go Go.RowKit

/-- Where it stands, or -1. -/
def IdxI (m : List Int) (x z : Int) : Prop := (z = -1 ∧ ¬ x ∈ m) ∨ ∃ k : Nat, z = k ∧ k < m.length ∧ m.getD k 0 = x ∧ ∀ j, j < k → m.getD j 0 ≠ x
set_option maxRecDepth 100000 in
theorem indexI_any (m : List Int) (x : Int) (s : Value) (w : World) (h : IsInts w s m) :
    Calls Tryd.prog 44 #[s, .int .i64 x] w fun e w' => (∃ z, e = .returned (.int .i64 z) ∧ IdxI m x z) ∧ w' = w := by
  obtain ⟨a, c, rfl, hl⟩ : ∃ a c, s = .slice a m.length c ∧ m.length ≤ 9223372036854775807 := by
    obtain ⟨a, c, _, _, rfl, _, _, _, _, _⟩ := h
    exact ⟨a, c, rfl, by omega⟩
  have H := Lib.hid h
  clear h
  obtain ⟨L, hLe⟩ : ∃ L, m.length = L := ⟨_, rfl⟩
  have HL := Lib.hid hLe
  rw [hLe] at hl
  rw [hLe]
  clear hLe
  go_enter Tryd.func44, Tryd.ntmps44
  go_upto_region 2 with fail
  go_loopg [8] L (fun g s8 wr => ∃ k : Nat, k ≤ L ∧ g = L - k ∧ s8 = .int .i64 (k : Int) ∧ wr = w ∧ ∀ j, j < k → m.getD j 0 ≠ x)
  case atStart => exact ⟨0, Nat.zero_le _, rfl, rfl, rfl, fun j hj => absurd hj (Nat.not_lt_zero _)⟩
  case round =>
    obtain ⟨k, hk, rfl, rfl, rfl, hno⟩ := hrel
    have Hno := Lib.hid hno
    clear hno
    by_cases hlt : k < L
    · obtain ⟨b, o, rfl, cx⟩ := H.out.atF (show k < m.length by rw [HL.out]; exact hlt)
      obtain ⟨y, hy⟩ : ∃ y, m.getD k 0 = y := ⟨_, rfl⟩
      have Hy := Lib.hid hy
      rw [hy] at cx
      clear hy
      by_cases hxy : x = y
      · have Hfin := Lib.hid (show IdxI m x (k : Int) from Or.inr ⟨k, rfl, by rw [HL.out]; exact hlt, Hy.out.trans hxy.symm, Hno.out⟩)
        subst hxy
        go_wp2
        go_ret
        exact ⟨⟨_, rfl, Hfin.out⟩, rfl⟩
      · have hxb : (x == y) = false := by simp [hxy]
        have Hst := Lib.hid (show ∀ j, j < k + 1 → m.getD j 0 ≠ x from fun j hj => by
          by_cases e : j = k
          · subst e; rw [Hy.out]; exact fun h => hxy h.symm
          · exact Hno.out j (by omega))
        clear hxy
        go_wp2
        go_roundg (L - (k + 1))
        case measure => go_light; omega
        case rel => exact ⟨k + 1, by omega, rfl, by go_num, rfl, Hst.out⟩
    · obtain rfl : k = L := by omega
      have Hfin := Lib.hid (show IdxI m x (-1) from Or.inl ⟨rfl, fun h => by
        obtain ⟨j, hj, e⟩ := List.getElem_of_mem h
        exact Hno.out j (by rw [← HL.out]; exact hj) (by rw [List.getD, List.getElem?_eq_getElem hj]; exact e)⟩)
      go_wp2
      go_ret
      exact ⟨⟨_, rfl, Hfin.out⟩, rfl⟩

/-- What loose answers. -/
def LoosePost (G : Nat → Nat → Bool) (bl : List Nat) (s : Nat) (w : World) (e : Ending) (w' : World) : Prop := ∃ b : Bool, (b = true ↔ LooseM G bl s) ∧ e = .returned (.bool b) ∧ w' = w
theorem LoosePost.no {G : Nat → Nat → Bool} {bl : List Nat} {s : Nat} {w : World} (h : ¬ LooseM G bl s) : LoosePost G bl s w (.returned (.bool false)) w := ⟨false, ⟨fun e => (by cases e), fun k => absurd k h⟩, rfl, rfl⟩
theorem few_mask {s n : Nat} (h : s < 2 ^ n) (hn : n ≤ 12) : Few s := by
  rw [Few, few_two]
  exact Nat.lt_of_lt_of_le h (Nat.pow_le_pow_right (by omega) (by omega))
theorem ints_at_nat (bl : List Nat) (k : Nat) : (ints bl).getD k 0 = ((bl.getD k 0 : Nat) : Int) := by
  unfold ints
  rw [List.getD, List.getD, List.getElem?_map]
  cases bl[k]? <;> rfl
set_option maxHeartbeats 1600000 in
set_option maxRecDepth 100000 in
theorem loose_any (d : WkD) (bl : List Nat) (s : Nat) (r : Value) (w : World) (hE : WkF d w) (hN : d.N ≤ 100) (hr : IsInts w r (ints bl)) (hlt : ∀ v ∈ bl, v < d.N) (h12 : bl.length ≤ 12) (hs : s < 2 ^ bl.length) :
    Calls Tryd.prog 58 #[.pointer (some ⟨d.K, 0, none⟩), r, .int .i64 (s : Int)] w (LoosePost d.G bl s w) := by
  have hSf : Few s := few_mask hs h12
  obtain ⟨ar, cr', rfl, hl1, hl2⟩ : ∃ ar cr', r = .slice ar bl.length cr' ∧ bl.length ≤ cr' ∧ cr' ≤ 9223372036854775807 := by
    obtain ⟨ar, cr', br, or', er, hl1, hl2, -, -, -⟩ := hr
    rw [ints_length] at er hl1
    exact ⟨ar, cr', er, hl1, by omega⟩
  have ct := hE.ct
  have Ht := Lib.hid hE.ht
  have Hr := Lib.hid hr; have Hlt := Lib.hid hlt
  clear hE hr hlt hs
  obtain ⟨L, hLe⟩ : ∃ L, bl.length = L := ⟨_, rfl⟩
  have HL := Lib.hid hLe
  rw [hLe] at h12 hl1
  rw [hLe]
  clear hLe
  obtain ⟨K, hK⟩ : ∃ K, d.K = K := ⟨_, rfl⟩
  rw [hK] at ct
  rw [hK]
  clear hK
  obtain ⟨tv, htv⟩ : ∃ tv, d.tv = tv := ⟨_, rfl⟩
  rw [htv] at ct Ht
  clear htv
  go_enter Tryd.func58, Tryd.ntmps58
  go_upto_region 2 with fail
  go_loopg [13] L (fun g s13 wr => ∃ i : Nat, i ≤ L ∧ g = L - i ∧ s13 = .int .i64 (i : Int) ∧ wr = w ∧ ∀ i' j', i' < i → j' < i' → ¬ (s.testBit i' = true ∧ s.testBit j' = true ∧ d.G (bl.getD i' 0) (bl.getD j' 0) = true))
  case atStart => exact ⟨0, Nat.zero_le _, rfl, rfl, rfl, fun i j hi => absurd hi (Nat.not_lt_zero _)⟩
  case round =>
    obtain ⟨i, hi, rfl, rfl, rfl, hno⟩ := hrel
    have Hno := Lib.hid hno
    clear hno
    by_cases hiL : i < L
    · obtain ⟨b2, o2, rfl, cx⟩ := Hr.out.atF (show i < (ints bl).length by rw [ints_length, HL.out]; exact hiL)
      rw [ints_at_nat] at cx
      have hvN : bl.getD i 0 < d.N := Hlt.out _ (at_mem (by rw [HL.out]; exact hiL))
      obtain ⟨v, hv⟩ : ∃ v, bl.getD i 0 = v := ⟨_, rfl⟩
      have Hv := Lib.hid hv
      rw [hv] at cx hvN
      obtain ⟨i3, hi3, -⟩ := info_parts info3
      have hsl := run_slice_hi (P := Tryd.prog) Tryd.underlying30 hi3 (some ⟨b2, o2, none⟩) L cr' i (by omega)
      clear hv hi3
      go_upto_region 5 with fail
      clear hsl
      go_loopg [22] i (fun g s22 wr' => ∃ j : Nat, j ≤ i ∧ g = i - j ∧ s22 = .int .i64 (j : Int) ∧ wr' = wr ∧ ∀ j', j' < j → ¬ (s.testBit i = true ∧ s.testBit j' = true ∧ d.G (bl.getD i 0) (bl.getD j' 0) = true))
      case atStart => exact ⟨0, Nat.zero_le _, rfl, rfl, rfl, fun j hj => absurd hj (Nat.not_lt_zero _)⟩
      case round =>
        obtain ⟨j, hj, rfl, rfl, rfl, hno⟩ := hrel
        have Hno2 := Lib.hid hno
        clear hno
        by_cases hji : j < i
        · obtain ⟨b3, o3, e3, cy⟩ := Hr.out.atF (show j < (ints bl).length by rw [ints_length, HL.out]; omega)
          simp only [Option.some.injEq, Addr.mk.injEq, and_true] at e3
          obtain ⟨rfl, rfl⟩ := e3
          rw [ints_at_nat] at cy
          have huN : bl.getD j 0 < d.N := Hlt.out _ (at_mem (by rw [HL.out]; omega))
          obtain ⟨x, hx⟩ : ∃ x, bl.getD j 0 = x := ⟨_, rfl⟩
          have Hx := Lib.hid hx
          rw [hx] at cy huN
          obtain ⟨bt, ot, kt, rt, rfl, ch, cv⟩ := Ht.out.entry hvN huN
          have e3 := op_shr s i
          have e5 := op_shr s j
          have Hst := Lib.hid (fun (h : ¬ (s.testBit i = true ∧ s.testBit j = true ∧ d.G v x = true)) => show ∀ j', j' < j + 1 → ¬ (s.testBit i = true ∧ s.testBit j' = true ∧ d.G (bl.getD i 0) (bl.getD j' 0) = true) from fun j' hj' => by
            by_cases e : j' = j
            · subst e; rw [Hv.out, Hx.out]; exact h
            · exact Hno2.out j' (by omega))
          clear hx
          cases h1 : s.testBit i with
          | false =>
            have e4 : bits .and .i64 (shr s i : Int) 1 = 0 := by rw [op_bit hSf, bit_zero h1]; rfl
            have Hst2 := Lib.hid (Hst.out fun k => by rw [h1] at k; cases k.1)
            clear h1
            go_wp2
            go_roundg (i - (j + 1))
            case measure => go_light; omega
            case rel => exact ⟨j + 1, by omega, rfl, by go_num, rfl, Hst2.out⟩
          | true =>
            have e4 : bits .and .i64 (shr s i : Int) 1 = 1 := by rw [op_bit hSf, bit_one h1]; rfl
            cases h2 : s.testBit j with
            | false =>
              have e6 : bits .and .i64 (shr s j : Int) 1 = 0 := by rw [op_bit hSf, bit_zero h2]; rfl
              have Hst2 := Lib.hid (Hst.out fun k => by rw [h2] at k; cases k.2.1)
              clear h1 h2
              go_wp2
              go_roundg (i - (j + 1))
              case measure => go_light; omega
              case rel => exact ⟨j + 1, by omega, rfl, by go_num, rfl, Hst2.out⟩
            | true =>
              have e6 : bits .and .i64 (shr s j : Int) 1 = 1 := by rw [op_bit hSf, bit_one h2]; rfl
              cases h3 : d.G v x with
              | false =>
                rw [h3] at cv
                have Hst2 := Lib.hid (Hst.out fun k => by rw [h3] at k; cases k.2.2)
                clear h1 h2 h3
                go_wp2
                go_roundg (i - (j + 1))
                case measure => go_light; omega
                case rel => exact ⟨j + 1, by omega, rfl, by go_num, rfl, Hst2.out⟩
              | true =>
                rw [h3] at cv
                have Hbad := Lib.hid (show ¬ LooseM d.G bl s from fun k => k i j (by rw [HL.out]; exact hiL) hji ⟨h1, h2, by rw [Hv.out, Hx.out]; exact h3⟩)
                clear h1 h2 h3
                go_wp2
                exact bodyPost_ret (v := .bool false) (by simp [results, Tryd.results58, go_sem]) rfl (LoosePost.no Hbad.out)
        · obtain rfl : j = i := by omega
          have Hst := Lib.hid (show ∀ i' j', i' < j + 1 → j' < i' → ¬ (s.testBit i' = true ∧ s.testBit j' = true ∧ d.G (bl.getD i' 0) (bl.getD j' 0) = true) from fun i' j' hi' hj' => by
            by_cases e : i' = j
            · subst e; exact Hno2.out j' hj'
            · exact Hno.out i' j' (by omega) hj')
          go_wp2
          go_roundg (L - (j + 1))
          case measure => go_light; omega
          case rel => exact ⟨j + 1, by omega, rfl, by go_num, rfl, Hst.out⟩
    · obtain rfl : i = L := by omega
      have Hfin := Lib.hid (show LooseM d.G bl s from fun i' j' hi' hj' => Hno.out i' j' (by rw [← HL.out]; exact hi') hj')
      go_wp2
      exact bodyPost_ret (v := .bool true) (by simp [results, Tryd.results58, go_sem]) rfl ⟨true, ⟨fun _ => Hfin.out, fun _ => rfl⟩, rfl, rfl⟩
end Go.Proofs.YtnmljgjegodkaaaDoor
namespace Go.Proofs.YtnmljgjegodkaaaDoor
open Go Go.RowKit

theorem wrapI {x : Int} (h0 : -9223372036854775808 ≤ x) (h1 : x < 9223372036854775808) : IntKind.i64.wrap x = x := by
  simp [IntKind.wrap, IntKind.bits, IntKind.signed]; omega
theorem sumI_bound {f : Nat → Int} {c : Int} : ∀ {n : Nat}, (∀ j, j < n → -c ≤ f j ∧ f j ≤ c) → -(n * c) ≤ sumI f n ∧ sumI f n ≤ n * c
  | 0, _ => by simp [sumI]
  | n + 1, h => by
    have h1 := sumI_bound (n := n) fun j hj => h j (by omega)
    have h2 := h n (by omega)
    rw [sumI]
    have e : ((n + 1 : Nat) : Int) * c = n * c + c := by rw [Int.natCast_add, Int.add_mul]; simp
    rw [e]
    omega
theorem bothW_at {W : Nat → Int} {N : Nat} {a b : List Nat} {s : Nat} (hW : ∀ v, v < N → -1000000 ≤ W v ∧ W v ≤ 1000000) (ha : ∀ v ∈ a, v < N) {q : Nat} (hq : q ≤ a.length) :
    -(q * 1000000 : Int) ≤ sumI (fun j => if s.testBit j = true ∧ a.getD j 0 ∈ b then W (a.getD j 0) else 0) q ∧ sumI (fun j => if s.testBit j = true ∧ a.getD j 0 ∈ b then W (a.getD j 0) else 0) q ≤ q * 1000000 :=
  sumI_bound fun j hj => by
    have := hW _ (ha _ (at_mem (show j < a.length by omega)))
    split <;> omega
theorem IsInts.form_at {w : World} {s : Value} {m : List Int} (h : IsInts w s m) {k : Nat} (hk : k < m.length) : ∃ b o, (∃ c, s = .slice (some ⟨b, o, none⟩) m.length c) ∧ w.cell? ⟨b, o + k, none⟩ = some (.int .i64 (m.getD k 0)) := by
  obtain ⟨a, c, b, o, rfl, h1, h2, h3, h4, h5⟩ := h
  exact ⟨b, o, ⟨c, by rw [h3 (by omega)]⟩, h5 k hk⟩
/-- What agree answers. -/
def AgreePost (W : Nat → Int) (a b : List Nat) (s t : Nat) (w : World) (e : Ending) (w' : World) : Prop := ∃ (ok : Bool) (z : Int), (ok = true ↔ AgreeM a b s t) ∧ (ok = true → z = bothW W a b s) ∧ (ok = false → z = 0) ∧ e = .returned (.tuple #[.bool ok, .int .i64 z]) ∧ Drew w w'
theorem AgreePost.no {W : Nat → Int} {a b : List Nat} {s t : Nat} {w w' : World} (h : ¬ AgreeM a b s t) (hd : Drew w w') : AgreePost W a b s t w (.returned (.tuple #[.bool false, .int .i64 0])) w' := ⟨false, 0, ⟨fun e => (by cases e), fun k => absurd k h⟩, fun e => (by cases e), fun _ => rfl, rfl, hd⟩

set_option maxHeartbeats 1600000 in
set_option maxRecDepth 100000 in
theorem agree_any (d : WkD) (a b : List Nat) (s t : Nat) (ra rb : Value) (w : World) (hE : WkF d w) (hN : d.N ≤ 100) (hwl : d.ws.length = d.N) (hW : ∀ v, v < d.N → -1000000 ≤ d.W v ∧ d.W v ≤ 1000000) (hra : IsInts w ra (ints a)) (hrb : IsInts w rb (ints b)) (hla : ∀ v ∈ a, v < d.N) (ha12 : a.length ≤ 12) (hb12 : b.length ≤ 12) (hnb : b.Nodup) (hs : s < 2 ^ a.length) (ht : t < 2 ^ b.length) :
    Calls Tryd.prog 73 #[.pointer (some ⟨d.K, 0, none⟩), ra, .int .i64 (s : Int), rb, .int .i64 (t : Int)] w (AgreePost d.W a b s t w) := by
  have hSf : Few s := few_mask hs ha12
  have hTf : Few t := few_mask ht hb12
  obtain ⟨aa, ca, rfl⟩ : ∃ aa ca, ra = .slice aa a.length ca := by
    obtain ⟨ar, cr', br, or', er, _⟩ := hra
    rw [ints_length] at er
    exact ⟨ar, cr', er⟩
  have cw := hE.cw
  have HE := Lib.hid hE
  have Ha := Lib.hid hra; have Hb := Lib.hid hrb; have Hla := Lib.hid hla; have HW := Lib.hid hW; have Hwl := Lib.hid hwl; have Hnb := Lib.hid hnb
  have Hbo := Lib.hid (fun q (hq : q ≤ a.length) => bothW_at (b := b) (s := s) hW hla hq)
  clear hE hra hrb hla hW hwl hnb hs ht
  obtain ⟨L, hLe⟩ : ∃ L, a.length = L := ⟨_, rfl⟩
  have HL := Lib.hid hLe
  rw [hLe] at ha12
  rw [hLe]
  clear hLe
  obtain ⟨K, hK⟩ : ∃ K, d.K = K := ⟨_, rfl⟩
  have HK := Lib.hid hK
  rw [hK] at cw
  rw [hK]
  clear hK
  obtain ⟨wv, hwv⟩ : ∃ wv, d.wv = wv := ⟨_, rfl⟩
  have Hwv := Lib.hid hwv
  rw [hwv] at cw
  have Cw := Lib.hid cw
  have Hw := Lib.hid (show IsInts w wv d.ws from by have := HE.out.hw; rw [hwv] at this; exact this)
  clear hwv cw
  obtain ⟨F, hF⟩ : ∃ F : Nat → Int, F = fun j => if s.testBit j = true ∧ a.getD j 0 ∈ b then d.W (a.getD j 0) else 0 := ⟨_, rfl⟩
  have HF := Lib.hid hF
  have Hbo2 := Lib.hid (show ∀ q, q ≤ L → -(q * 1000000 : Int) ≤ sumI F q ∧ sumI F q ≤ q * 1000000 from fun q hq => by rw [hF]; exact Hbo.out q (by rw [HL.out]; exact hq))
  clear hF Hbo
  go_enter Tryd.func73, Tryd.ntmps73
  go_upto_region 3 with fail
  go_loopg [12, 18] L (fun g s12 s18 wr => ∃ i : Nat, i ≤ L ∧ g = L - i ∧ s18 = .int .i64 (i : Int) ∧ s12 = .int .i64 (sumI F i) ∧ Drew w wr ∧ ∀ i' j, i' < i → j < b.length → a.getD i' 0 = b.getD j 0 → s.testBit i' = t.testBit j)
  case atStart => exact ⟨0, Nat.zero_le _, rfl, rfl, rfl, ⟨0, rfl⟩, fun i j hi => absurd hi (Nat.not_lt_zero _)⟩
  case round =>
    obtain ⟨i, hi, rfl, rfl, rfl, hdr, hall⟩ := hrel
    have Hdr := Lib.hid hdr; have Hall := Lib.hid hall
    have hbo := Hbo2.out i hi
    obtain ⟨z, hz⟩ : ∃ z, sumI F i = z := ⟨_, rfl⟩
    have Hz := Lib.hid hz
    rw [hz] at hbo
    rw [hz]
    clear hz hall
    by_cases hiL : i < L
    · obtain ⟨b2, o2, rfl, cx⟩ := (Ha.out.below hdr.below).atF (show i < (ints a).length by rw [ints_length, HL.out]; exact hiL)
      rw [ints_at_nat] at cx
      have hvN : a.getD i 0 < d.N := Hla.out _ (at_mem (by rw [HL.out]; exact hiL))
      have Hs1 := Lib.hid (show sumI F (i + 1) = z + F i from by rw [sumI, Hz.out])
      have HFi := Lib.hid (show F i = if s.testBit i = true ∧ a.getD i 0 ∈ b then d.W (a.getD i 0) else 0 from by rw [HF.out])
      have hWv := HW.out _ hvN
      obtain ⟨v, hv⟩ : ∃ v, a.getD i 0 = v := ⟨_, rfl⟩
      have Hv := Lib.hid hv
      rw [hv] at cx hvN hWv HFi
      have e3 := op_shr s i
      have Hst := Lib.hid (fun (h : ∀ j, j < b.length → v = b.getD j 0 → s.testBit i = t.testBit j) => show ∀ i' j, i' < i + 1 → j < b.length → a.getD i' 0 = b.getD j 0 → s.testBit i' = t.testBit j from fun i' j hi' hj' e => by
        by_cases e2 : i' = i
        · subst e2; exact h j hj' (by rw [← Hv.out]; exact e)
        · exact Hall.out i' j (by omega) hj' e)
      clear hv hdr
      obtain ⟨w5, rfl⟩ : ∃ w5 : World, w5 = wr := ⟨_, rfl⟩
      go_wp2_with fail
      refine (indexI_any (ints b) (v : Int) rb w5 (Hb.out.below Hdr.out.below)).mono ?_
      rintro e w6 ⟨⟨k, rfl, hk⟩, hw6⟩
      subst hw6
      rcases hk with ⟨rfl, hk⟩ | ⟨q, rfl, hqb, hqv, -⟩
      · have Hst2 := Lib.hid (Hst.out fun j hj e => absurd (show (v : Int) ∈ ints b from by rw [e]; exact List.mem_map.2 ⟨_, at_mem hj, rfl⟩) hk)
        have Hs2 := Lib.hid (show sumI F (i + 1) = z from by
          rw [Hs1.out, HFi.out, if_neg fun h => hk (List.mem_map.2 ⟨_, h.2, rfl⟩), Int.add_zero])
        clear hk
        go_wp2
        go_roundg (L - (i + 1))
        case measure => go_light; omega
        case rel => exact ⟨i + 1, by omega, rfl, by go_num, by rw [Hs2.out], Hdr.out, Hst2.out⟩
      · rw [ints_length] at hqb
        rw [ints_at_nat] at hqv
        have hqv' : b.getD q 0 = v := by omega
        have Hq := Lib.hid (And.intro hqb hqv')
        have e5 := op_shr t q
        have Hone := Lib.hid (fun (h : s.testBit i = t.testBit q) => Hst.out fun j hj e => by
          have : j = q := getD_inj Hnb.out hj hqb (e.symm.trans hqv'.symm)
          rw [this]; exact h)
        have hq12 : q ≤ 12 := by omega
        clear hqv hqv'
        by_cases hbit : s.testBit i = t.testBit q
        · have Hst2 := Lib.hid (Hone.out hbit)
          cases h1 : s.testBit i with
          | true =>
            have h2 : t.testBit q = true := by rw [← hbit]; exact h1
            have e4 : bits .and .i64 (shr s i : Int) 1 = 1 := by rw [op_bit hSf, bit_one h1]; rfl
            have e6 : bits .and .i64 (shr t q : Int) 1 = 1 := by rw [op_bit hTf, bit_one h2]; rfl
            have Hs2 := Lib.hid (show sumI F (i + 1) = z + d.W v from by
              rw [Hs1.out, HFi.out, if_pos ⟨h1, by rw [← Hq.out.2]; exact at_mem Hq.out.1⟩])
            obtain ⟨b4, o4, hwv, cwv⟩ := (Hw.out.below Hdr.out.below).form_at (k := v) (by rw [Hwl.out]; exact hvN)
            have cw := below_cell Hdr.out.below Cw.out
            obtain ⟨y, hy⟩ : ∃ y, d.ws.getD v 0 = y := ⟨_, rfl⟩
            have Hy := Lib.hid hy
            rw [hy] at cwv
            have hyb : -1000000 ≤ y ∧ y ≤ 1000000 := by rw [← hy]; exact hWv
            have hwr : IntKind.i64.wrap (z + y) = z + y := wrapI (by omega) (by omega)
            obtain ⟨cv, hwv⟩ := hwv
            rw [hwv] at cw
            have hvl : (v : Int) < (d.ws.length : Int) := by rw [Hwl.out]; omega
            clear hbit h1 h2 hy hWv
            go_upto_region 8 with fail
            go_quiet (fail)
            have hq := Below.drewN' (Below.refl w6.heap.size w6) nq
            have cw := below_cell hq cw
            have cwv := below_cell hq cwv
            have Hdr2 := Lib.hid (Hdr.out.add nq)
            clear hq
            generalize w6.drewN nq = w7 at *
            go_wp2
            go_roundg (L - (i + 1))
            case measure => go_light; omega
            case rel => exact ⟨i + 1, by omega, rfl, by go_num, by rw [Hs2.out, show d.W v = y from Hy.out], Hdr2.out, Hst2.out⟩
          | false =>
            have h2 : t.testBit q = false := by rw [← hbit]; exact h1
            have e4 : bits .and .i64 (shr s i : Int) 1 = 0 := by rw [op_bit hSf, bit_zero h1]; rfl
            have e6 : bits .and .i64 (shr t q : Int) 1 = 0 := by rw [op_bit hTf, bit_zero h2]; rfl
            have Hs2 := Lib.hid (show sumI F (i + 1) = z from by
              rw [Hs1.out, HFi.out, if_neg fun h => (by rw [h1] at h; cases h.1), Int.add_zero])
            clear hbit h1 h2
            go_upto_region 8 with fail
            go_quiet (fail)
            have Hdr2 := Lib.hid (Hdr.out.add nq)
            generalize w6.drewN nq = w7 at *
            go_wp2
            go_roundg (L - (i + 1))
            case measure => go_light; omega
            case rel => exact ⟨i + 1, by omega, rfl, by go_num, by rw [Hs2.out], Hdr2.out, Hst2.out⟩
        · have Hno := Lib.hid (show ¬ AgreeM a b s t from fun h => hbit (h i q (by rw [HL.out]; exact hiL) Hq.out.1 (by rw [Hv.out, Hq.out.2])))
          cases h1 : s.testBit i with
          | true =>
            have h2 : t.testBit q = false := by cases h : t.testBit q with | false => rfl | true => exact absurd (h1.trans h.symm) hbit
            have e4 : bits .and .i64 (shr s i : Int) 1 = 1 := by rw [op_bit hSf, bit_one h1]; rfl
            have e6 : bits .and .i64 (shr t q : Int) 1 = 0 := by rw [op_bit hTf, bit_zero h2]; rfl
            clear hbit h1 h2
            go_upto_region 8 with fail
            go_quiet (fail)
            go_wp2
            exact bodyPost_ret (v := .tuple #[.bool false, .int .i64 0]) (by simp [results, Tryd.results73, go_sem]) rfl (AgreePost.no Hno.out (Hdr.out.add _))
          | false =>
            have h2 : t.testBit q = true := by cases h : t.testBit q with | true => rfl | false => exact absurd (h1.trans h.symm) hbit
            have e4 : bits .and .i64 (shr s i : Int) 1 = 0 := by rw [op_bit hSf, bit_zero h1]; rfl
            have e6 : bits .and .i64 (shr t q : Int) 1 = 1 := by rw [op_bit hTf, bit_one h2]; rfl
            clear hbit h1 h2
            go_upto_region 8 with fail
            go_quiet (fail)
            go_wp2
            exact bodyPost_ret (v := .tuple #[.bool false, .int .i64 0]) (by simp [results, Tryd.results73, go_sem]) rfl (AgreePost.no Hno.out (Hdr.out.add _))
    · obtain rfl : i = L := by omega
      have Hfin := Lib.hid (show AgreeM a b s t from fun i' j hi' hj' e => Hall.out i' j (by rw [← HL.out]; exact hi') hj' e)
      have Hsum := Lib.hid (show z = bothW d.W a b s from by rw [← Hz.out, HF.out]; unfold bothW; rw [HL.out])
      go_wp2
      exact bodyPost_ret (v := .tuple #[.bool true, .int .i64 z]) (by simp [results, Tryd.results73, go_sem]) rfl ⟨true, z, ⟨fun _ => Hfin.out, fun _ => rfl⟩, fun _ => Hsum.out, fun h => (by cases h), rfl, Hdr.out⟩
end Go.Proofs.YtnmljgjegodkaaaDoor
namespace Go.Proofs.YtnmljgjegodkaaaDoor
open Go Go.RowKit Go.Maps

open Classical in
theorem agree_is (d : WkD) (a b : List Nat) (s t : Nat) (ra rb : Value) (w : World) (hE : WkF d w) (hN : d.N ≤ 100) (hwl : d.ws.length = d.N) (hW : ∀ v, v < d.N → -1000000 ≤ d.W v ∧ d.W v ≤ 1000000) (hra : IsInts w ra (ints a)) (hrb : IsInts w rb (ints b)) (hla : ∀ v ∈ a, v < d.N) (ha12 : a.length ≤ 12) (hb12 : b.length ≤ 12) (hnb : b.Nodup) (hs : s < 2 ^ a.length) (ht : t < 2 ^ b.length)
    (c : Bool) (z : Int) (hc : c = true ↔ AgreeM a b s t) (hz : z = if c = true then bothW d.W a b s else 0) :
    Calls Tryd.prog 73 #[.pointer (some ⟨d.K, 0, none⟩), ra, .int .i64 (s : Int), rb, .int .i64 (t : Int)] w fun e w' => e = .returned (.tuple #[.bool c, .int .i64 z]) ∧ Drew w w' := by
  refine (agree_any d a b s t ra rb w hE hN hwl hW hra hrb hla ha12 hb12 hnb hs ht).mono ?_
  rintro e w' ⟨ok, y, h1, h2, h3, rfl, hd⟩
  have e1 : ok = c := by rw [Bool.eq_iff_iff]; exact h1.trans hc.symm
  subst e1
  refine ⟨?_, hd⟩
  cases ok with
  | true => rw [hz, if_pos rfl, h2 rfl]
  | false => rw [hz, if_neg (by decide), h3 rfl]
theorem IsRows.form_at {w : World} {s : Value} {m : List (List Int)} (h : IsRows w s m) {k : Nat} (hk : k < m.length) : ∃ b o r, (∃ c, s = .slice (some ⟨b, o, none⟩) m.length c) ∧ w.cell? ⟨b, o + k, none⟩ = some r ∧ IsInts w r (m.getD k []) := by
  obtain ⟨a, c, b, o, rfl, h1, h2, h3, h4, h5⟩ := h
  obtain ⟨r, hr, hi⟩ := h5 k hk
  exact ⟨b, o, r, ⟨c, by rw [h3 (by omega)]⟩, hr, hi⟩
/-- The best of those met. -/
def CB (p : Nat → Prop) (ag : Nat → Prop) (f : Nat → Int) (left : Lit → Bool) (a m : Int) : Prop :=
  (a = -1 ∧ m = 0 ∧ ∀ t, p t → left (.int .i64 (t : Int)) = false → ¬ ag t) ∨
  ∃ t : Nat, a = t ∧ p t ∧ ag t ∧ left (.int .i64 (t : Int)) = false ∧ m = f t ∧ ∀ t', p t' → left (.int .i64 (t' : Int)) = false → ag t' → f t' < f t ∨ (f t' = f t ∧ t ≤ t')
theorem left_more {left : Lit → Bool} {t t' : Nat} : (left (.int .i64 (t' : Int)) && !(Lit.int .i64 (t' : Int)).sameKey (.int .i64 (t : Int))) = false ↔ left (.int .i64 (t' : Int)) = false ∨ t' = t := by
  by_cases e : t' = t
  · subst e
    have : (Lit.int .i64 (t' : Int)).sameKey (.int .i64 (t' : Int)) = true := by simp [Lit.sameKey]
    simp [this]
  · have : (Lit.int .i64 (t' : Int)).sameKey (.int .i64 (t : Int)) = false := by
      simp [Lit.sameKey]; omega
    simp [this, e]
theorem CB.skip {p ag : Nat → Prop} {f : Nat → Int} {left : Lit → Bool} {a m : Int} (h : CB p ag f left a m) {t : Nat} (hn : ¬ ag t) : CB p ag f (fun z => left z && !z.sameKey (.int .i64 (t : Int))) a m := by
  rcases h with ⟨h1, h2, h3⟩ | ⟨t0, h1, h2, h3, h4, h5, h6⟩
  · refine .inl ⟨h1, h2, fun t' hp hl => ?_⟩
    rcases left_more.1 hl with e | e
    · exact h3 t' hp e
    · subst e; exact hn
  · refine .inr ⟨t0, h1, h2, h3, left_more.2 (.inl h4), h5, fun t' hp hl hag => ?_⟩
    rcases left_more.1 hl with e | e
    · exact h6 t' hp e hag
    · subst e; exact absurd hag hn
theorem CB.keep {p ag : Nat → Prop} {f : Nat → Int} {left : Lit → Bool} {t0 : Nat} {m : Int} (h : CB p ag f left (t0 : Int) m) {t : Nat} (hk : f t < m ∨ (f t = m ∧ t0 ≤ t)) : CB p ag f (fun z => left z && !z.sameKey (.int .i64 (t : Int))) (t0 : Int) m := by
  rcases h with ⟨h1, _, _⟩ | ⟨t1, h1, h2, h3, h4, h5, h6⟩
  · omega
  · obtain rfl : t0 = t1 := by omega
    refine .inr ⟨t0, rfl, h2, h3, left_more.2 (.inl h4), h5, fun t' hp hl hag => ?_⟩
    rcases left_more.1 hl with e | e
    · exact h6 t' hp e hag
    · subst e; rw [← h5]; exact hk
theorem CB.take {p ag : Nat → Prop} {f : Nat → Int} {left : Lit → Bool} {a m : Int} (h : CB p ag f left a m) {t : Nat} (hp : p t) (hag : ag t) (hk : a < 0 ∨ m < f t ∨ (f t = m ∧ (t : Int) < a)) : CB p ag f (fun z => left z && !z.sameKey (.int .i64 (t : Int))) (t : Int) (f t) := by
  refine .inr ⟨t, rfl, hp, hag, left_more.2 (.inr rfl), rfl, fun t' hp' hl hag' => ?_⟩
  rcases left_more.1 hl with e | e
  · rcases h with ⟨h1, h2, h3⟩ | ⟨t0, h1, h2, h3, h4, h5, h6⟩
    · exact absurd hag' (h3 t' hp' e)
    · have := h6 t' hp' e hag'
      rcases hk with k | k | ⟨k, k2⟩
      · omega
      · rcases this with g | ⟨g, g2⟩ <;> exact .inl (by omega)
      · rcases this with g | ⟨g, g2⟩
        · exact .inl (by omega)
        · exact .inr ⟨by omega, by omega⟩
  · subst e; exact .inr ⟨rfl, Nat.le_refl _⟩
theorem CB.done {p ag : Nat → Prop} {f : Nat → Int} {left : Lit → Bool} {a m : Int} {n t : Nat} (h : CB p ag f left a m) (hl : ∀ l, left l = false) (hb : IsBst (fun t => p t ∧ ag t) f n t) (hpn : ∀ t, p t → t < n) : a = t ∧ m = f t := by
  rcases h with ⟨h1, h2, h3⟩ | ⟨t0, h1, h2, h3, h4, h5, h6⟩
  · exact absurd hb.ok.2 (h3 t hb.ok.1 (hl _))
  · have h7 : IsBst (fun t => p t ∧ ag t) f n t0 := ⟨hpn _ h2, ⟨h2, h3⟩, fun t' _ h8 => h6 t' h8.1 (hl _) h8.2⟩
    have := h7.uniq hb
    subst this
    exact ⟨h1, h5⟩

/-- The choices at a bag. -/
abbrev CandP (d : WkD) (k t : Nat) : Prop := t < 2 ^ (bagA d.bs k).length ∧ LooseM d.G (bagA d.bs k) t
structure ChSt (d : WkD) (w wr : World) (mb n : Nat) (D : DataW Unit) (left : Lit → Bool) (cnt : Nat) : Prop where
  rg : wr.ranges Tryd.prog 3 (plainElem Tryd.prog 3) mb w.heap.size n D left cnt
  has : ∀ l, left l = true → Maps.has D l = true
  hb : Below w.heap.size w wr
set_option maxHeartbeats 3200000 in
set_option maxRecDepth 100000 in
theorem choice_any (d : WkD) (l : List (Int × Int)) (u : List Int) (T : Nat → Nat → Int) (hO : WkOk d l u) (hT : TOk d.G d.W d.bs u T) (i k s mb n : Nat) (w : World) (hE : WkF d w) (hi : i < d.bs.length) (hk : k < d.bs.length) (hs : LooseM d.G (bagA d.bs i) s) (hs2 : s < 2 ^ (bagA d.bs i).length)
    (hc : w.cell? ⟨d.E, k, none⟩ = some (.map (some mb))) (hm : SMap w mb n (CandP d k) (T k)) :
    Calls Tryd.prog 59 #[.pointer (some ⟨d.K, 0, none⟩), .int .i64 (i : Int), .int .i64 (s : Int), .int .i64 (k : Int)] w
      fun e w' => e = .returned (.tuple #[.int .i64 (chT d.G d.W d.bs i s k (T k) : Int), .int .i64 (chV d.G d.W d.bs i s k (T k))]) ∧ Below w.heap.size w w' := by
  obtain ⟨D, hown, hh⟩ := hm
  have HO := Lib.hid hO; have HE := Lib.hid hE; have Hh := Lib.hid hh
  have HB := Lib.hid (show ∀ t, CandP d k t → -100000000 ≤ T k t ∧ T k t ≤ 100000000 from fun t ht => by
    have h1 := hO.bags.small hT hO.wr hk ht.2
    have h2 := hO.nN
    omega)
  have Hbst := Lib.hid (hO.bags.choice (W := d.W) hi hk hs (T k))
  have Hbw := Lib.hid (show -12000000 ≤ bothW d.W (bagA d.bs i) (bagA d.bs k) s ∧ bothW d.W (bagA d.bs i) (bagA d.bs k) s ≤ 12000000 from by
    have h1 : -(((bagA d.bs i).length : Int) * 1000000) ≤ bothW d.W (bagA d.bs i) (bagA d.bs k) s ∧ bothW d.W (bagA d.bs i) (bagA d.bs k) s ≤ ((bagA d.bs i).length : Int) * 1000000 := bothW_at (b := bagA d.bs k) (s := s) hO.wr (hO.bags.lt i hi) (Nat.le_refl _)
    have h2 := hO.n12 i hi
    omega)
  obtain ⟨M, hMe⟩ : ∃ M, d.bs.length = M := ⟨_, rfl⟩
  have HM := Lib.hid hMe
  have ce := hE.ce
  have cb := hE.cb
  rw [hMe] at ce
  obtain ⟨bb, ob, ri, ⟨cbb, hbv⟩, cri, hri⟩ := hE.hb.form_at (k := i) (by rw [List.length_map]; exact hi)
  obtain ⟨bb2, ob2, rk, ⟨cbb2, hbv2⟩, crk, hrk⟩ := hE.hb.form_at (k := k) (by rw [List.length_map]; exact hk)
  rw [hbv] at hbv2
  simp only [Value.slice.injEq, Option.some.injEq, Addr.mk.injEq, and_true, true_and] at hbv2
  obtain ⟨⟨rfl, rfl⟩, rfl⟩ := hbv2
  rw [hbv, List.length_map, hMe] at cb
  rw [map_ints_getD] at hri hrk
  have Hri := Lib.hid hri; have Hrk := Lib.hid hrk
  have Cb := Lib.hid (And.intro cb (And.intro cri crk))
  have hiM : i < M := by omega
  have hkM : k < M := by omega
  have HiK := Lib.hid (And.intro hi hk)
  have Hs := Lib.hid (And.intro hs hs2)
  obtain ⟨K, hKe⟩ : ∃ K, d.K = K := ⟨_, rfl⟩
  have HK := Lib.hid hKe
  obtain ⟨E, hEe⟩ : ∃ E, d.E = E := ⟨_, rfl⟩
  rw [hKe, hEe] at ce
  rw [hKe] at cb Cb
  rw [hEe] at hc
  rw [hKe]
  clear hE hO hh hT hs hs2 hbv hri hrk hMe hi hk hKe hEe cri crk cb
  go_enter Tryd.func59, Tryd.ntmps59
  go_wp2_with (at_range; refine wpList_range_own _ rfl _ 77 rfl 3 3 intKeyedS Tryd.underlying77 _ mb n D rfl hown ?_; intro w0 hrg0 hg0 hs0)
  have hb0 := below_grown0 hg0
  have Hrg0 := Lib.hid hrg0; have Hb0 := Lib.hid hb0
  clear ce hc hown hrg0 hg0 hs0 hb0
  go_frame
  go_loopw [10, 11] (fun s10 s11 wr => ∃ (left : Lit → Bool) (cnt : Nat) (a m : Int), s10 = .int .i64 a ∧ s11 = .int .i64 m ∧ CB (CandP d k) (fun t => AgreeM (bagA d.bs i) (bagA d.bs k) s t) (fun t => T k t - bothW d.W (bagA d.bs i) (bagA d.bs k) s) left a m ∧ ChSt d w wr mb n D left cnt) (fun _ _ wr => wr.rangeLeft mb w.heap.size)
  case atStart => exact ⟨_, _, -1, 0, rfl, rfl, .inl ⟨rfl, rfl, fun t ht hl => by rw [(Hh.out.at' t ht).1] at hl; cases hl⟩, Hrg0.out, fun _ h => h, Hb0.out⟩
  case round =>
    obtain ⟨left, cnt, a, m, rfl, rfl, hcb, hst⟩ := hrel
    have Hcb := Lib.hid hcb; have Hst := Lib.hid hst
    have hrg := hst.rg
    clear hcb hst
    go_wp2_with (first
      | (at_next; refine wpList_next_ranges_ii _ rfl _ rfl 3 3 .i64 .i64 intKeyedS Tryd.underlying3 Tryd.underlying3 mb w.heap.size n D _ _ rfl hrg ?_ ?_)
      | go_in)
    · intro hc0 hl0
      have Hfin := Lib.hid (Hcb.out.done hl0 (n := 2 ^ (bagA d.bs k).length) (t := chT d.G d.W d.bs i s k (T k)) ⟨Hbst.out.lt, ⟨⟨Hbst.out.lt, Hbst.out.ok.1⟩, Hbst.out.ok.2⟩, fun t' h1 h2 => Hbst.out.max t' h1 ⟨h2.1.2, h2.2⟩⟩ fun t h => h.1)
      have e1 := Hfin.out.1
      have e2 : m = chV d.G d.W d.bs i s k (T k) := Hfin.out.2
      subst e1 e2
      go_wp2
      exact bodyPost_ret (v := .tuple #[.int .i64 (chT d.G d.W d.bs i s k (T k) : Int), .int .i64 (chV d.G d.W d.bs i s k (T k))]) (by simp [results, Tryd.results59, go_sem]) rfl ⟨rfl, Hst.out.hb⟩
    · intro x c w1 cnt1 hx hc hlk hat hrg1 hlt1 hg1 hs1 hen
      obtain ⟨t, htp, hte⟩ := Hh.out.keys _ (Hst.out.has _ hlk)
      obtain rfl : x = (t : Int) := by simp only [Lit.int.injEq, true_and] at hte; exact hte
      have hct : c = T k t := by
        have h1 := hat (.lit (.int .i64 0))
        rw [(Hh.out.at' t htp).2] at h1
        simp only [DataW.lit.injEq, Lit.int.injEq, true_and] at h1
        exact h1.symm
      have Hct := Lib.hid hct
      have hcb := HB.out t htp
      rw [← hct] at hcb
      have hbw1 : Below w.heap.size w w1 := Hst.out.hb.grown hg1 Hst.out.hb.size (fun g e => by have := Option.some.inj e; omega)
      have hsz1 : w.heap.size ≤ w1.heap.size := hbw1.size
      obtain ⟨cg, hcg⟩ : ∃ cg : Bool, cg = true ↔ AgreeM (bagA d.bs i) (bagA d.bs k) s t := by
        by_cases h : AgreeM (bagA d.bs i) (bagA d.bs k) s t
        · exact ⟨true, fun _ => h, fun _ => rfl⟩
        · exact ⟨false, fun h2 => (by cases h2), fun h2 => absurd h2 h⟩
      obtain ⟨y, hy⟩ : ∃ y : Int, y = if cg = true then bothW d.W (bagA d.bs i) (bagA d.bs k) s else 0 := ⟨_, rfl⟩
      have Hag := Lib.hid (fun q => agree_is d (bagA d.bs i) (bagA d.bs k) s t ri rk (w1.drewN q) ((HE.out.below hbw1).below (Below.drewN' (Below.refl _ _) q)) HO.out.nN HO.out.wl HO.out.wr ((Hri.out.below hbw1).below (Below.drewN' (Below.refl _ _) q)) ((Hrk.out.below hbw1).below (Below.drewN' (Below.refl _ _) q)) (HO.out.bags.lt i HiK.out.1) (HO.out.n12 i HiK.out.1) (HO.out.n12 k HiK.out.2) (HO.out.bags.nd k HiK.out.2) Hs.out.2 htp.1 cg y hcg hy)
      have cb := below_cell hbw1 Cb.out.1
      have cri := below_cell hbw1 Cb.out.2.1
      have crk := below_cell hbw1 Cb.out.2.2
      have Htp := Lib.hid htp; have Hcg := Lib.hid hcg; have Hlt1 := Lib.hid hlt1
      have hyb : -12000000 ≤ y ∧ y ≤ 12000000 := by
        have h1 := Hbw.out
        rw [hy]; split <;> omega
      have Hy := Lib.hid hy
      have Hsk := Lib.hid (fun (h : ¬ AgreeM (bagA d.bs i) (bagA d.bs k) s t) => CB.skip Hcb.out h)
      have Hst1 := Lib.hid (fun q => show ChSt d w (w1.drewN q) mb n D (fun z => left z && !z.sameKey (.int .i64 (t : Int))) cnt1 from ⟨hrg1, fun l hl => Hst.out.has l (by simp only [Bool.and_eq_true] at hl; exact hl.1), hbw1.trans (Below.drewN' (Below.refl _ _) q)⟩)
      rw [HK.out] at Hag
      clear hct htp hlk hat hrg1 hlt1 hg1 hs1 hcg hy hte hx hc
      go_upto_region 5 with fail
      go_quiet ((go_at_call 73; exact Calls.quiet_of (Hag.out _)))
      have Hs2 := Lib.hid (Hst1.out nq)
      have hwr0 : IntKind.i64.wrap (c - y) = c - y := wrapI (by omega) (by omega)
      clear hen cb cri crk Hag
      generalize w1.drewN nq = w7 at *
      cases cg with
      | false =>
        have Hs3 := Lib.hid (Hsk.out fun h => by have := Hcg.out.2 h; cases this)
        go_wp2
        go_roundw
        case rel => exact ⟨_, _, _, _, rfl, rfl, Hs3.out, Hs2.out⟩
        case measure => rw [Hs2.out.rg.left_eq, Hst.out.rg.left_eq]; exact Hlt1.out
      | true =>
        have Hagr := Lib.hid (Hcg.out.1 rfl)
        have Hf := Lib.hid (show T k t - bothW d.W (bagA d.bs i) (bagA d.bs k) s = c - y from by rw [Hct.out, Hy.out, if_pos rfl])
        have Htake := Lib.hid (fun (h : a < 0 ∨ m < c - y ∨ (c - y = m ∧ (t : Int) < a)) => show CB (CandP d k) (fun t => AgreeM (bagA d.bs i) (bagA d.bs k) s t) (fun t => T k t - bothW d.W (bagA d.bs i) (bagA d.bs k) s) (fun z => left z && !z.sameKey (.int .i64 (t : Int))) (t : Int) (c - y) from by
          have h1 := CB.take (f := fun t => T k t - bothW d.W (bagA d.bs i) (bagA d.bs k) s) Hcb.out (t := t) Htp.out Hagr.out (by rw [Hf.out]; exact h)
          rw [Hf.out] at h1
          exact h1)
        have Hkeep := Lib.hid (fun (h0 : ¬ a < 0) (h : c - y < m ∨ (c - y = m ∧ a ≤ (t : Int))) => show CB (CandP d k) (fun t => AgreeM (bagA d.bs i) (bagA d.bs k) s t) (fun t => T k t - bothW d.W (bagA d.bs i) (bagA d.bs k) s) (fun z => left z && !z.sameKey (.int .i64 (t : Int))) a m from by
          obtain ⟨A, rfl⟩ := Int.eq_ofNat_of_zero_le (show 0 ≤ a by omega)
          exact CB.keep Hcb.out (by rw [Hf.out]; rcases h with h | ⟨h, h'⟩ <;> omega))
        by_cases ha : a < 0
        · have Hs3 := Lib.hid (Htake.out (.inl ha))
          go_wp2
          go_roundw
          case rel => exact ⟨_, _, _, _, rfl, rfl, Hs3.out, Hs2.out⟩
          case measure => rw [Hs2.out.rg.left_eq, Hst.out.rg.left_eq]; exact Hlt1.out
        · by_cases hm : m < c - y
          · have Hs3 := Lib.hid (Htake.out (.inr (.inl hm)))
            go_wp2
            go_roundw
            case rel => exact ⟨_, _, _, _, rfl, rfl, Hs3.out, Hs2.out⟩
            case measure => rw [Hs2.out.rg.left_eq, Hst.out.rg.left_eq]; exact Hlt1.out
          · by_cases he : c - y = m
            · by_cases ht : (t : Int) < a
              · have Hs3 := Lib.hid (Htake.out (.inr (.inr ⟨he, ht⟩)))
                have heb : (c - y == m) = true := by simp [he]
                clear he
                go_wp2
                go_roundw
                case rel => exact ⟨_, _, _, _, rfl, rfl, Hs3.out, Hs2.out⟩
                case measure => rw [Hs2.out.rg.left_eq, Hst.out.rg.left_eq]; exact Hlt1.out
              · have Hs3 := Lib.hid (Hkeep.out ha (.inr ⟨he, by omega⟩))
                have heb : (c - y == m) = true := by simp [he]
                clear he
                go_wp2
                go_roundw
                case rel => exact ⟨_, _, _, _, rfl, rfl, Hs3.out, Hs2.out⟩
                case measure => rw [Hs2.out.rg.left_eq, Hst.out.rg.left_eq]; exact Hlt1.out
            · have Hs3 := Lib.hid (Hkeep.out ha (.inl (by omega)))
              have heb : (c - y == m) = false := by simp [he]
              clear he
              go_wp2
              go_roundw
              case rel => exact ⟨_, _, _, _, rfl, rfl, Hs3.out, Hs2.out⟩
              case measure => rw [Hs2.out.rg.left_eq, Hst.out.rg.left_eq]; exact Hlt1.out
end Go.Proofs.YtnmljgjegodkaaaDoor
namespace Go.Proofs.YtnmljgjegodkaaaDoor
open Go Go.RowKit Go.Maps

def UpPost (d : WkD) (u : List Int) (T : Nat → Nat → Int) (don : Nat → Prop) (i : Nat) (w : World) (e : Ending) (w' : World) : Prop :=
  e = .returned (.tuple #[]) ∧ Chg (· = d.E) w w' ∧ BestS d T w' w'.heap.size (fun q => don q ∨ Hng u i q)
set_option maxHeartbeats 6400000 in
set_option maxRecDepth 100000 in
theorem up_step (d : WkD) (l : List (Int × Int)) (u : List Int) (T : Nat → Nat → Int) (hO : WkOk d l u) (hT : TOk d.G d.W d.bs u T) (i : Nat) (hi : i < d.bs.length)
    (ih : ∀ c, c < d.bs.length → u.getD c 0 = (i : Int) → ∀ don w, StE d.E (WkF d) w → BestS d T w w.heap.size don → Calls Tryd.prog 45 #[.pointer (some ⟨d.K, 0, none⟩), .int .i64 (c : Int)] w (UpPost d u T don c w))
    (don : Nat → Prop) (w : World) (hE : StE d.E (WkF d) w) (hS : BestS d T w w.heap.size don) :
    Calls Tryd.prog 45 #[.pointer (some ⟨d.K, 0, none⟩), .int .i64 (i : Int)] w (UpPost d u T don i w) := by
  have HO := Lib.hid hO; have HT := Lib.hid hT; have Hih := Lib.hid ih; have HE := Lib.hid hE; have HS := Lib.hid hS; have Hi := Lib.hid hi
  have hmm := @run_makeMap Tryd.prog
  have hul := hO.bags.ul
  obtain ⟨M, hMe⟩ : ∃ M, d.bs.length = M := ⟨_, rfl⟩
  have HM := Lib.hid hMe
  have hM100 : M ≤ 100 := by have := hO.nM; omega
  have hiM : i < M := by omega
  obtain ⟨K, hKe⟩ : ∃ K, d.K = K := ⟨_, rfl⟩
  have HK := Lib.hid hKe
  obtain ⟨E, hEe⟩ : ∃ E, d.E = E := ⟨_, rfl⟩
  have HEE := Lib.hid hEe
  obtain ⟨ks, hks⟩ : ∃ ks, d.ks.getD i [] = ks := ⟨_, rfl⟩
  have hkf := hO.kid i hi
  rw [hks, hMe] at hkf
  have Hks := Lib.hid hks
  have Hkf := Lib.hid hkf
  have hkM : ks.length ≤ 100 := by
    rw [hkf]
    have h1 := List.length_filter_le (fun k => decide (u.getD k 0 = (i : Int))) (List.range M)
    rw [List.length_range] at h1
    omega
  have Hkid := Lib.hid (show ∀ q, q < ks.length → ks.getD q 0 < M ∧ u.getD (ks.getD q 0) 0 = (i : Int) from fun q hq => by
    have h1 := at_mem hq
    rw [hkf, List.mem_filter, List.mem_range, decide_eq_true_eq] at h1
    rw [hkf]
    exact h1)
  have Hall := Lib.hid (show ∀ c, c < M → u.getD c 0 = (i : Int) → ∃ q, q < ks.length ∧ ks.getD q 0 = c from fun c hc hu => mem_at (by rw [hkf, List.mem_filter, List.mem_range, decide_eq_true_eq]; exact ⟨hc, hu⟩))
  obtain ⟨hri, lb, lo, lc, hlv, crl⟩ := hE.now.rl i hi
  rw [hks] at hri
  have cl := hE.now.cl
  rw [hlv, hMe, hKe] at cl
  obtain ⟨ar, cr, hrv⟩ : ∃ ar cr, d.rlv i = .slice ar ks.length cr := by
    obtain ⟨a', c', b', o', er, _⟩ := hri
    rw [ints_length] at er
    exact ⟨a', c', er⟩
  rw [hrv] at crl hri
  have Hrv := Lib.hid hrv
  rw [hKe]
  obtain ⟨nk, hnk⟩ : ∃ nk, ks.length = nk := ⟨_, rfl⟩
  have Hnk := Lib.hid hnk
  rw [hnk] at hkM crl hri
  clear hO hT ih hE hS hi hMe hKe hEe hks hkf hri hlv hrv hnk hul
  go_enter Tryd.func45, Tryd.ntmps45
  go_upto_region 1 with fail
  clear cl crl
  go_loopg [22] nk (fun g s22 wr => ∃ q : Nat, q ≤ nk ∧ g = nk - q ∧ s22 = .int .i64 (q : Int) ∧ Chg (· = d.E) w wr ∧ BestS d T wr wr.heap.size (fun x => don x ∨ ∃ q', q' < q ∧ Hng u (ks.getD q' 0) x))
  case atStart => exact ⟨0, Nat.zero_le _, rfl, rfl, Chg.refl _ _, HS.out.congr fun q _ h => h.elim id fun ⟨q', h, _⟩ => absurd h (Nat.not_lt_zero _)⟩
  case round =>
    obtain ⟨q, hq, rfl, rfl, hch, hbs⟩ := hrel
    have Hch := Lib.hid hch; have Hbs := Lib.hid hbs
    have HE2 := Lib.hid (HE.out.chg hch)
    clear hch hbs
    by_cases hqn : q < nk
    · have hri := (HE2.out.now.rl i Hi.out).1
      rw [Hks.out, Hrv.out, Hnk.out] at hri
      obtain ⟨b2, o2, rfl, cx⟩ := hri.atF (show q < (ints ks).length by rw [ints_length, Hnk.out]; exact hqn)
      rw [ints_at_nat] at cx
      obtain ⟨hc1, hc2⟩ := Hkid.out q (by rw [Hnk.out]; exact hqn)
      have Hrec := Lib.hid (Hih.out (ks.getD q 0) (by rw [HM.out]; exact hc1) hc2 (fun x => don x ∨ ∃ q', q' < q ∧ Hng u (ks.getD q' 0) x) wr HE2.out Hbs.out)
      rw [HK.out] at Hrec
      have Hq1 := Lib.hid (show ∀ x, (don x ∨ ∃ q', q' < q + 1 ∧ Hng u (ks.getD q' 0) x) → ((don x ∨ ∃ q', q' < q ∧ Hng u (ks.getD q' 0) x) ∨ Hng u (ks.getD q 0) x) from fun x h => by
        rcases h with h | ⟨q', h1, h2⟩
        · exact .inl (.inl h)
        · by_cases e : q' = q
          · subst e; exact .inr h2
          · exact .inl (.inr ⟨q', by omega, h2⟩))
      generalize ks.getD q 0 = c at *
      clear hri hc2
      go_wp2_with (go_at_call 45; refine Hrec.out.mono ?_; rintro e w5 ⟨rfl, hch5, hbs5⟩; have Hch5 := Lib.hid (Hch.out.trans hch5); have Hbs5 := Lib.hid (hbs5.congr fun x _ h => Hq1.out x h); clear hch5 hbs5)
      go_roundg (nk - (q + 1))
      case measure => go_light; omega
      case rel => exact ⟨q + 1, by omega, rfl, by go_num, Hch5.out, Hbs5.out⟩
    · obtain rfl : nk = q := by omega
      have hW := HE2.out.now
      have ce := hW.ce
      rw [HK.out, HEE.out, HM.out] at ce
      obtain ⟨L, hLe⟩ : ∃ L, (bagA d.bs i).length = L := ⟨_, rfl⟩
      have HL := Lib.hid hLe
      have hL12 : L ≤ 12 := by rw [← hLe]; exact HO.out.n12 i Hi.out
      obtain ⟨val, hrow, hdone⟩ := Hbs.out.row
      have cei := hrow.cell (show i < d.bs.length from Hi.out)
      have fei := hrow.frozen i
      have lei := hrow.lt
      have hB0 := Hbs.out.lo
      have hf0 := Hbs.out.fresh (i := i) (.map (some wr.heap.size)) rfl (.map #[] 0)
      have hm0 := SMap.made (wr.setCell ⟨d.E, i, none⟩ (.map (some wr.heap.size))) (T i)
      rw [size_setCell] at hm0
      have hchE : Chg (· = d.E) wr ((wr.setCell ⟨d.E, i, none⟩ (.map (some wr.heap.size))).alloc (.map #[] 0)) := ((Chg.refl (· = d.E) wr).setCell (p := ⟨d.E, i, none⟩) (fun _ => rfl) _).alloc _
      have hrow5 := ((hrow.set i (.map (some wr.heap.size))).alloc (.map #[] 0)).cell (show i < d.bs.length from Hi.out)
      rw [if_pos rfl] at hrow5
      have hz5 : ((wr.setCell ⟨d.E, i, none⟩ (.map (some wr.heap.size))).alloc (.map #[] 0)).heap.size = wr.heap.size + 1 := by rw [World.size_alloc, size_setCell]
      have Hcw := Lib.hid hchE; have Hf0 := Lib.hid hf0; have Hm0 := Lib.hid hm0; have Hc5 := Lib.hid hrow5; have Hz5 := Lib.hid hz5; have HB0 := Lib.hid hB0
      rw [HEE.out] at cei fei lei Hf0 Hm0 Hc5 Hcw Hz5
      clear hW hrow hdone hf0 hm0 hchE hrow5 hLe hz5 hB0
      generalize val i = vi at *
      go_upto_region 6 with fail
      clear ce cei fei lei
      generalize (wr.setCell ⟨E, i, none⟩ (.map (some wr.heap.size))).alloc (.map #[] 0) = w5 at *
      have HWx := Lib.hid (show ∀ wx, Below wr.heap.size w5 wx → WkF d wx from fun wx hb => (HE2.out.chg (by rw [HEE.out]; exact Hcw.out.thenB hb)).now)
      have Hch6 := Lib.hid (show ∀ wx, Below wr.heap.size w5 wx → Chg (· = d.E) w wx from fun wx hb => by
        have h1 := Hch.out
        rw [HEE.out] at h1 ⊢
        exact h1.trans (Hcw.out.thenB hb))
      generalize wr.heap.size = B at *
      obtain ⟨bb, bo, bc, ab, cab, cb, crb, hrbv, -⟩ := (HWx.out w5 (Below.refl _ _)).bag Hi.out
      rw [HK.out, HM.out] at cb
      rw [HL.out] at crb
      have Hrbv := Lib.hid hrbv
      have esh := op_shl (show L < 62 by omega)
      have hP : pow2 L ≤ 4096 := by
        have h1 : pow2 L ≤ 2 ^ 12 := Nat.pow_le_pow_right (by omega) hL12
        exact h1
      have HP := Lib.hid (show pow2 L = 2 ^ L from rfl)
      clear hrbv
      go_upto_region 7 with fail
      generalize pow2 L = P at *
      clear cb crb
      go_loopg [46] P (fun g s46 wx => ∃ s n : Nat, s ≤ P ∧ g = P - s ∧ s46 = .int .i64 (s : Int) ∧ n ≤ s ∧ Below B w5 wx ∧ SMap wx B n (fun t => t < s ∧ LooseM d.G (bagA d.bs i) t) (T i))
      case atStart => exact ⟨0, 0, Nat.zero_le _, rfl, rfl, Nat.le_refl _, Below.refl _ _, Hm0.out.congr (fun t => ⟨fun h => h.elim, fun h => absurd h.1 (Nat.not_lt_zero _)⟩) fun t h => h.elim⟩
      case round =>
        obtain ⟨s, n, hs, rfl, rfl, hns, hb, hm⟩ := hrel
        have Hb := Lib.hid hb; have Hm := Lib.hid hm
        clear hb hm
        by_cases hsP : s < P
        · have HW := Lib.hid (HWx.out wr Hb.out)
          obtain ⟨bb2, bo2, bc2, ab2, cab2, cb, crb, hrbv, hrb⟩ := HW.out.bag Hi.out
          rw [HK.out, HM.out] at cb
          rw [HL.out] at crb hrb
          have Hrb := Lib.hid hrb
          have Hs2 := Lib.hid (show s < 2 ^ (bagA d.bs i).length by rw [HL.out, ← HP.out]; exact hsP)
          have Hlo := Lib.hid (loose_any d (bagA d.bs i) s (.slice ab2 L cab2) wr HW.out HO.out.nN hrb (HO.out.bags.lt i Hi.out) (HO.out.n12 i Hi.out) Hs2.out)
          rw [HK.out] at Hlo
          clear hrbv hrb
          go_wp2_with fail
          apply Calls.mono Hlo.out
          rintro e w6 ⟨bl, hbl, rfl, hw6⟩
          subst hw6
          have Hbl := Lib.hid hbl
          clear hbl Hlo
          cases bl with
          | false =>
            have Hm2 := Lib.hid (Hm.out.congr (q := fun t => t < s + 1 ∧ LooseM d.G (bagA d.bs i) t) (U := T i) (fun t => by
              constructor
              · exact fun h => ⟨by omega, h.2⟩
              · rintro ⟨h1, h2⟩
                refine ⟨?_, h2⟩
                by_cases e : t = s
                · subst e; have := Hbl.out.2 h2; cases this
                · omega) fun _ _ => rfl)
            go_wp2
            go_roundg (P - (s + 1))
            case measure => go_light; omega
            case rel => exact ⟨s + 1, n, by omega, rfl, by go_num, by omega, Hb.out, Hm2.out⟩
          | true =>
            have Hl := Lib.hid (Hbl.out.1 rfl)
            have hSf : Few s := by
              rw [Few, few_two]
              omega
            obtain ⟨F3, hF3⟩ : ∃ F3 : Nat → Int, F3 = fun j => if s.testBit j = true then d.W ((bagA d.bs i).getD j 0) else 0 := ⟨_, rfl⟩
            have HF3 := Lib.hid hF3
            have Hb3 := Lib.hid (show ∀ q, q ≤ L → -(q * 1000000 : Int) ≤ sumI F3 q ∧ sumI F3 q ≤ q * 1000000 from fun q hq => by
              rw [hF3]
              exact sumI_bound fun j hj => by
                have := HO.out.wr _ (HO.out.bags.lt i Hi.out _ (at_mem (show j < (bagA d.bs i).length by rw [HL.out]; omega)))
                split <;> omega)
            clear hF3
            go_upto_region 12 with fail
            go_loopg [7, 68] L (fun g s7 s68 wy => ∃ j : Nat, j ≤ L ∧ g = L - j ∧ s68 = .int .i64 (j : Int) ∧ s7 = .int .i64 (sumI F3 j) ∧ wy = w6)
            case atStart => exact ⟨0, Nat.zero_le _, rfl, rfl, rfl, rfl⟩
            case round =>
              obtain ⟨j, hj, rfl, rfl, rfl, rfl⟩ := hrel
              have hbo := Hb3.out j hj
              have Hs3 := Lib.hid (show sumI F3 (j + 1) = sumI F3 j + F3 j from rfl)
              have HFj := Lib.hid (show F3 j = if s.testBit j = true then d.W ((bagA d.bs i).getD j 0) else 0 from by rw [HF3.out])
              by_cases hjL : j < L
              · obtain ⟨z, hz⟩ : ∃ z, sumI F3 j = z := ⟨_, rfl⟩
                have Hz := Lib.hid hz
                rw [hz] at hbo Hs3
                rw [hz]
                obtain ⟨b3, o3, rfl, cx⟩ := Hrb.out.atF (show j < (ints (bagA d.bs i)).length by rw [ints_length, HL.out]; exact hjL)
                rw [ints_at_nat] at cx
                have hvN : (bagA d.bs i).getD j 0 < d.N := HO.out.bags.lt i Hi.out _ (at_mem (by rw [HL.out]; exact hjL))
                have hWv := HO.out.wr _ hvN
                generalize (bagA d.bs i).getD j 0 = v at *
                have e3 := op_shr s j
                clear hz
                cases h1 : s.testBit j with
                | true =>
                  have e4 : bits .and .i64 (shr s j : Int) 1 = 1 := by rw [op_bit hSf, bit_one h1]; rfl
                  have Hs4 := Lib.hid (show sumI F3 (j + 1) = z + d.ws.getD v 0 from by rw [Hs3.out, HFj.out, if_pos h1])
                  obtain ⟨b4, o4, ⟨cv, hwv⟩, cwv⟩ := HW.out.hw.form_at (k := v) (by rw [HO.out.wl]; exact hvN)
                  have cw := HW.out.cw
                  rw [hwv, HK.out] at cw
                  have hvl : (v : Int) < (d.ws.length : Int) := by rw [HO.out.wl]; omega
                  have hyb : -1000000 ≤ d.ws.getD v 0 ∧ d.ws.getD v 0 ≤ 1000000 := hWv
                  generalize d.ws.getD v 0 = y at *
                  have hwr : IntKind.i64.wrap (z + y) = z + y := wrapI (by omega) (by omega)
                  clear h1 hwv hWv
                  go_wp2
                  go_roundg (L - (j + 1))
                  case measure => go_light; omega
                  case rel => exact ⟨j + 1, by omega, rfl, by go_num, by rw [Hs4.out], rfl⟩
                | false =>
                  have e4 : bits .and .i64 (shr s j : Int) 1 = 0 := by rw [op_bit hSf, bit_zero h1]; rfl
                  have Hs4 := Lib.hid (show sumI F3 (j + 1) = z from by rw [Hs3.out, HFj.out, if_neg (by rw [h1]; decide), Int.add_zero])
                  clear h1
                  go_wp2
                  go_roundg (L - (j + 1))
                  case measure => go_light; omega
                  case rel => exact ⟨j + 1, by omega, rfl, by go_num, by rw [Hs4.out], rfl⟩
              · obtain rfl : L = j := by omega
                obtain ⟨z0, hz0⟩ : ∃ z0, sumI F3 L = z0 := ⟨_, rfl⟩
                have Hz0 := Lib.hid (show wsum d.W (bagA d.bs i) s = z0 from by rw [← hz0, HF3.out]; unfold wsum; rw [HL.out])
                rw [hz0] at hbo
                rw [hz0]
                have hz0b : -12000000 ≤ z0 ∧ z0 ≤ 12000000 := by omega
                clear hz0 hbo Hs3 HFj cb crb
                obtain ⟨F4, hF4⟩ : ∃ F4 : Nat → Int, F4 = fun q => chV d.G d.W d.bs i s (ks.getD q 0) (T (ks.getD q 0)) := ⟨_, rfl⟩
                have HF4 := Lib.hid hF4
                have hbF : ∀ q, q < ks.length → -112000000 ≤ F4 q ∧ F4 q ≤ 112000000 := fun q hq => by
                  obtain ⟨hc1, hc2⟩ := Hkid.out q hq
                  have hc3 : ks.getD q 0 < d.bs.length := by rw [HM.out]; exact hc1
                  have h1 := HO.out.bags.choice (W := d.W) Hi.out hc3 Hl.out (T (ks.getD q 0))
                  have h2 := HO.out.bags.small HT.out HO.out.wr hc3 h1.ok.1
                  have h3 : -(((bagA d.bs i).length : Int) * 1000000) ≤ bothW d.W (bagA d.bs i) (bagA d.bs (ks.getD q 0)) s ∧ bothW d.W (bagA d.bs i) (bagA d.bs (ks.getD q 0)) s ≤ ((bagA d.bs i).length : Int) * 1000000 := bothW_at (b := bagA d.bs (ks.getD q 0)) (s := s) HO.out.wr (HO.out.bags.lt i Hi.out) (Nat.le_refl _)
                  have h4 := HO.out.nN
                  rw [HL.out] at h3
                  have h5 : F4 q = T (ks.getD q 0) (chT d.G d.W d.bs i s (ks.getD q 0) (T (ks.getD q 0))) - bothW d.W (bagA d.bs i) (bagA d.bs (ks.getD q 0)) s := by rw [hF4]; rfl
                  rw [h5]
                  omega
                have Hb4 := Lib.hid (show ∀ q : Nat, q ≤ nk → -((q : Int) * 112000000) ≤ sumI F4 q ∧ sumI F4 q ≤ (q : Int) * 112000000 from fun q hq => sumI_bound fun j hj => hbF j (by rw [Hnk.out]; omega))
                have Htot := Lib.hid (show z0 + sumI F4 nk = T i s from by
                  rw [HT.out i Hi.out s, Hz0.out]
                  congr 1
                  have h1 := kid_sum (fun k => u.getD k 0 = (i : Int)) (fun k => chV d.G d.W d.bs i s k (T k)) M
                  rw [← Hkf.out, Hnk.out] at h1
                  rw [HM.out, ← h1, hF4])
                have HT1 := Lib.hid (show -100000000 ≤ T i s ∧ T i s ≤ 100000000 from by
                  have h1 := HO.out.bags.small HT.out HO.out.wr Hi.out Hl.out
                  have h2 := HO.out.nN
                  omega)
                clear hF4 hbF
                obtain ⟨lb2, lo2, lc2, al2, cal2, cl, crl, hrlv, hrl⟩ := HW.out.low Hi.out
                rw [HK.out, HM.out] at cl
                rw [Hks.out, Hnk.out] at crl hrl
                have Hrl := Lib.hid hrl
                clear hrlv hrl
                go_upto_region 18 with fail
                clear cl crl
                go_loopg [7, 96] nk (fun g s7 s96 wy => ∃ q : Nat, q ≤ nk ∧ g = nk - q ∧ s96 = .int .i64 (q : Int) ∧ s7 = .int .i64 (z0 + sumI F4 q) ∧ Below wr.heap.size wr wy)
                case atStart => exact ⟨0, Nat.zero_le _, rfl, rfl, by rw [sumI, Int.add_zero], Below.refl _ _⟩
                case round =>
                  obtain ⟨w8, rfl⟩ : ∃ w8 : World, w8 = wr := ⟨_, rfl⟩
                  obtain ⟨q, hq, rfl, rfl, rfl, hb4⟩ := hrel
                  have hbo := Hb4.out q hq
                  have Hs5 := Lib.hid (show sumI F4 (q + 1) = sumI F4 q + F4 q from rfl)
                  have HW4 := Lib.hid (HW.out.below hb4)
                  have Hb8 := Lib.hid hb4
                  have HbB := Lib.hid (show Below B w5 w8 from Hb.out.trans (hb4.mono (Nat.le_trans (by have := Hf0.out.hi; omega) Hb.out.size)))
                  by_cases hqn : q < nk
                  · obtain ⟨z, hz⟩ : ∃ z, sumI F4 q = z := ⟨_, rfl⟩
                    rw [hz] at hbo Hs5
                    rw [hz]
                    obtain ⟨b5, o5, rfl, cx⟩ := (Hrl.out.below hb4).atF (show q < (ints ks).length by rw [ints_length, Hnk.out]; exact hqn)
                    rw [ints_at_nat] at cx
                    obtain ⟨hc1, hc2⟩ := Hkid.out q (by rw [Hnk.out]; exact hqn)
                    have hc3 : ks.getD q 0 < d.bs.length := by rw [HM.out]; exact hc1
                    have hci : ks.getD q 0 ≠ i := fun e => by
                      rcases HO.out.bags.fit.ups (ks.getD q 0) (by rw [HO.out.bags.ul]; exact hc3) with h | ⟨_, _, h⟩
                      · rw [hc2] at h; omega
                      · exact h (by rw [hc2, e])
                    obtain ⟨mc, nc, hcc, hmc⟩ := (Hf0.out.below HbB.out).at hc3 ⟨.inr ⟨q, hqn, .refl⟩, hci⟩
                    have Hch := Lib.hid (choice_any d l u T HO.out HT.out i (ks.getD q 0) s mc nc w8 HW4.out Hi.out hc3 Hl.out Hs2.out hcc hmc)
                    rw [HK.out] at Hch
                    have hFq : F4 q = chV d.G d.W d.bs i s (ks.getD q 0) (T (ks.getD q 0)) := by rw [HF4.out]
                    rw [← hFq] at Hch
                    have hb5 := Hb4.out (q + 1) (by omega)
                    rw [Hs5.out] at hb5
                    generalize F4 q = y at *
                    generalize chT d.G d.W d.bs i s (ks.getD q 0) (T (ks.getD q 0)) = tq at *
                    generalize ks.getD q 0 = c at *
                    have hwr : IntKind.i64.wrap (z0 + z + y) = z0 + z + y := wrapI (by omega) (by omega)
                    clear hb4 hc2 hcc hmc hFq hci hz
                    go_wp2_with (go_at_call 59; refine Hch.out.mono ?_; rintro e w9 ⟨rfl, hb9⟩; have Hb9 := Lib.hid (Hb8.out.trans (hb9.mono Hb8.out.size)); clear hb9)
                    go_roundg (nk - (q + 1))
                    case measure => go_light; omega
                    case rel => exact ⟨q + 1, by omega, rfl, by go_num, by rw [Hs5.out, Int.add_assoc], Hb9.out⟩
                  · obtain rfl : nk = q := by omega
                    rw [Htot.out]
                    have hwf := WalkArith.wf_i64 (show -9223372036854775808 ≤ T i s ∧ T i s ≤ 9223372036854775807 by have := HT1.out; omega)
                    have Hm8 := Lib.hid (Hm.out.kept (hb4.block _ Hm.out.lt))
                    have ce := HW4.out.ce
                    rw [HK.out, HEE.out, HM.out] at ce
                    have cei : w8.cell? ⟨E, i, none⟩ = some (.map (some B)) := (World.cell?_of_block (a := ⟨E, i, none⟩) (HbB.out.block _ (by have := HB0.out; rw [HEE.out] at this; exact this))).trans Hc5.out
                    have hBs : B ≤ w8.heap.size := Nat.le_of_lt Hm8.out.lt
                    have Hp := Lib.hid (show ∀ t, (t = s ∨ (t < s ∧ LooseM d.G (bagA d.bs i) t)) ↔ (t < s + 1 ∧ LooseM d.G (bagA d.bs i) t) from fun t => by
                      constructor
                      · rintro (rfl | ⟨h1, h2⟩)
                        · exact ⟨by omega, Hl.out⟩
                        · exact ⟨by omega, h2⟩
                      · rintro ⟨h1, h2⟩
                        by_cases e : t = s
                        · exact .inl e
                        · exact .inr ⟨by omega, h2⟩)
                    have Hwf := Lib.hid hwf
                    clear hb4 hbo hwf
                    go_wp2_with (at_mapUpdate; refine wpList_put_st rfl _ _ _ rfl (b := B) rfl Hm8.out (s := s) (by omega) (by omega) rfl (T i s) rfl Hwf.out ?_; intro w9 hm9 hg9; have Hm9 := Lib.hid (hm9.congr Hp.out (U := T i) fun t _ => by by_cases e : t = s <;> simp [e]); have Hb9 := Lib.hid (show Below B w5 w9 from HbB.out.grown hg9 hBs (fun g e => by have := Option.some.inj e; omega)); clear hm9 hg9)
                    go_roundg (P - (s + 1))
                    case measure => go_light; omega
                    case rel => exact ⟨s + 1, n + 1, by omega, rfl, by go_num, by omega, Hb9.out, Hm9.out⟩
        · obtain rfl : s = P := by omega
          have Hfin := Lib.hid (show UpPost d u T don i w (.returned (.tuple #[])) wr from by
            refine ⟨rfl, Hch6.out wr Hb.out, ?_⟩
            have h1 := (Hf0.out.below Hb.out).add (i := i) (mb := B) (n := n) Hi.out (by
              have h2 := Hc5.out
              have h3 := HB0.out
              exact (World.cell?_of_block (a := ⟨d.E, i, none⟩) (Hb.out.block _ h3)).trans (by rw [HEE.out]; exact h2)) (Hm.out.congr (fun t => by rw [HL.out, ← HP.out]) fun _ _ => rfl)
            refine h1.congr fun x hx h => ?_
            by_cases e : x = i
            · exact .inr e
            · refine .inl ⟨?_, e⟩
              rcases h with h | h
              · exact .inl h
              · rcases h.kid with h | ⟨c, a1, a2, a3⟩
                · exact absurd h e
                · obtain ⟨q', hq', e'⟩ := Hall.out c (by rw [← HM.out, ← HO.out.bags.ul]; exact a1) a2
                  exact .inr ⟨q', by rw [← Hnk.out]; exact hq', by rw [e']; exact a3⟩)
          go_wp2
          exact bodyPost_end (v := .tuple #[]) (by simp [results, Tryd.results45, go_sem]) rfl Hfin.out
theorem up_any (d : WkD) (l : List (Int × Int)) (u : List Int) (T : Nat → Nat → Int) (hO : WkOk d l u) (hT : TOk d.G d.W d.bs u T) : ∀ (n i dep : Nat), d.bs.length - dep ≤ n → Clm u i dep → ∀ don w, StE d.E (WkF d) w → BestS d T w w.heap.size don →
    Calls Tryd.prog 45 #[.pointer (some ⟨d.K, 0, none⟩), .int .i64 (i : Int)] w (UpPost d u T don i w) := by
  have hul := hO.bags.ul
  intro n
  induction n with
  | zero =>
    intro i dep hn hd don w hE hS
    have hi := hd.lt
    exact up_step d l u T hO hT i (by omega) (fun c hc e don' w' _ _ => by have := (Clm.up (by omega) e hd).le; omega) don w hE hS
  | succ n ih =>
    intro i dep hn hd don w hE hS
    have hi := hd.lt
    exact up_step d l u T hO hT i (by omega) (fun c hc e don' w' hE' hS' => ih c (dep + 1) (by omega) (.up (by omega) e hd) don' w' hE' hS') don w hE hS
end Go.Proofs.YtnmljgjegodkaaaDoor
namespace Go.Proofs.YtnmljgjegodkaaaDoor
open Go Go.RowKit Go.Maps

def DownPost (d : WkD) (u : List Int) (T : Nat → Nat → Int) (wb : World) (R : Nat) (f : Nat → Bool) (i s : Nat) (e : Ending) (w' : World) : Prop :=
  e = .returned (.tuple #[]) ∧ Below wb.heap.size wb w' ∧ ∃ g : Nat → Bool, w'.rowIs R 4 d.N (rb g) ∧ ∀ v, v < d.N → (g v = true ↔ f v = true ∨ Dn d.G d.W d.bs u T i s v)
set_option maxHeartbeats 6400000 in
set_option maxRecDepth 100000 in
theorem down_step (d : WkD) (l : List (Int × Int)) (u : List Int) (T : Nat → Nat → Int) (hO : WkOk d l u) (hT : TOk d.G d.W d.bs u T) (wb : World) (R : Nat) (hWb : WkF d wb) (hSb : BestS d T wb wb.heap.size (fun _ => True)) (hR : wb.heap.size ≤ R) (i : Nat) (hi : i < d.bs.length)
    (ih : ∀ c, c < d.bs.length → u.getD c 0 = (i : Int) → ∀ t f w, LooseM d.G (bagA d.bs c) t → t < 2 ^ (bagA d.bs c).length → Below wb.heap.size wb w → w.rowIs R 4 d.N (rb f) →
      Calls Tryd.prog 46 #[.pointer (some ⟨d.K, 0, none⟩), .int .i64 (c : Int), .int .i64 (t : Int), .slice (some ⟨R, 0, none⟩) d.N d.N] w (DownPost d u T wb R f c t))
    (s : Nat) (f : Nat → Bool) (w : World) (hl : LooseM d.G (bagA d.bs i) s) (hs2 : s < 2 ^ (bagA d.bs i).length) (hb : Below wb.heap.size wb w) (hf : w.rowIs R 4 d.N (rb f)) :
    Calls Tryd.prog 46 #[.pointer (some ⟨d.K, 0, none⟩), .int .i64 (i : Int), .int .i64 (s : Int), .slice (some ⟨R, 0, none⟩) d.N d.N] w (DownPost d u T wb R f i s) := by
  have HO := Lib.hid hO; have HT := Lib.hid hT; have Hih := Lib.hid ih; have HWb := Lib.hid hWb; have HSb := Lib.hid hSb; have Hi := Lib.hid hi
  have Hl := Lib.hid hl; have Hs2 := Lib.hid hs2; have Hb := Lib.hid hb; have Hf := Lib.hid hf
  have hul := hO.bags.ul
  obtain ⟨M, hMe⟩ : ∃ M, d.bs.length = M := ⟨_, rfl⟩
  have HM := Lib.hid hMe
  have hM100 : M ≤ 100 := by have := hO.nM; omega
  have hiM : i < M := by omega
  obtain ⟨K, hKe⟩ : ∃ K, d.K = K := ⟨_, rfl⟩
  have HK := Lib.hid hKe
  obtain ⟨N, hNe⟩ : ∃ N, d.N = N := ⟨_, rfl⟩
  have HN := Lib.hid hNe
  have hN100 : N ≤ 100 := by have := hO.nN; omega
  obtain ⟨ks, hks⟩ : ∃ ks, d.ks.getD i [] = ks := ⟨_, rfl⟩
  have hkf := hO.kid i hi
  rw [hks, hMe] at hkf
  have Hks := Lib.hid hks
  have hkM : ks.length ≤ 100 := by
    rw [hkf]
    have h1 := List.length_filter_le (fun k => decide (u.getD k 0 = (i : Int))) (List.range M)
    rw [List.length_range] at h1
    omega
  have Hkid := Lib.hid (show ∀ q, q < ks.length → ks.getD q 0 < M ∧ u.getD (ks.getD q 0) 0 = (i : Int) from fun q hq => by
    have h1 := at_mem hq
    rw [hkf, List.mem_filter, List.mem_range, decide_eq_true_eq] at h1
    rw [hkf]
    exact h1)
  have Hall := Lib.hid (show ∀ c, c < M → u.getD c 0 = (i : Int) → ∃ q, q < ks.length ∧ ks.getD q 0 = c from fun c hc hu => mem_at (by rw [hkf, List.mem_filter, List.mem_range, decide_eq_true_eq]; exact ⟨hc, hu⟩))
  obtain ⟨L, hLe⟩ : ∃ L, (bagA d.bs i).length = L := ⟨_, rfl⟩
  have HL := Lib.hid hLe
  have hL12 : L ≤ 12 := by rw [← hLe]; exact hO.n12 i hi
  have hSf : Few s := few_mask hs2 (by omega)
  obtain ⟨nk, hnk⟩ : ∃ nk, ks.length = nk := ⟨_, rfl⟩
  have Hnk := Lib.hid hnk
  rw [hnk] at hkM
  obtain ⟨bb, bo, bc, ab, cab, cb, crb, hrbv, -⟩ := (hWb.below hb).bag hi
  have hrb := (hWb.rb i hi).1
  rw [hrbv] at hrb
  rw [hKe, hMe] at cb
  rw [hLe] at crb hrb
  have Hrb := Lib.hid hrb
  rw [hKe, hNe]
  clear hO hT ih hWb hSb hi hl hs2 hb hf hMe hKe hNe hks hkf hnk hul hLe hrb hrbv
  go_enter Tryd.func46, Tryd.ntmps46
  go_upto_region 1 with fail
  clear cb crb
  go_loopg [22] L (fun g s22 wr => ∃ (j : Nat) (fj : Nat → Bool), j ≤ L ∧ g = L - j ∧ s22 = .int .i64 (j : Int) ∧ Below wb.heap.size wb wr ∧ wr.rowIs R 4 d.N (rb fj) ∧ ∀ v, v < d.N → (fj v = true ↔ f v = true ∨ ∃ j', j' < j ∧ (bagA d.bs i).getD j' 0 = v ∧ s.testBit j' = true))
  case atStart => exact ⟨0, f, Nat.zero_le _, rfl, rfl, Hb.out, Hf.out, fun v _ => ⟨.inl, fun h => h.elim id fun ⟨j', h, _⟩ => absurd h (Nat.not_lt_zero _)⟩⟩
  case round =>
    obtain ⟨j, fj, hj, rfl, rfl, hb, hr, hfj⟩ := hrel
    have Hb2 := Lib.hid hb; have Hr := Lib.hid hr; have Hfj := Lib.hid hfj
    clear hb hr hfj
    by_cases hjL : j < L
    · obtain ⟨b3, o3, rfl, cx⟩ := (Hrb.out.below Hb2.out).atF (show j < (ints (bagA d.bs i)).length by rw [ints_length, HL.out]; exact hjL)
      rw [ints_at_nat] at cx
      have hvN : (bagA d.bs i).getD j 0 < d.N := HO.out.bags.lt i Hi.out _ (at_mem (by rw [HL.out]; exact hjL))
      obtain ⟨v, hv⟩ : ∃ v, (bagA d.bs i).getD j 0 = v := ⟨_, rfl⟩
      have Hv := Lib.hid hv
      rw [hv] at cx hvN
      have e3 := op_shr s j
      have cR := Hr.out.cell hvN
      have fR := Hr.out.frozen v
      have lR := Hr.out.lt
      rw [HN.out] at hvN
      clear hv
      cases h1 : s.testBit j with
      | true =>
        have e4 : bits .and .i64 (shr s j : Int) 1 = 1 := by rw [op_bit hSf, bit_one h1]; rfl
        have Hr2 := Lib.hid (row_set_rb Hr.out v true)
        have Hf2 := Lib.hid (show ∀ x, x < d.N → ((if x = v then true else fj x) = true ↔ f x = true ∨ ∃ j', j' < j + 1 ∧ (bagA d.bs i).getD j' 0 = x ∧ s.testBit j' = true) from fun x hx => by
          by_cases e : x = v
          · subst e
            rw [if_pos rfl]
            exact ⟨fun _ => .inr ⟨j, by omega, Hv.out, h1⟩, fun _ => rfl⟩
          · rw [if_neg e, Hfj.out x hx]
            constructor
            · rintro (h | ⟨j', a, b, c⟩)
              · exact .inl h
              · exact .inr ⟨j', by omega, b, c⟩
            · rintro (h | ⟨j', a, b, c⟩)
              · exact .inl h
              · by_cases e2 : j' = j
                · subst e2; exact absurd (b.symm.trans Hv.out) e
                · exact .inr ⟨j', by omega, b, c⟩)
        have Hb3 := Lib.hid (Hb2.out.setCell (p := ⟨R, v, none⟩) hR (.bool true))
        clear h1
        go_wp2
        go_roundg (L - (j + 1))
        case measure => go_light; omega
        case rel => exact ⟨j + 1, _, by omega, rfl, by go_num, Hb3.out, Hr2.out, Hf2.out⟩
      | false =>
        have e4 : bits .and .i64 (shr s j : Int) 1 = 0 := by rw [op_bit hSf, bit_zero h1]; rfl
        have Hf2 := Lib.hid (show ∀ x, x < d.N → (fj x = true ↔ f x = true ∨ ∃ j', j' < j + 1 ∧ (bagA d.bs i).getD j' 0 = x ∧ s.testBit j' = true) from fun x hx => by
          rw [Hfj.out x hx]
          constructor
          · rintro (h | ⟨j', a, b, c⟩)
            · exact .inl h
            · exact .inr ⟨j', by omega, b, c⟩
          · rintro (h | ⟨j', a, b, c⟩)
            · exact .inl h
            · by_cases e2 : j' = j
              · subst e2; rw [h1] at c; cases c
              · exact .inr ⟨j', by omega, b, c⟩)
        clear h1
        go_wp2
        go_roundg (L - (j + 1))
        case measure => go_light; omega
        case rel => exact ⟨j + 1, _, by omega, rfl, by go_num, Hb2.out, Hr.out, Hf2.out⟩
    · obtain rfl : L = j := by omega
      obtain ⟨lb2, lo2, lc2, al2, cal2, cl, crl, hrlv, -⟩ := (HWb.out.below Hb2.out).low Hi.out
      have hrl := (HWb.out.rl i Hi.out).1
      rw [hrlv, Hks.out, Hnk.out] at hrl
      rw [HK.out, HM.out] at cl
      rw [Hks.out, Hnk.out] at crl
      have Hrl := Lib.hid hrl
      have Hsel := Lib.hid (show ∀ v, v < d.N → (fj v = true ↔ f v = true ∨ SelP (bagA d.bs i) s v) from fun v hv => by
        rw [Hfj.out v hv]
        unfold SelP
        rw [HL.out])
      clear hrl hrlv
      go_upto_region 7 with fail
      clear cl crl
      go_loopg [44] nk (fun g s44 wr => ∃ (q : Nat) (fq : Nat → Bool), q ≤ nk ∧ g = nk - q ∧ s44 = .int .i64 (q : Int) ∧ Below wb.heap.size wb wr ∧ wr.rowIs R 4 d.N (rb fq) ∧ ∀ v, v < d.N → (fq v = true ↔ (f v = true ∨ SelP (bagA d.bs i) s v) ∨ ∃ q', q' < q ∧ Dn d.G d.W d.bs u T (ks.getD q' 0) (chT d.G d.W d.bs i s (ks.getD q' 0) (T (ks.getD q' 0))) v))
      case atStart => exact ⟨0, fj, Nat.zero_le _, rfl, rfl, Hb2.out, Hr.out, fun v hv => ⟨fun h => .inl ((Hsel.out v hv).1 h), fun h => (Hsel.out v hv).2 (h.elim id fun ⟨q', h, _⟩ => absurd h (Nat.not_lt_zero _))⟩⟩
      case round =>
        obtain ⟨q, fq, hq, rfl, rfl, hb, hr, hfq⟩ := hrel
        have Hb4 := Lib.hid hb; have Hr4 := Lib.hid hr; have Hfq := Lib.hid hfq
        clear hb hr hfq
        by_cases hqn : q < nk
        · obtain ⟨b5, o5, rfl, cx⟩ := (Hrl.out.below Hb4.out).atF (show q < (ints ks).length by rw [ints_length, Hnk.out]; exact hqn)
          rw [ints_at_nat] at cx
          obtain ⟨hc1, hc2⟩ := Hkid.out q (by rw [Hnk.out]; exact hqn)
          have hc3 : ks.getD q 0 < d.bs.length := by rw [HM.out]; exact hc1
          obtain ⟨mc, nc, hcc, hmc⟩ := (HSb.out.below Hb4.out).at hc3 trivial
          have Hch := Lib.hid (choice_any d l u T HO.out HT.out i (ks.getD q 0) s mc nc wr (HWb.out.below Hb4.out) Hi.out hc3 Hl.out Hs2.out hcc hmc)
          have hbst := HO.out.bags.choice (W := d.W) Hi.out hc3 Hl.out (T (ks.getD q 0))
          have Hrec := Lib.hid (fun w8 (h1 : Below wb.heap.size wb w8) (h2 : w8.rowIs R 4 d.N (rb fq)) => Hih.out (ks.getD q 0) hc3 hc2 (chT d.G d.W d.bs i s (ks.getD q 0) (T (ks.getD q 0))) fq w8 hbst.ok.1 hbst.lt h1 h2)
          have Hst := Lib.hid (fun (g2 : Nat → Bool) (h : ∀ v, v < d.N → (g2 v = true ↔ fq v = true ∨ Dn d.G d.W d.bs u T (ks.getD q 0) (chT d.G d.W d.bs i s (ks.getD q 0) (T (ks.getD q 0))) v)) => show ∀ v, v < d.N → (g2 v = true ↔ (f v = true ∨ SelP (bagA d.bs i) s v) ∨ ∃ q', q' < q + 1 ∧ Dn d.G d.W d.bs u T (ks.getD q' 0) (chT d.G d.W d.bs i s (ks.getD q' 0) (T (ks.getD q' 0))) v) from fun v hv => by
            rw [h v hv, Hfq.out v hv]
            constructor
            · rintro ((h | ⟨q', a, b⟩) | h)
              · exact .inl h
              · exact .inr ⟨q', by omega, b⟩
              · exact .inr ⟨q, by omega, h⟩
            · rintro (h | ⟨q', a, b⟩)
              · exact .inl (.inl h)
              · by_cases e : q' = q
                · subst e; exact .inr b
                · exact .inl (.inr ⟨q', by omega, b⟩))
          rw [HK.out] at Hch
          rw [HK.out, HN.out] at Hrec
          rw [HN.out] at Hst
          generalize chT d.G d.W d.bs i s (ks.getD q 0) (T (ks.getD q 0)) = tq at *
          generalize chV d.G d.W d.bs i s (ks.getD q 0) (T (ks.getD q 0)) = y at *
          obtain ⟨c, hce⟩ : ∃ c, ks.getD q 0 = c := ⟨_, rfl⟩
          rw [hce] at cx Hch Hrec Hst
          clear hc2 hcc hmc hbst hce hc3
          go_wp2_with fail
          apply Calls.mono Hch.out
          rintro e w8 ⟨rfl, hb8⟩
          have Hb8 := Lib.hid (Hb4.out.trans (hb8.mono Hb4.out.size))
          have Hr8 := Lib.hid (Hr4.out.of_block (hb8.block _ Hr4.out.lt))
          clear hb8 cx
          have Hrec2 := Lib.hid (Hrec.out w8 Hb8.out (by first | exact Hr8.out | (rw [← HN.out]; exact Hr8.out)))
          go_wp2_with fail
          apply Calls.mono Hrec2.out
          rintro e w9 ⟨rfl, hb9, g2, hr9, hg9⟩
          have Hb9 := Lib.hid hb9; have Hr9 := Lib.hid hr9; have Hg9 := Lib.hid hg9
          clear hb9 hr9 hg9
          go_wp2
          go_roundg (nk - (q + 1))
          case measure => go_light; omega
          case rel => exact ⟨q + 1, g2, by omega, rfl, by go_num, Hb9.out, Hr9.out, by first | exact Hst.out g2 Hg9.out | (rw [HN.out]; exact Hst.out g2 (by rw [← HN.out]; exact Hg9.out))⟩
        · obtain rfl : nk = q := by omega
          have Hfin := Lib.hid (show DownPost d u T wb R f i s (.returned (.tuple #[])) wr from by
            refine ⟨rfl, Hb4.out, fq, Hr4.out, fun v hv => ?_⟩
            rw [Hfq.out v hv]
            constructor
            · rintro ((h | h) | ⟨q', a, b⟩)
              · exact .inl h
              · exact .inr (.sel h)
              · obtain ⟨h1, h2⟩ := Hkid.out q' (by rw [Hnk.out]; exact a)
                exact .inr (.kid (by rw [HM.out]; exact h1) h2 b)
            · rintro (h | h)
              · exact .inl (.inl h)
              · cases h with
                | sel h => exact .inl (.inr h)
                | @kid _ _ k _ h1 h2 h3 =>
                  obtain ⟨q', a, b⟩ := Hall.out k (by rw [← HM.out]; exact h1) h2
                  exact .inr ⟨q', by rw [← Hnk.out]; exact a, by rw [b]; exact h3⟩)
          go_wp2
          exact bodyPost_end (v := .tuple #[]) (by simp [results, Tryd.results46, go_sem]) rfl Hfin.out
theorem down_any (d : WkD) (l : List (Int × Int)) (u : List Int) (T : Nat → Nat → Int) (hO : WkOk d l u) (hT : TOk d.G d.W d.bs u T) (wb : World) (R : Nat) (hWb : WkF d wb) (hSb : BestS d T wb wb.heap.size (fun _ => True)) (hR : wb.heap.size ≤ R) : ∀ (n i dep : Nat), d.bs.length - dep ≤ n → Clm u i dep → ∀ s f w, LooseM d.G (bagA d.bs i) s → s < 2 ^ (bagA d.bs i).length → Below wb.heap.size wb w → w.rowIs R 4 d.N (rb f) →
    Calls Tryd.prog 46 #[.pointer (some ⟨d.K, 0, none⟩), .int .i64 (i : Int), .int .i64 (s : Int), .slice (some ⟨R, 0, none⟩) d.N d.N] w (DownPost d u T wb R f i s) := by
  have hul := hO.bags.ul
  intro n
  induction n with
  | zero =>
    intro i dep hn hd s f w h1 h2 h3 h4
    have hi := hd.lt
    exact down_step d l u T hO hT wb R hWb hSb hR i (by omega) (fun c hc e t f' w' _ _ _ _ => by have := (Clm.up (by omega) e hd).le; omega) s f w h1 h2 h3 h4
  | succ n ih =>
    intro i dep hn hd s f w h1 h2 h3 h4
    have hi := hd.lt
    exact down_step d l u T hO hT wb R hWb hSb hR i (by omega) (fun c hc e t f' w' a1 a2 a3 a4 => ih c (dep + 1) (by omega) (.up (by omega) e hd) t f' w' a1 a2 a3 a4) s f w h1 h2 h3 h4
end Go.Proofs.YtnmljgjegodkaaaDoor
