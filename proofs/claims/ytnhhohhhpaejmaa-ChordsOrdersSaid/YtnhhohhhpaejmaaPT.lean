/- 'm[k] += v' at a map of one's own: the entry is found or laid, then stored into. No program in sight. Maps keyed by pairs of small numbers, with numbers. -/
import Derived.Maps.Own
import Derived.Maps.OwnSet
import Derived.Test.YtnhhohhhpaejmaaPairMap
import Derived.Maps.RangeWalk
import Derived.Maps.OwnOps
import Derived.Maps.Ext
namespace Go.Proofs.Ytnhhohhhpaejmaa
open Go Go.RowKit Go.ChangeMaps Go.MapKept
open Go.WideElems (Fit rd rg pl rd_val elemAt)
open Go.Maps (Keyed)

theorem set_twice (w : World) (b : Nat) (o o' : Obj) : setBlock (setBlock w b o) b o' = setBlock w b o' := by
  unfold setBlock
  simp [Array.setIfInBounds_setIfInBounds]
theorem set_same {w : World} {b : Nat} {o : Obj} (h : w.heap[b]? = some o) : setBlock w b o = w := by
  obtain ⟨hj, hje⟩ := Array.getElem?_eq_some_iff.1 h
  have : w.heap.setIfInBounds b o = w.heap := by
    refine Array.ext (by simp) fun i h1 h2 => ?_
    rw [Array.getElem_setIfInBounds]
    split
    · subst_vars; rfl
    · rfl
  unfold setBlock
  rw [this]
theorem find_stamp {es : Array MapEntry} {clock : Nat} (hs : MapKept.Stamped es clock) {j : Nat} {e : MapEntry} (he : es[j]? = some e) : es.findIdx? (fun x => ((x.born : Nat) : Int) == ((e.born : Nat) : Int)) = some j := by
  obtain ⟨hj, hje⟩ := Array.getElem?_eq_some_iff.1 he
  rw [Array.findIdx?_eq_some_iff_getElem]
  refine ⟨hj, by rw [hje]; simp, fun i hi => ?_⟩
  have h2 := hs.2.1
  rw [List.nodup_iff_pairwise_ne, List.pairwise_iff_getElem] at h2
  have := h2 i j (by simp; omega) (by simp; omega) hi
  simp only [List.getElem_map, Array.getElem_toList, hje] at this
  simp only [beq_iff_eq]
  exact fun e2 => this (by omega)
section
variable {H : Type} {P : Program} {k : TypeId} {R : Value → Option (DataW H × List MemPlace)} {w : World} {b n : Nat} {D : DataW H}

/-- The entry, and then any store into it: as 'm[k] = v'. -/
theorem own_entry {t e : TypeId} (h : w.ownsMap P k R b n D) (K : Keyed P k) (ht : P.underlying t = some (.map k e)) (hn : n < maxLen) {z : Value} (hz : ∀ w, (zeroValue e).run P w = .ok z w) {zd : DataW H} {zp : List MemPlace} (hzd : R z = some (zd, zp))
    {key : Value} {kl : Lit} (hkey : keyOf P k key = some kl) :
    ∃ v ps st w1, (Instr.lookup t (.map (some b)) key false).run P w = .ok v w ∧ R v = some (D.atKey kl zd, ps) ∧ (Instr.mapEntry t (.map (some b)) key).run P w = .ok (.tuple #[v, .int .i64 st]) w1 ∧ (Instr.lookup t (.map (some b)) key false).run P w1 = .ok v w1 ∧ w.grownBy w1 (some b) ∧ w1.heap.size = w.heap.size ∧
      ∀ (val : Value) (d : DataW H) (ps : List MemPlace), R val = some (d, ps) → ∃ w2, (Instr.entryStore t (.map (some b)) (.int .i64 st) val).run P w1 = .ok () w2 ∧ w2.ownsMap P k R b (n + 1) (D.put kl d) ∧ w.grownBy w2 (some b) ∧ w2.heap.size = w.heap.size := by
  have hown := h
  obtain ⟨v0, p0, hl0, hv0⟩ := hown.lookup K ht (hz w) hzd hkey
  obtain ⟨es, clock, hb, F, hsz, rfl⟩ := h
  have gr : ∀ o, w.grownBy (setBlock w b o) (some b) := fun o => ⟨rfl, rfl, rfl, by simp [setBlock], fun i _ hi => heap_setBlock_other hb _ (fun e => hi (by rw [e]))⟩
  have szs : ∀ o, (setBlock w b o).heap.size = w.heap.size := fun o => by simp [setBlock]
  have hc := fun (w : World) em => K.check w em hkey
  rcases K.find w hkey es.toList F.keys with ⟨h1, h2⟩ | ⟨j, e0, h1, h2, h3⟩
  · -- a new entry
    have upd : ∀ val, (Instr.mapUpdate t (.map (some b)) key val).run P w = .ok () (setBlock w b (.map (es.push ⟨key, val, clock⟩) (clock + 1))) := fun val => by
      simp [Instr.mapUpdate, run_underlying ht, MapKept.run_getObj_map hb, hc, h1, MapKept.run_setObj_map _ hb, Result.andThen, setBlock]
    have hv : v0 = z := by
      simp [Instr.lookup, run_underlying ht, MapKept.run_getObj_map hb, hc, h1, hz, Result.andThen] at hl0
      exact hl0.symm
    subst hv
    have hb1 : (setBlock w b (.map (es.push ⟨key, v0, clock⟩) (clock + 1))).heap[b]? = some (.map (es.push ⟨key, v0, clock⟩) (clock + 1)) := heap_setBlock_same hb _
    have hst : MapKept.Stamped (es.push ⟨key, v0, clock⟩) (clock + 1) := MapKept.stamped_push F.stamped h2
    have hf := find_stamp hst (j := es.size) (e := ⟨key, v0, clock⟩) (by simp)
    refine ⟨v0, p0, clock, setBlock w b (.map (es.push ⟨key, v0, clock⟩) (clock + 1)), hl0, hv0, ?_, ?_, gr _, szs _, fun val d ps hval => ?_⟩
    · simp [Instr.mapEntry, run_underlying ht, MapKept.run_getObj_map hb, hc, h1, hz, MapKept.run_setObj_map _ hb, Result.andThen, setBlock, goInt]
    · rcases K.find (setBlock w b (.map (es.push ⟨key, v0, clock⟩) (clock + 1))) hkey (es.push ⟨key, v0, clock⟩).toList (fun x hx => by
        simp only [Array.toList_push, List.mem_append, List.mem_singleton] at hx
        rcases hx with hx | rfl
        · exact F.keys x hx
        · exact ⟨kl, hkey⟩) with ⟨g1, g2⟩ | ⟨j, e0, g1, g2, g3⟩
      · exact absurd rfl (g2 ⟨key, v0, clock⟩ (by simp))
      · have hm := List.mem_of_getElem? g2
        simp only [Array.toList_push, List.mem_append, List.mem_singleton] at hm
        rcases hm with hm | rfl
        · exact absurd g3 (h2 e0 hm)
        · simp only [Array.toList_push] at g1
          simp [Instr.lookup, run_underlying ht, MapKept.run_getObj_map hb1, hc, g1, hz, Result.andThen]
    · obtain ⟨w', hr', ho', -⟩ := hown.update K ht hn hkey hval
      rw [upd val] at hr'
      cases hr'
      refine ⟨_, ?_, ho', gr _, szs _⟩
      have hsetr := MapKept.run_setObj_map (P := P) (.map (es.push ⟨key, val, clock⟩) (clock + 1)) hb1
      have hmod : (es.push ⟨key, v0, clock⟩).modify es.size (fun e => { e with val := val }) = es.push ⟨key, val, clock⟩ := by
        refine Array.ext (by simp) fun i h1 h2 => ?_
        rw [Array.getElem_modify]
        by_cases e : i = es.size
        · subst e; simp
        · have : i < es.size := by simp at h2; omega
          rw [if_neg (Ne.symm e), Array.getElem_push_lt this, Array.getElem_push_lt this]
      simp [Instr.entryStore, MapKept.run_getObj_map hb1, Result.andThen, asInt, asIntOf, hf, hmod, hsetr]
      have := set_twice w b (.map (es.push ⟨key, v0, clock⟩) (clock + 1)) (.map (es.push ⟨key, val, clock⟩) (clock + 1))
      unfold setBlock at this
      exact this
  · have hj : es[j]? = some e0 := by simpa using h2
    have hv : v0 = e0.val := by
      simp [Instr.lookup, run_underlying ht, MapKept.run_getObj_map hb, hc, h1, hz, Result.andThen] at hl0
      exact hl0.symm
    subst hv
    have hid : es.modify j (fun e => { e with key := key }) = es := by
      refine Array.ext (by simp) fun i h1 h2 => ?_
      rw [Array.getElem_modify]
      split
      · rename_i e
        subst e
        obtain ⟨_, hje⟩ := Array.getElem?_eq_some_iff.1 hj
        rw [hje, ← h3]
      · rfl
    have hid2 : ∀ val, es.modify j (fun e => { e with val := val }) = es.modify j (fun e => { e with key := key, val := val }) := fun val => by
      refine Array.ext (by simp) fun i h1 h2 => ?_
      rw [Array.getElem_modify, Array.getElem_modify]
      split
      · rename_i e
        subst e
        obtain ⟨_, hje⟩ := Array.getElem?_eq_some_iff.1 hj
        rw [hje, ← h3]
      · rfl
    have hf := find_stamp F.stamped hj
    refine ⟨e0.val, p0, e0.born, w, hl0, hv0, ?_, hl0, World.grownBy.refl _ _, rfl, fun val d ps hval => ?_⟩
    · have := set_same hb
      unfold setBlock at this
      simp [Instr.mapEntry, run_underlying ht, MapKept.run_getObj_map hb, hc, h1, hj, h3, K.stays w hkey, MapKept.run_setObj_map _ hb, Result.andThen, goInt, hid, this]
    · obtain ⟨w', hr', ho', hg'⟩ := hown.update K ht hn hkey hval
      have hupd : (Instr.mapUpdate t (.map (some b)) key val).run P w = .ok () (setBlock w b (.map (es.modify j fun e => { e with key := key, val := val }) clock)) := by
        simp [Instr.mapUpdate, run_underlying ht, MapKept.run_getObj_map hb, hc, h1, hj, h3, K.stays w hkey, MapKept.run_setObj_map _ hb, Result.andThen, setBlock]
      rw [hupd] at hr'
      cases hr'
      refine ⟨_, ?_, ho', gr _, szs _⟩
      simp [Instr.entryStore, MapKept.run_getObj_map hb, Result.andThen, asInt, asIntOf, hf, hid2, MapKept.run_setObj_map _ hb, setBlock]
end

end Go.Proofs.Ytnhhohhhpaejmaa
namespace Go.Proofs.Ytnhhohhhpaejmaa
open Go Go.RowKit Go.Maps

abbrev pairV (x y : Int) : Value := .agg #[.int .i64 x, .int .i64 y]
set_option maxRecDepth 100000 in
theorem pair_inv {key : Value} {kl : Lit} (h : keyOf Try.prog 52 key = some kl) : ∃ x : Int × Int, key = pairV x.1 x.2 := by
  unfold keyOf at h
  rw [pair_type, pair_keyType] at h
  simp only [Bool.true_and] at h
  split at h
  · rename_i hf
    cases key with
    | agg cs =>
      have hsz : cs.size = 2 := by simpa [Value.formed, pair_type, pair_cells2] using hf
      obtain ⟨a, b, rfl⟩ : ∃ a b, cs = #[a, b] := by
        obtain ⟨l⟩ := cs
        match l, hsz with
        | [a, b], _ => exact ⟨a, b, rfl⟩
      obtain ⟨n, hn⟩ : ∃ n, Try.prog.types.size = n + 1 := ⟨Try.prog.types.size - 1, by have := pair_row; omega⟩
      rw [hn] at h
      unfold Program.keyLits at h
      rw [pair_type] at h
      have inv : ∀ z r, Try.prog.keyLits (n + 1) 3 [z] = some r → ∃ x, z = .int .i64 x := fun z r hz => by
        unfold Program.keyLits at hz
        rw [Try.underlying3] at hz
        cases z <;> simp at hz
        rename_i q x
        obtain ⟨⟨rfl, -⟩, -⟩ := hz
        exact ⟨x, rfl⟩
      cases ea : Try.prog.keyLits (n + 1) 3 [a] with
      | none => simp [Value.cells, pair_cells2, Try.cellsInt, List.range, List.range.loop, ea] at h
      | some ra =>
        cases eb : Try.prog.keyLits (n + 1) 3 [b] with
        | none => simp [Value.cells, pair_cells2, Try.cellsInt, List.range, List.range.loop, ea, eb] at h
        | some rb =>
          obtain ⟨x, rfl⟩ := inv a ra ea
          obtain ⟨y, rfl⟩ := inv b rb eb
          exact ⟨(x, y), rfl⟩
    | _ => simp [Value.formed, pair_type] at hf
  · cases h
theorem small_wf {i : Nat} (h : i ≤ 1000) : (Lit.int .i64 (i : Int)).wf = true := by simp [Lit.wf, IntKind.min, IntKind.max, IntKind.bits, IntKind.signed]; omega
/-- The key of a pair. -/
def KeyP (i j : Nat) (l : Lit) : Prop := keyOf Try.prog 52 (pairV (i : Int) (j : Int)) = some l
theorem key_ex {i j : Nat} (hi : i ≤ 1000) (hj : j ≤ 1000) : ∃ l, KeyP i j l := pair_key _ _ (small_wf hi) (small_wf hj)
theorem key_inj {i j i' j' : Nat} {l : Lit} (h : KeyP i j l) (h' : KeyP i' j' l) : i = i' ∧ j = j' := by
  have := pairKeyed.inj h h'
  simp only [pairV, Value.agg.injEq, Array.mk.injEq, List.cons.injEq, Value.int.injEq, true_and, and_true] at this
  omega
theorem key_one {i j : Nat} {l l' : Lit} (h : KeyP i j l) (h' : KeyP i j l') : l = l' := by unfold KeyP at h h'; rw [h] at h'; exact Option.some.inj h'

/-- A map's entries: T at the pairs, keys no greater than K. -/
structure Holds (D : DataW Unit) (K : Nat) (T : Nat → Nat → Int) : Prop where
  at' : ∀ (i j : Nat) l, KeyP i j l → D.atKey l (.lit (.int .i64 0)) = .lit (.int .i64 (T i j))
  keys : ∀ l, Maps.has D l = true → ∃ i j : Nat, i ≤ K ∧ j ≤ K ∧ KeyP i j l
/-- Block b is such a map of at most n entries. -/
def TabIs (w : World) (b n K : Nat) (T : Nat → Nat → Int) : Prop := ∃ D : DataW Unit, w.ownsMap Try.prog 52 (plainElem Try.prog 3) b n D ∧ Holds D K T
theorem holds_nil : Holds (.map []) 0 (fun _ _ => 0) := ⟨fun i j l _ => by rw [WideAt.atKey_none _ (by simp)], fun l h => by simp [Maps.has] at h⟩
theorem TabIs.made (w : World) : TabIs (w.alloc (.map #[] 0)) w.heap.size 0 0 (fun _ _ => 0) := ⟨_, World.ownsMap_made w _ _ _, holds_nil⟩
theorem Holds.put {D : DataW Unit} {K : Nat} {T : Nat → Nat → Int} (h : Holds D K T) (hm : IsMap D) {i j : Nat} {l : Lit} (hl : KeyP i j l) {K' : Nat} (hK : K ≤ K') (hi : i ≤ K') (hj : j ≤ K') (c : Int) :
    Holds (D.put l (.lit (.int .i64 c))) K' (fun i' j' => if i' = i ∧ j' = j then c else T i' j') where
  at' := fun i' j' l' hl' => by
    by_cases e : l' = l
    · subst e
      obtain ⟨rfl, rfl⟩ := key_inj hl hl'
      rw [atKey_put_same hm (pairKeyed.key hl), if_pos ⟨rfl, rfl⟩]
    · have : ¬ (i' = i ∧ j' = j) := fun ⟨h1, h2⟩ => e (by subst h1; subst h2; exact key_one hl' hl)
      rw [atKey_put_other e, h.at' i' j' l' hl', if_neg this]
  keys := fun l' h' => by
    by_cases e : l' = l
    · subst e; exact ⟨i, j, hi, hj, hl⟩
    · have : Maps.has D l' = true := by
        rwa [has_put_other e] at h'
      obtain ⟨a, b, h1, h2, h3⟩ := h.keys l' this
      exact ⟨a, b, by omega, by omega, h3⟩

theorem Holds.mono {D : DataW Unit} {K K' : Nat} {T : Nat → Nat → Int} (h : Holds D K T) (hK : K ≤ K') : Holds D K' T :=
  ⟨h.at', fun l hl => by obtain ⟨i, j, h1, h2, h3⟩ := h.keys l hl; exact ⟨i, j, by omega, by omega, h3⟩⟩
theorem Holds.congr {D : DataW Unit} {K : Nat} {T T' : Nat → Nat → Int} (h : Holds D K T) (e : ∀ i j, T i j = T' i j) : Holds D K T' := by
  have : T = T' := funext fun i => funext fun j => e i j
  rw [← this]; exact h
theorem TabIs.below {w w' : World} {b n K : Nat} {T : Nat → Nat → Int} (h : TabIs w b n K T) (hb : w'.heap[b]? = w.heap[b]?) : TabIs w' b n K T := by
  obtain ⟨D, ⟨es, clock, h1, h2⟩, hD⟩ := h
  exact ⟨D, ⟨es, clock, by rw [hb]; exact h1, h2⟩, hD⟩
theorem TabIs.lt {w : World} {b n K : Nat} {T : Nat → Nat → Int} (h : TabIs w b n K T) : b < w.heap.size := by
  obtain ⟨D, h1, -⟩ := h
  exact h1.lt

/-! Adding one map, moved, to another one. -/
/-- The pair's entry has been met, or there is none. -/
def Met (left : Lit → Bool) (i j : Nat) : Prop := ∀ l, KeyP i j l → left l = false
open Classical in
noncomputable def addF (T U : Nat → Nat → Int) (dx dy : Nat) (left : Lit → Bool) (i j : Nat) : Int := T i j + if dx ≤ i ∧ dy ≤ j ∧ Met left (i - dx) (j - dy) then U (i - dx) (j - dy) else 0
def addT (T U : Nat → Nat → Int) (dx dy i j : Nat) : Int := T i j + if dx ≤ i ∧ dy ≤ j then U (i - dx) (j - dy) else 0
theorem holds_none {D : DataW Unit} {K : Nat} {U : Nat → Nat → Int} (h : Holds D K U) {i j : Nat} {l : Lit} (hl : KeyP i j l) (hn : Maps.has D l = false) : U i j = 0 := by
  have := h.at' i j l hl
  rw [atKey_of_not_has hn] at this
  simp only [DataW.lit.injEq, Lit.int.injEq, true_and] at this
  exact this.symm
theorem holds_far {D : DataW Unit} {K : Nat} {U : Nat → Nat → Int} (h : Holds D K U) {i j : Nat} {l : Lit} (hl : KeyP i j l) (hn : K < i ∨ K < j) : U i j = 0 := by
  refine holds_none h hl ?_
  cases e : Maps.has D l
  · rfl
  · obtain ⟨a, b, h1, h2, h3⟩ := h.keys l e
    obtain ⟨rfl, rfl⟩ := key_inj h3 hl
    omega
theorem addF_start {D : DataW Unit} {K dx dy : Nat} {T U : Nat → Nat → Int} (h : Holds D K U) (hk : ∀ i j, K < i ∨ K < j → U i j = 0) (hK : K ≤ 1000) (i j : Nat) : addF T U dx dy (Maps.has D) i j = T i j := by
  unfold addF
  split
  · rename_i hm
    have : U (i - dx) (j - dy) = 0 := by
      by_cases e : K < i - dx ∨ K < j - dy
      · exact hk _ _ e
      · obtain ⟨l, hl⟩ := key_ex (i := i - dx) (j := j - dy) (by omega) (by omega)
        exact holds_none h hl (hm.2.2 l hl)
    rw [this]; omega
  · omega
theorem addF_end {dx dy : Nat} {T U : Nat → Nat → Int} {left : Lit → Bool} (h : ∀ l, left l = false) (i j : Nat) : addF T U dx dy left i j = addT T U dx dy i j := by
  unfold addF addT
  have : Met left (i - dx) (j - dy) := fun l _ => h l
  simp [this]
set_option maxRecDepth 100000 in
theorem addF_step {dx dy i0 j0 : Nat} {T U : Nat → Nat → Int} {left : Lit → Bool} {kl : Lit} (hkl : KeyP i0 j0 kl) (hl : left kl = true) (i j : Nat) :
    (if i = i0 + dx ∧ j = j0 + dy then addF T U dx dy left (i0 + dx) (j0 + dy) + U i0 j0 else addF T U dx dy left i j) = addF T U dx dy (fun z => left z && !z.sameKey kl) i j := by
  have not0 : ¬ Met left i0 j0 := fun hm => by rw [hm kl hkl] at hl; cases hl
  have met0 : Met (fun z => left z && !z.sameKey kl) i0 j0 := fun l h => by
    obtain rfl := key_one h hkl
    simp [WideAt.sameKey_self (pairKeyed.key hkl)]
  have other : ∀ a b, ¬ (a = i0 ∧ b = j0) → (Met (fun z => left z && !z.sameKey kl) a b ↔ Met left a b) := fun a b hne => by
    refine forall_congr' fun l => forall_congr' fun h => ?_
    have : l ≠ kl := fun e => hne (by subst e; exact key_inj h hkl)
    show (left l && !l.sameKey kl) = false ↔ left l = false
    rw [sameKey_ne this]; simp
  unfold addF
  by_cases e : i = i0 + dx ∧ j = j0 + dy
  · obtain ⟨rfl, rfl⟩ := e
    rw [if_pos ⟨rfl, rfl⟩]
    rw [show i0 + dx - dx = i0 by omega, show j0 + dy - dy = j0 by omega]
    have n1 : ¬ (dx ≤ i0 + dx ∧ dy ≤ j0 + dy ∧ Met left i0 j0) := fun h => not0 h.2.2
    have n2 : dx ≤ i0 + dx ∧ dy ≤ j0 + dy ∧ Met (fun z => left z && !z.sameKey kl) i0 j0 := ⟨by omega, by omega, met0⟩
    rw [if_neg n1, if_pos n2]; omega
  · rw [if_neg e]
    congr 1
    by_cases h : dx ≤ i ∧ dy ≤ j
    · have ho := other (i - dx) (j - dy) (by omega)
      by_cases m : Met left (i - dx) (j - dy)
      · rw [if_pos ⟨h.1, h.2, m⟩, if_pos ⟨h.1, h.2, ho.2 m⟩]
      · rw [if_neg (fun h' => m h'.2.2), if_neg (fun h' => m (ho.1 h'.2.2))]
    · rw [if_neg (fun h' => h ⟨h'.1, h'.2.1⟩), if_neg (fun h' => h ⟨h'.1, h'.2.1⟩)]

end Go.Proofs.Ytnhhohhhpaejmaa
