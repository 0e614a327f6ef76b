/- 'm[k] += v' at a map of one's own: the entry is found or laid, then stored into. No program in sight. -/
import Derived.Maps.Own
import Derived.Maps.OwnSet
namespace Go.Proofs.Ytmhcnekbfngafaa
open Go Go.RowKit Go.ChangeMaps Go.MapKept
open Go.WideElems (Fit rd rg pl rd_val elemAt)
open Go.Maps (Keyed)

theorem set_twice (w : World) (b : Nat) (o o' : Obj) : setBlock (setBlock w b o) b o' = setBlock w b o' := by
  unfold setBlock
  simp [Array.setIfInBounds_setIfInBounds]
theorem set_same {w : World} {b : Nat} {o : Obj} (h : w.heap[b]? = some o) : setBlock w b o = w := by
  obtain ⟨hj, hje⟩ := Array.getElem?_eq_some_iff.1 h
  have : w.heap.setIfInBounds b o = w.heap := by
    refine Array.ext (by simp) fun i h1 h2 => ?_
    rw [Array.getElem_setIfInBounds]
    split
    · subst_vars; rfl
    · rfl
  unfold setBlock
  rw [this]
theorem find_stamp {es : Array MapEntry} {clock : Nat} (hs : MapKept.Stamped es clock) {j : Nat} {e : MapEntry} (he : es[j]? = some e) : es.findIdx? (fun x => ((x.born : Nat) : Int) == ((e.born : Nat) : Int)) = some j := by
  obtain ⟨hj, hje⟩ := Array.getElem?_eq_some_iff.1 he
  rw [Array.findIdx?_eq_some_iff_getElem]
  refine ⟨hj, by rw [hje]; simp, fun i hi => ?_⟩
  have h2 := hs.2.1
  rw [List.nodup_iff_pairwise_ne, List.pairwise_iff_getElem] at h2
  have := h2 i j (by simp; omega) (by simp; omega) hi
  simp only [List.getElem_map, Array.getElem_toList, hje] at this
  simp only [beq_iff_eq]
  exact fun e2 => this (by omega)
section
variable {H : Type} {P : Program} {k : TypeId} {R : Value → Option (DataW H × List MemPlace)} {w : World} {b n : Nat} {D : DataW H}

/-- The entry, and then any store into it: as 'm[k] = v'. -/
theorem own_entry {t e : TypeId} (h : w.ownsMap P k R b n D) (K : Keyed P k) (ht : P.underlying t = some (.map k e)) (hn : n < maxLen) {z : Value} (hz : ∀ w, (zeroValue e).run P w = .ok z w) {zd : DataW H} {zp : List MemPlace} (hzd : R z = some (zd, zp))
    {key : Value} {kl : Lit} (hkey : keyOf P k key = some kl) :
    ∃ v ps st w1, (Instr.lookup t (.map (some b)) key false).run P w = .ok v w ∧ R v = some (D.atKey kl zd, ps) ∧ (Instr.mapEntry t (.map (some b)) key).run P w = .ok (.tuple #[v, .int .i64 st]) w1 ∧ (Instr.lookup t (.map (some b)) key false).run P w1 = .ok v w1 ∧ w.grownBy w1 (some b) ∧ w1.heap.size = w.heap.size ∧
      ∀ (val : Value) (d : DataW H) (ps : List MemPlace), R val = some (d, ps) → ∃ w2, (Instr.entryStore t (.map (some b)) (.int .i64 st) val).run P w1 = .ok () w2 ∧ w2.ownsMap P k R b (n + 1) (D.put kl d) ∧ w.grownBy w2 (some b) ∧ w2.heap.size = w.heap.size := by
  have hown := h
  obtain ⟨v0, p0, hl0, hv0⟩ := hown.lookup K ht (hz w) hzd hkey
  obtain ⟨es, clock, hb, F, hsz, rfl⟩ := h
  have gr : ∀ o, w.grownBy (setBlock w b o) (some b) := fun o => ⟨rfl, rfl, rfl, by simp [setBlock], fun i _ hi => heap_setBlock_other hb _ (fun e => hi (by rw [e]))⟩
  have szs : ∀ o, (setBlock w b o).heap.size = w.heap.size := fun o => by simp [setBlock]
  have hc := fun (w : World) em => K.check w em hkey
  rcases K.find w hkey es.toList F.keys with ⟨h1, h2⟩ | ⟨j, e0, h1, h2, h3⟩
  · -- a new entry
    have upd : ∀ val, (Instr.mapUpdate t (.map (some b)) key val).run P w = .ok () (setBlock w b (.map (es.push ⟨key, val, clock⟩) (clock + 1))) := fun val => by
      simp [Instr.mapUpdate, run_underlying ht, MapKept.run_getObj_map hb, hc, h1, MapKept.run_setObj_map _ hb, Result.andThen, setBlock]
    have hv : v0 = z := by
      simp [Instr.lookup, run_underlying ht, MapKept.run_getObj_map hb, hc, h1, hz, Result.andThen] at hl0
      exact hl0.symm
    subst hv
    have hb1 : (setBlock w b (.map (es.push ⟨key, v0, clock⟩) (clock + 1))).heap[b]? = some (.map (es.push ⟨key, v0, clock⟩) (clock + 1)) := heap_setBlock_same hb _
    have hst : MapKept.Stamped (es.push ⟨key, v0, clock⟩) (clock + 1) := MapKept.stamped_push F.stamped h2
    have hf := find_stamp hst (j := es.size) (e := ⟨key, v0, clock⟩) (by simp)
    refine ⟨v0, p0, clock, setBlock w b (.map (es.push ⟨key, v0, clock⟩) (clock + 1)), hl0, hv0, ?_, ?_, gr _, szs _, fun val d ps hval => ?_⟩
    · simp [Instr.mapEntry, run_underlying ht, MapKept.run_getObj_map hb, hc, h1, hz, MapKept.run_setObj_map _ hb, Result.andThen, setBlock, goInt]
    · rcases K.find (setBlock w b (.map (es.push ⟨key, v0, clock⟩) (clock + 1))) hkey (es.push ⟨key, v0, clock⟩).toList (fun x hx => by
        simp only [Array.toList_push, List.mem_append, List.mem_singleton] at hx
        rcases hx with hx | rfl
        · exact F.keys x hx
        · exact ⟨kl, hkey⟩) with ⟨g1, g2⟩ | ⟨j, e0, g1, g2, g3⟩
      · exact absurd rfl (g2 ⟨key, v0, clock⟩ (by simp))
      · have hm := List.mem_of_getElem? g2
        simp only [Array.toList_push, List.mem_append, List.mem_singleton] at hm
        rcases hm with hm | rfl
        · exact absurd g3 (h2 e0 hm)
        · simp only [Array.toList_push] at g1
          simp [Instr.lookup, run_underlying ht, MapKept.run_getObj_map hb1, hc, g1, hz, Result.andThen]
    · obtain ⟨w', hr', ho', -⟩ := hown.update K ht hn hkey hval
      rw [upd val] at hr'
      cases hr'
      refine ⟨_, ?_, ho', gr _, szs _⟩
      have hsetr := MapKept.run_setObj_map (P := P) (.map (es.push ⟨key, val, clock⟩) (clock + 1)) hb1
      have hmod : (es.push ⟨key, v0, clock⟩).modify es.size (fun e => { e with val := val }) = es.push ⟨key, val, clock⟩ := by
        refine Array.ext (by simp) fun i h1 h2 => ?_
        rw [Array.getElem_modify]
        by_cases e : i = es.size
        · subst e; simp
        · have : i < es.size := by simp at h2; omega
          rw [if_neg (Ne.symm e), Array.getElem_push_lt this, Array.getElem_push_lt this]
      simp [Instr.entryStore, MapKept.run_getObj_map hb1, Result.andThen, asInt, asIntOf, hf, hmod, hsetr]
      have := set_twice w b (.map (es.push ⟨key, v0, clock⟩) (clock + 1)) (.map (es.push ⟨key, val, clock⟩) (clock + 1))
      unfold setBlock at this
      exact this
  · have hj : es[j]? = some e0 := by simpa using h2
    have hv : v0 = e0.val := by
      simp [Instr.lookup, run_underlying ht, MapKept.run_getObj_map hb, hc, h1, hz, Result.andThen] at hl0
      exact hl0.symm
    subst hv
    have hid : es.modify j (fun e => { e with key := key }) = es := by
      refine Array.ext (by simp) fun i h1 h2 => ?_
      rw [Array.getElem_modify]
      split
      · rename_i e
        subst e
        obtain ⟨_, hje⟩ := Array.getElem?_eq_some_iff.1 hj
        rw [hje, ← h3]
      · rfl
    have hid2 : ∀ val, es.modify j (fun e => { e with val := val }) = es.modify j (fun e => { e with key := key, val := val }) := fun val => by
      refine Array.ext (by simp) fun i h1 h2 => ?_
      rw [Array.getElem_modify, Array.getElem_modify]
      split
      · rename_i e
        subst e
        obtain ⟨_, hje⟩ := Array.getElem?_eq_some_iff.1 hj
        rw [hje, ← h3]
      · rfl
    have hf := find_stamp F.stamped hj
    refine ⟨e0.val, p0, e0.born, w, hl0, hv0, ?_, hl0, World.grownBy.refl _ _, rfl, fun val d ps hval => ?_⟩
    · have := set_same hb
      unfold setBlock at this
      simp [Instr.mapEntry, run_underlying ht, MapKept.run_getObj_map hb, hc, h1, hj, h3, K.stays w hkey, MapKept.run_setObj_map _ hb, Result.andThen, goInt, hid, this]
    · obtain ⟨w', hr', ho', hg'⟩ := hown.update K ht hn hkey hval
      have hupd : (Instr.mapUpdate t (.map (some b)) key val).run P w = .ok () (setBlock w b (.map (es.modify j fun e => { e with key := key, val := val }) clock)) := by
        simp [Instr.mapUpdate, run_underlying ht, MapKept.run_getObj_map hb, hc, h1, hj, h3, K.stays w hkey, MapKept.run_setObj_map _ hb, Result.andThen, setBlock]
      rw [hupd] at hr'
      cases hr'
      refine ⟨_, ?_, ho', gr _, szs _⟩
      simp [Instr.entryStore, MapKept.run_getObj_map hb, Result.andThen, asInt, asIntOf, hf, hid2, MapKept.run_setObj_map _ hb, setBlock]
end

end Go.Proofs.Ytmhcnekbfngafaa
