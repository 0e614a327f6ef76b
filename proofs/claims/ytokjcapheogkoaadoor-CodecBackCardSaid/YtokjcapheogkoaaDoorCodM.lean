/- Slices of bytes of one's own. -/
import Derived.Test.YtokjcapheogkoaaDoorBase0
import Derived.Test.YtokjcapheogkoaaDoorPA
import Derived.Lib.UnsafeStr
import Derived.Laws.IdiomStrings
import Derived.Deep.AppendLies
namespace Go.Proofs.YtokjcapheogkoaaDoor
open Go Go.RowKit

theorem infoU : (Tryd.prog.info? 5).map (fun i => (i.zero, i.size, i.bytes)) = some (some (.int .u8 0), 1, 1) := by kernel_rfl
/-- Bytes of one's own. -/
def OwnU (w : World) (base : Nat) (v : Value) (L : List Nat) : Prop := w.ownsRow base 5 1 v L.length (u8V L)
theorem OwnU.nil (w : World) (base : Nat) : OwnU w base (.slice none 0 0) [] := World.ownsRow_nil _ _ _ _
theorem OwnU.last {w : World} {base k : Nat} {v : Value} {L : List Nat} (h : OwnU w base v L) (hk : L.length = k + 1) :
    ∃ g cap, v = .slice (some ⟨g, 0, none⟩) (k + 1) cap ∧ base ≤ g ∧ g < w.heap.size ∧ w.cell? ⟨g, k, none⟩ = some (.int .u8 (L.getD k 0 : Nat)) ∧ w.frozen? ⟨g, k, none⟩ = false ∧
      ∀ (x : Nat) (L' : List Nat), L'.length = L.length → (∀ j, j < k → L'.getD j 0 = L.getD j 0) → L'.getD k 0 = x → OwnU (w.setCell ⟨g, k, none⟩ (.int .u8 (x : Int))) base v L' := by
  obtain ⟨h1, h2⟩ := h
  rcases h2 with ⟨-, h2⟩ | ⟨g, cap, cur, rfl, hg, hheap, hle, hmax, hsz, htk⟩
  · omega
  · rw [hk] at hle htk
    rw [Nat.mul_one] at htk hsz
    have hkc : k < cur.size := by omega
    have hcur : ∀ j (hj : j < k + 1), cur[j]? = some (.int .u8 (L.getD j 0 : Nat)) := fun j hj => by
      have e1 : (cur.toList.take (k + 1))[j]? = (u8V L)[j]? := by rw [htk]
      rw [List.getElem?_take_of_lt hj] at e1
      have e2 : (u8V L)[j]? = some (.int .u8 (L.getD j 0 : Nat)) := by
        unfold u8V
        rw [List.getElem?_map, List.getElem?_eq_getElem (by omega)]
        simp [List.getD, show j < L.length by omega]
      rw [e2] at e1
      simpa using e1
    refine ⟨g, cap, by rw [hk], hg, lt_of_block hheap, ?_, ?_, fun x L' hl hj hx => ?_⟩
    · simp only [World.cell?, hheap]
      exact hcur k (by omega)
    · simp [World.frozen?, hheap]
    · have hheap' := heap_setCell_same w g k cur 5 (.int .u8 (x : Int)) hheap
      refine ⟨by rw [u8V_length, Nat.mul_one], Or.inr ⟨g, cap, _, by rw [hl], hg, hheap', by omega, hmax, by simp; omega, ?_⟩⟩
      rw [Nat.mul_one, hl, hk]
      refine List.ext_getElem? fun j => ?_
      by_cases hjk : j < k + 1
      · rw [List.getElem?_take_of_lt hjk]
        have e2 : (u8V L')[j]? = some (.int .u8 (L'.getD j 0 : Nat)) := by
          unfold u8V
          rw [List.getElem?_map, List.getElem?_eq_getElem (by omega)]
          simp [List.getD, show j < L'.length by omega]
        rw [e2]
        by_cases e : j = k
        · subst e
          rw [hx]
          simp [hkc]
        · have e3 := hcur j hjk
          rw [hj j (by omega)]
          simp only [Array.getElem?_toList]
          rw [Array.getElem?_setIfInBounds_ne (Ne.symm e)]
          exact e3
      · rw [List.getElem?_eq_none (by simp; omega), List.getElem?_eq_none (by rw [u8V_length]; omega)]

/-- A row of values in a new block of its own. -/
theorem HasCells.new (w : World) (xs : List Value) (t : TypeId) (h0 : xs ≠ []) (hv : ∀ u ∈ xs, u.oneCell' = true) : HasCells (w.alloc (.cells xs.toArray t)) (.slice (some ⟨w.heap.size, 0, none⟩) xs.length xs.length) xs.length xs := by
  refine ⟨_, _, rfl, rfl, (fun e => by cases e), fun ad had j u hu => ?_, hv⟩
  obtain rfl := Option.some.inj had
  rw [Addr.add_lit, Nat.zero_add, World.cell?_alloc_at _ _ _ _ rfl]
  simpa using hu
theorem u8_wrap {k : Nat} (h : k < 256) : IntKind.u8.wrap (k : Int) = (k : Int) := by rw [IntKind.wrap_u8]; omega
/-- 'string(b)' of bytes of one's own. -/
theorem OwnU.string {w : World} {base : Nat} {v : Value} {L : List Nat} (h : OwnU w base v L) (h0 : 0 < L.length) (hb : ∀ k ∈ L, k < 256) :
    (convert 42 9 v).run Tryd.prog w = .ok (.string ⟨(u8L L).toArray⟩) w := by
  obtain ⟨h1, h2⟩ := h
  rcases h2 with ⟨-, h2⟩ | ⟨g, cap, cur, rfl, hg, hheap, hle, hmax, hsz, htk⟩
  · omega
  · have e : L.length = (u8L L).length := by simp [u8L]
    rw [e]
    refine run_convert_bytes_back w _ _ 5 _ _ (u8L L) Tryd.underlying42 Tryd.underlying5 Tryd.underlying9 fun j hj => ?_
    have hj' : j < L.length := by omega
    rw [Addr.add_lit, Nat.zero_add]
    simp only [World.cell?, hheap]
    have e1 : (cur.toList.take (L.length * 1))[j]? = (u8V L)[j]? := by rw [htk]
    rw [List.getElem?_take_of_lt (by omega)] at e1
    have e2 : (u8V L)[j]? = some (.int .u8 (L[j] : Nat)) := by
      unfold u8V
      rw [List.getElem?_map, List.getElem?_eq_getElem hj']
      rfl
    rw [e2] at e1
    have e3 : (u8L L)[j] = UInt8.ofNat L[j] := by simp [u8L]
    have := hb L[j] (List.getElem_mem _)
    rw [e3, UInt8.toNat_ofNat', Nat.mod_eq_of_lt this]
    simpa using e1

/-- 'append' of bytes onto bytes of one's own, and where they lie. -/
theorem wpList_append_U {w : World} {ops : Array Oper} {rest : List Oper} {o : Oper} {a : Act} {Q : Exit → Act → World → Prop} (hgd : o.guard = none) (s x : Operand)
    (ho : o.op = .call { callee := .builtin .append, args := #[s, x], argTypes := #[42, 42] })
    (base n : Nat) (v : Value) (L : List Nat) (hn : L.length = n) (hs : a.eval s = v) (hown : OwnU w base v L) (src : Value) (m : Nat) (news : List Nat) (hx : a.eval x = src) (hsrc : HasCells w src m (u8V news)) (hm : 0 < m)
    (hfew : n + m ≤ 1000000) (hbase : base ≤ w.heap.size)
    (h : ∀ g cap w', OwnU w' base (.slice (some ⟨g, 0, none⟩) (n + m) cap) (L ++ news) → w.grownBy w' v.ownBlock → (v.ownBlock = some g ∨ g = w.heap.size) → wpList Tryd.prog ops Q rest (a.put o.dst (.slice (some ⟨g, 0, none⟩) (n + m) cap)) w') : wpList Tryd.prog ops Q (o :: rest) a w := by
  obtain ⟨i, hi, hz0, hsz, hby⟩ := info_parts infoU
  obtain ⟨ao, cap, rfl, hl, hnone, hcells, hone⟩ := hsrc
  rw [u8V_length] at hl
  cases ao with
  | none => have := (hnone rfl).1; omega
  | some ad =>
    subst hn
    refine wpList_append_lies w hgd s x _ ho base _ i (.int .u8 0) 1 1 Tryd.underlying42 hi hz0 hsz hby rfl (by omega) v L.length (u8V L) hs hown ad m cap (u8V news) hx (by rw [u8V_length]; omega) (hcells ad rfl) hone hm (by unfold maxLen; omega) (by omega) hbase _ rfl fun g cap w' h1 h2 h3 _ => h g cap w' ?_ h2 h3
    have e : (L ++ news).length = L.length + m := by rw [List.length_append, hl]
    unfold OwnU
    rw [e]
    have e2 : u8V (L ++ news) = u8V L ++ u8V news := by simp [u8V]
    rw [e2]
    exact h1

end Go.Proofs.YtokjcapheogkoaaDoor
