/- chords.forced: its memory; chords.forced$1: a pair that is not in the set yet goes into it, and into the queue. -/
import Derived.Test.YtnhhohhhpaejmaaPO
import Derived.Test.YtnhhohhhpaejmaaPSet
import Derived.Test.YtnhhohhhpaejmaaPG
import Derived.Test.YtnhhohhhpaejmaaHasGrid
import Derived.Test.YtnhhohhhpaejmaaPD
import Derived.Deep.LoopGhost
import Derived.Deep.Light
namespace Go.Proofs.Ytnhhohhhpaejmaa
open Go Go.RowKit Go.Maps

theorem QPIs.ne {w : World} {base : Nat} {v : Value} {l : List (Nat × Nat)} (h : QPIs w base v l) {q t n : Nat} {f : Nat → Value} (hr : w.rowIs q t n f) (ht : t ≠ 52) : some q ≠ v.ownBlock := by
  obtain ⟨b, off, cap, K, f', rfl, h⟩ := h
  obtain ⟨c1, e1, -⟩ := h.row
  obtain ⟨c2, e2, -⟩ := hr
  intro e
  obtain rfl := Option.some.inj e
  have e1' : w.heap[q]? = _ := e1
  rw [e2] at e1'
  simp only [Option.some.injEq, Obj.cells.injEq] at e1'
  exact ht e1'.2.1
theorem QPIs.ge {w : World} {base : Nat} {v : Value} {l : List (Nat × Nat)} (h : QPIs w base v l) {q : Nat} (e : v.ownBlock = some q) : base ≤ q := by
  obtain ⟨b, off, cap, K, f', rfl, h⟩ := h
  obtain rfl := Option.some.inj e
  exact h.ge
theorem QPIs.form {w : World} {base : Nat} {v : Value} {l : List (Nat × Nat)} (h : QPIs w base v l) : ∃ a c, v = .slice a l.length c := by
  obtain ⟨b, off, cap, K, f', rfl, h⟩ := h
  exact ⟨_, _, rfl⟩

/-- The set in block BM, its cell MC, the queue's cell QC, the queue. -/
structure FoSt (H BM MC N QC n : Nat) (v : Value) (I : Nat → Nat → Bool) (L : List (Nat × Nat)) (w0 w : World) : Prop where
  hb : Below H w0 w
  cm : w.rowIs MC 66 1 (fun _ => .map (some BM))
  pm : PSet w BM n N I
  cq : w.rowIs QC 22 1 (fun _ => v)
  lo1 : H ≤ BM
  lo2 : BM < MC
  lo : MC < QC
  q : QPIs w (MC + 1) v L
  few : n + fals N I ≤ 10001
  lq : L.length + fals N I ≤ 10001
theorem FoSt.below {H BM MC N QC n : Nat} {v : Value} {I : Nat → Nat → Bool} {L : List (Nat × Nat)} {w0 w w' : World} (h : FoSt H BM MC N QC n v I L w0 w) (hb : Below w.heap.size w w') : FoSt H BM MC N QC n v I L w0 w' :=
  ⟨h.hb.trans (hb.mono (by have := h.pm.lt; have := h.lo1; omega)), h.cm.of_block (hb.block _ h.cm.lt), h.pm.below hb, h.cq.of_block (hb.block _ h.cq.lt), h.lo1, h.lo2, h.lo, h.q.below hb, h.few, h.lq⟩
/-- The set has grown. -/
theorem FoSt.put {H BM MC N QC n : Nat} {v : Value} {I : Nat → Nat → Bool} {L : List (Nat × Nat)} {w0 w w' : World} (h : FoSt H BM MC N QC n v I L w0 w) {i j : Nat} (hi : i < N) (hj : j < N) (hI : I i j = false) (hp : PSet w' BM (n + 1) N (addB I i j)) (hg : w.grownBy w' (some BM)) :
    FoSt H BM MC N QC (n + 1) v (addB I i j) L w0 w' ∧ L.length + 1 + fals N (addB I i j) ≤ 10001 := by
  have hf := fals_add hi hj hI
  have h1 := h.few
  have h2 := h.lq
  have hq := h.cq.lt
  have hl := h.lo
  have hl1 := h.lo1
  have hl2 := h.lo2
  have blk : ∀ k, k < w.heap.size → k ≠ BM → w'.heap[k]? = w.heap[k]? := fun k hk e => hg.block k hk (fun e2 => e (Option.some.inj e2))
  refine ⟨⟨h.hb.grown hg (by have := h.pm.lt; omega) (fun k e => by have := Option.some.inj e; omega), h.cm.of_block (blk _ h.cm.lt (by omega)), hp, h.cq.of_block (blk _ hq (by omega)), hl1, hl2, hl, h.q.block (fun k k1 k2 => blk k k2 (by omega)), by omega, by omega⟩, by omega⟩
/-- The queue has grown, and lies in its cell. -/
theorem FoSt.push {H BM MC N QC n : Nat} {v v' : Value} {I : Nat → Nat → Bool} {L L' : List (Nat × Nat)} {w0 w w' : World} (h : FoSt H BM MC N QC n v I L w0 w) (hq : QPIs w' (MC + 1) v' L') (hg : w.grownBy w' v.ownBlock) (hl : L'.length + fals N I ≤ 10001) :
    FoSt H BM MC N QC n v' I L' w0 (w'.setCell ⟨QC, 0, none⟩ v') ∧ w'.cell? ⟨QC, 0, none⟩ = some v ∧ w'.frozen? ⟨QC, 0, none⟩ = false ∧ QC < w'.heap.size := by
  have hQ := h.cq.lt
  have hL := h.lo
  have hl1 := h.lo1
  have hl2 := h.lo2
  have blk : ∀ k, k < w.heap.size → some k ≠ v.ownBlock → w'.heap[k]? = w.heap[k]? := fun k hk e => hg.block k hk e
  have r1 := h.cq.of_block (blk QC hQ (h.q.ne h.cq (by decide)))
  have r2 := h.cm.of_block (blk MC h.cm.lt (h.q.ne h.cm (by decide)))
  have p1 := h.pm.kept (blk BM h.pm.lt (fun e => by have := h.q.ge e.symm; omega))
  have b1 := h.hb.grown hg (by have := h.pm.lt; omega) (fun k e => by have := h.q.ge e; omega)
  have hcq : QPIs (w'.setCell ⟨QC, 0, none⟩ v') (MC + 1) v' L' := by
    refine ⟨hq.choose, hq.choose_spec.choose, hq.choose_spec.choose_spec.choose, hq.choose_spec.choose_spec.choose_spec.choose, hq.choose_spec.choose_spec.choose_spec.choose_spec.choose, hq.choose_spec.choose_spec.choose_spec.choose_spec.choose_spec.1, ?_⟩
    have hh := hq.choose_spec.choose_spec.choose_spec.choose_spec.choose_spec.2
    have hv := hq.choose_spec.choose_spec.choose_spec.choose_spec.choose_spec.1
    have hne := hq.ne r1 (by decide)
    refine ⟨hh.ge, hh.len, hh.room, hh.row.setOther (fun e => hne ?_) _, hh.is⟩
    rw [hv]
    exact congrArg some e.symm
  refine ⟨⟨b1.setCell (by show H ≤ QC; omega) _, r2.setOther (show MC ≠ QC by omega) _, ?_, ?_, hl1, hl2, hL, hcq, h.few, hl⟩, r1.cell (by omega), r1.frozen 0, r1.lt⟩
  · obtain ⟨D, d1, d2⟩ := p1
    exact ⟨D, d1.setCell (show BM ≠ QC by omega) _, d2⟩
  · exact (r1.set 0 v').congr fun i hi => by have : i = 0 := by omega
                                             subst this; simp

set_option maxHeartbeats 1600000 in
set_option maxRecDepth 100000 in
theorem fadd_any1 {H BM MC N QC n : Nat} {v : Value} {I : Nat → Nat → Bool} {L : List (Nat × Nat)} {w0 w : World} (h : FoSt H BM MC N QC n v I L w0 w) (hN : N ≤ 100) {i j : Nat} (hi : i < N) (hj : j < N) :
    Calls Try.prog 62 #[.int .i64 (i : Int), .int .i64 (j : Int), .pointer (some ⟨MC, 0, none⟩), .pointer (some ⟨QC, 0, none⟩)] w fun e w' => e = .returned (.tuple #[]) ∧ ∃ n' v', FoSt H BM MC N QC n' v' (addB I i j) (addQ I L i j) w0 w' := by
  have St := Lib.hid (h.below (below1 w (Obj.cells #[.int .i64 (i : Int), .int .i64 (j : Int)] 52)))
  have hz := h.pm.lt
  have hl2 := h.lo2
  have hew : w.heap.size < (w.alloc (Obj.cells #[.int .i64 (i : Int), .int .i64 (j : Int)] 52)).heap.size := by simp
  obtain ⟨e0, e1⟩ := two_cells w (.int .i64 (i : Int)) (.int .i64 (j : Int)) 52
  have fr := row_facts (two_row w (.int .i64 (i : Int)) (.int .i64 (j : Int)) 52)
  go_enter Try.func62, Try.ntmps62
  go_upto_region 1 with fail
  generalize w.alloc (Obj.cells #[.int .i64 (i : Int), .int .i64 (j : Int)] 52) = w1 at *
  have cm := St.out.cm.cell (show 0 < 1 by omega)
  have lk := St.out.pm.look hi hj (by omega)
  have n1 : w.heap.size ≠ BM := by omega
  cases hI : I i j
  · rw [hI] at lk
    have H1 := Lib.hid hI
    have few := St.out.few
    clear hI
    obtain ⟨va, vc, rfl⟩ := St.out.q.form
    go_wp2_with (first
      | (at_builtin; refine wpList_append_qp rfl (.tmp 16) (.tmp 18) 22 rfl Try.underlying22 info2 _ L rfl S3.out.q _ 1 i j rfl e3.1 e3.2 (by omega) S3.out.cm.lt ?_; intro v5 w5 hq5 hg5; obtain ⟨a5, k5, rfl⟩ := hq5.form; obtain ⟨S5', c5, f5, l5⟩ := S3.out.push hq5 hg5 (by simpa using hq2); have S5 := Lib.hid S5'; clear S5' hq5 hg5)
      | (at_mapUpdate; refine wpList_put_pair rfl _ _ _ (.inl rfl) rfl St.out.pm hi hj (by omega) (by omega) rfl rfl ?_; intro w2 hp2 hg2; obtain ⟨S2', hq2⟩ := St.out.put hi hj H1.out hp2 hg2; have S2 := Lib.hid S2'; have c20 := (World.cell?_of_block (a := ⟨w.heap.size, 0, none⟩) (hg2.block _ hew (fun e => n1 (Option.some.inj e)))).trans e0; have c21 := (World.cell?_of_block (a := ⟨w.heap.size, 1, none⟩) (hg2.block _ hew (fun e => n1 (Option.some.inj e)))).trans e1; have cq2 := S2.out.cq.cell (show 0 < 1 by omega); have S3 := Lib.hid (S2.out.below (below1 w2 (Obj.cells #[.int .i64 (i : Int), .int .i64 (j : Int)] 52))); have e3 := two_cells w2 (.int .i64 (i : Int)) (.int .i64 (j : Int)) 52; have hz2 := S2.out.pm.lt; clear S2' hp2 hg2))
    refine bodyPost_end (v := .tuple #[]) (by simp [results, Try.results62, go_sem]) rfl ?_
    exact ⟨rfl, n + 1, .slice a5 (L.length + 1) k5, by have h5 := S5.out; simp only [List.length_append, List.length_cons, List.length_nil, Nat.zero_add] at h5; rw [addQ, if_neg (by rw [H1.out]; decide)]; exact h5⟩
  · rw [hI] at lk
    have H1 := Lib.hid hI
    clear hI
    go_wp2
    refine bodyPost_end (v := .tuple #[]) (by simp [results, Try.results62, go_sem]) rfl ?_
    exact ⟨rfl, n, v, by rw [addB_old H1.out, addQ, if_pos H1.out]; exact St.out⟩

end Go.Proofs.Ytnhhohhhpaejmaa
