/- slices.Sorted(slices.Values(l)): a new list that holds what l holds, rising. -/
import Derived.Test.YtnhhohhhpaejmaaNbMem
import Derived.RangeFuncBox
import Derived.RangeFuncLeaves
import Derived.RangeFuncWrites
import Derived.Shelf.Abstract
import Derived.Shelf.AbstractIn
import Derived.WalkKit
import Derived.OwnWalkIn
import Derived.TacticsInMore
import Derived.LoopNIn
import Derived.LoopIn
import Derived.Maps.AppendAt
namespace Go.Proofs.Ytnhhohhhpaejmaa
open Go Go.RowKit Go.Shelf

attribute [local go_sem] Oper.semAt_some

/-- The box holds a list, whose cells lie below n0. -/
def ValsAt (n0 : Nat) (W : World) (Bs : Nat) (L : List Int) : Prop :=
  ∃ a c, W.cell? ⟨Bs, 0, none⟩ = some (.slice a L.length c) ∧ ∀ j, j < L.length → ∃ b off, a = some ⟨b, off, none⟩ ∧ b < n0 ∧ W.cell? ⟨b, off + j, none⟩ = some (.int .i64 (L.getD j 0))
theorem ValsAt.below {n0 : Nat} {A B : World} {Bs : Nat} {L : List Int} (h : ValsAt n0 A Bs L) (hB : Bs < n0) (hb : Below n0 A B) : ValsAt n0 B Bs L := by
  obtain ⟨a, c, h1, h2⟩ := h
  refine ⟨a, c, (hb.cell (p := ⟨Bs, 0, none⟩) hB).trans h1, fun j hj => ?_⟩
  obtain ⟨b, off, e, hlt, hc⟩ := h2 j hj
  exact ⟨b, off, e, hlt, (hb.cell (p := ⟨b, off + j, none⟩) hlt).trans hc⟩
theorem take_snocV {L : List Int} {k : Nat} (h : k < L.length) : L.take (k + 1) = L.take k ++ [L.getD k 0] := by
  rw [List.take_add_one, List.getD, List.getElem?_eq_getElem h]; rfl

set_option maxRecDepth 100000 in
set_option maxHeartbeats 2000000 in
/-- The iterator of slices.Values, for every loop body that keeps what lay below n0. -/
theorem vals1_in (n : Nat) (hn : 1 ≤ n) (l Bs n0 : Nat) (L : List Int) (hreach : L.length * 8 ≤ 140737488351232) (hB : Bs < n0) (J Jx : List Int → World → Prop)
    (hY : ∀ pre x W, J pre W → pre.length < L.length → YieldAt Fence.wide (n - 1) Try.prog l #[.int .i64 x] W fun e W' =>
      (e = .returned (.bool true) ∧ J (pre ++ [x]) W' ∧ Below n0 W W') ∨ (e = .returned (.bool false) ∧ Jx (pre ++ [x]) W'))
    (W : World) (hv : ValsAt n0 W Bs L) (h0 : J [] W) :
    CallsIn Fence.wide n Try.prog 70 #[.func (.yield l) #[] #[], .pointer (some ⟨Bs, 0, none⟩)] W fun e W' => (∃ v, e = .returned v) ∧
      ((∃ ys, ys = L ∧ J ys W') ∨ (∃ pre, True ∧ Jx pre W')) := by
  obtain ⟨a, c, hBs, hc⟩ := id hv
  refine callsIn_of_wp Try.func70 rfl trivial ?_ rfl
  simp only [Try.ntmps70, List.size_toArray, List.length_cons, List.length_nil, Nat.reduceAdd, Nat.reduceSub, Array.replicate_succ, Array.replicate_zero, List.push_toArray, List.append_toArray, List.nil_append, List.cons_append]
  gi_wp2
  gi_loopw [7] (fun i wr => ∃ k : Nat, k ≤ L.length ∧ i = .int .i64 k ∧ J (L.take k) wr ∧ Below n0 W wr)
    (fun i _ => L.length - (intOf i).toNat)
  case atStart => exact ⟨0, Nat.zero_le _, rfl, by simpa using h0, Below.refl _ _⟩
  case round =>
    obtain ⟨k, hk, rfl, hJs, hnx⟩ := hrel
    by_cases hlt : k < L.length
    · obtain ⟨b, off, rfl, hbn, hcx⟩ := hc k hlt
      have hcx' : wr.cell? ⟨b, off + k, none⟩ = some (.int .i64 (L.getD k 0)) := (hnx.cell (p := ⟨b, off + k, none⟩) hbn).trans hcx
      obtain ⟨fn, tmps, assign, body, hy, hR⟩ := hY _ (L.getD k 0) wr hJs (by rw [List.length_take]; omega)
      have hsn := take_snocV hlt
      clear hcx
      generalize L.getD k 0 = x at *
      gi_wp2
      refine hR.mono ?_
      rintro e W3 (⟨rfl, hJ3, hk3⟩ | ⟨rfl, hJx3⟩)
      · gi_wp2
        go_roundw
        case rel => exact ⟨k + 1, by omega, by simp, by rw [hsn]; exact hJ3, hnx.trans hk3⟩
        case measure => simp [intOf]; omega
      · gi_wp2
        refine bodyPost_ret (results_none rfl _ _ _) rfl ?_
        exact ⟨⟨_, rfl⟩, .inr ⟨_, trivial, hJx3⟩⟩
    · obtain rfl : k = L.length := by omega
      gi_wp2
      go_end0
      exact ⟨⟨_, rfl⟩, .inl ⟨_, rfl, by simpa using hJs⟩⟩

theorem vals_stops (n : Nat) (hn : 1 ≤ n) (Bs n0 : Nat) (L : List Int) (hreach : L.length * 8 ≤ 140737488351232) (w : World) (hB : Bs < n0) (hn0 : n0 ≤ w.heap.size) (hv : ValsAt n0 w Bs L) :
    SeqStopsK Fence.wide n Try.prog 70 #[.pointer (some ⟨Bs, 0, none⟩)] (fun x : Int => #[Value.int .i64 x]) (Below n0) (fun ys => ys = L) (fun _ => True) L.length w := fun l J Jx W hW _ _ hY h0 =>
  vals1_in n hn l Bs n0 L hreach hB J Jx hY W (hv.below hB (hW.mono hn0)) h0

theorem eg_vals : ∀ args w, (callFunc 70 args).run Try.prog w = .ok (.enter 70 args) w := enters_of Try.func70 (by kernel_rfl) rfl

set_option maxRecDepth 100000 in
set_option maxHeartbeats 2000000 in
/-- slices.AppendSeq at no list and such an iterator. -/
theorem appendSeq_in (n : Nat) (hn : 3 ≤ n) (Bs : Nat) (L : List Int) (hlen : L.length ≤ 100000) (w : World) (hB : Bs < w.heap.size) (hv : ValsAt w.heap.size w Bs L) :
    CallsIn Fence.wide n Try.prog 85 #[.slice none 0 0, .func (.func 70) #[] #[.pointer (some ⟨Bs, 0, none⟩)]] w fun e W' => ∃ v, e = .returned v ∧ W'.ownsRow w.heap.size 3 1 v L.length (L.map (Value.int .i64)) ∧ Below w.heap.size w W' := by
  have h1 : 1 ≤ n := by omega
  obtain ⟨i0, hi, hz0, hz1, hz2⟩ := info_parts info3
  refine callsIn_of_wp_marks Try.func85 rfl trivial ?_ rfl
  simp only [Try.ntmps85, List.size_toArray, List.length_cons, List.length_nil, Nat.reduceAdd, Nat.reduceSub, Array.replicate_succ, Array.replicate_zero, List.push_toArray, List.append_toArray, List.nil_append, List.cons_append]
  gi_wp2
  have bO := Boxed.new w 29 (.slice none 0 0)
  have hB0 : Below w.heap.size w (w.alloc (.cells #[.slice none 0 0] 29)) := (Below.refl _ w).alloc (Nat.le_refl _) _
  refine wpIn_rangeFunc_ownG rfl h1 (gf := 70) (lb := #[.pointer (some ⟨Bs, 0, none⟩)]) rfl trivial eg_vals
    (vals_stops (n - 1) (by omega) Bs w.heap.size L (by omega) _ hB (by simp) (hv.below hB hB0)) belowK_t (belowK_b (by simp)) (Below.refl _ _) (fun _ => rfl)
    (fun (pre : List Int) W => (∃ v, Boxed W w.heap.size 29 v ∧ W.ownsRow w.heap.size 3 1 v pre.length (pre.map (Value.int .i64)) ∧ True) ∧ Below w.heap.size w W)
    (fun _ _ _ => False)
    (OwnFrom.and (Own.from (holdsRow_own w.heap.size w.heap.size 29 3 1 (fun pre : List Int => pre.length) (fun pre : List Int => pre.map (Value.int .i64)) (fun _ _ => True)) _) (ownFrom_below (Nat.le_refl _) (by simp)))
    (fun _ _ _ _ _ hs _ _ => hs)
    ⟨⟨_, bO, World.ownsRow_nil _ _ _ _, trivial⟩, hB0⟩
    (fun x => { tmps := #[.slice none 0 0, .func (.func 70) #[] #[.pointer (some ⟨Bs, 0, none⟩)], .pointer (some ⟨w.heap.size, 0, none⟩), undef, .slice none 0 0, .int .i64 x, .func (.func 70) #[] #[.pointer (some ⟨Bs, 0, none⟩)], .int .i64 x, undef, undef, undef, undef, undef], defers := [] }) ?assign ?body ?done ?stop
  case assign =>
    intro l x W K hK
    gi_wp2
    exact hK
  case body =>
    rintro l pre x W ⟨⟨v, hv, hrow, -⟩, hB⟩ hlt
    have hc := hv.cell
    gi_wp2_with (gi_at_builtin; (refine wpListIn_append_own _ rfl _ _ 29 rfl w.heap.size 3 i0 (.int .i64 0) 1 8 Try.underlying29 hi hz0 hz1 hz2 rfl (by decide) _ _ _ rfl (hrow.alloc _) ⟨W.heap.size, 0, none⟩ 1 1 [.int .i64 x] rfl rfl (cell_one_new _ _ _) (by simp [Value.oneCell']) (by simp [maxLen]; omega) (by omega) (by have := hB.size; simp; omega) ?_; intro v' w1 hown' hgrow _; obtain ⟨g', cap', rfl⟩ := ownsRow_succ hown'; obtain ⟨hv1, hv2, hr2, hk2, hb2⟩ := hv.appended (by decide) hrow hB.size (Nat.le_refl _) hown' hgrow; have hc1 := hv1.cell; have hf1 := hv1.frozen))
    exact ⟨hk2.from _, hb2, ⟨_, hv2, by simpa using hr2, trivial⟩, hB.trans hb2⟩
  case done =>
    rintro D ys W hD rfl ⟨⟨v, hv, hrow, -⟩, hB⟩ hK
    have hc := hv.cell
    gi_wp2
    refine ⟨by simp, .inl ⟨_, _, rfl, run_takeDeferred hK, ?_⟩⟩
    exact ⟨_, results_tmp rfl _ _ _, v, rfl, ownsRow_putObj hrow _ hK rfl, hB.trans (belowK_b (w := w) (Nat.le_refl _) W D _ _ (by simp at hD; omega) hK rfl rfl)⟩
  case stop =>
    rintro D c pre W _ _ h _
    exact h.elim

set_option maxRecDepth 100000 in
set_option maxHeartbeats 2000000 in
theorem collect_in (n : Nat) (hn : 4 ≤ n) (Bs : Nat) (L : List Int) (hlen : L.length ≤ 100000) (w : World) (hB : Bs < w.heap.size) (hv : ValsAt w.heap.size w Bs L) :
    CallsIn Fence.wide n Try.prog 68 #[.func (.func 70) #[] #[.pointer (some ⟨Bs, 0, none⟩)]] w fun e W' => ∃ v, e = .returned v ∧ W'.ownsRow w.heap.size 3 1 v L.length (L.map (Value.int .i64)) ∧ Below w.heap.size w W' := by
  have hf : Fence.wide.fn 85 := trivial
  have h1 : 1 ≤ n := by omega
  refine callsIn_of_wp Try.func68 rfl trivial ?_ rfl
  simp only [Try.ntmps68, List.size_toArray, List.length_cons, List.length_nil, Nat.reduceAdd, Nat.reduceSub, Array.replicate_succ, Array.replicate_zero, List.push_toArray, List.append_toArray, List.nil_append, List.cons_append]
  gi_wp2_with (gi_at_call 85; (refine (appendSeq_in (n - 1) (by omega) Bs L hlen w hB hv).mono ?_; rintro e w' ⟨v, rfl, hrow, hb⟩))

  go_ret
  exact ⟨v, rfl, hrow, hb⟩

set_option maxRecDepth 100000 in
set_option maxHeartbeats 2000000 in
theorem sortedV_any (Bs : Nat) (L : List Int) (hlen : L.length ≤ 100000) (w : World) (hB : Bs < w.heap.size) (hv : ValsAt w.heap.size w Bs L) :
    Calls Try.prog 57 #[.func (.func 70) #[] #[.pointer (some ⟨Bs, 0, none⟩)]] w fun e W' => ∃ v, e = .returned v ∧ W'.ownsRow w.heap.size 3 1 v L.length ((L.mergeSort fun x y => decide (x ≤ y)).map (Value.int .i64)) ∧ Below w.heap.size w W' := by
  have hc := (callsIn_wide (n := 4)).1 (collect_in 4 (Nat.le_refl _) Bs L hlen w hB hv)
  go_enter Try.func57, Try.ntmps57
  go_upto_region 2 with (go_at_call 68; refine hc.mono ?_; rintro e w1 ⟨v, rfl, hrow, hb⟩; have Hrow := Lib.hid hrow; have Hb := Lib.hid hb; clear hrow hb)
  clear hc
  go_wp2_with (go_at_call 69; refine (sortI_any Hrow.out hlen).mono ?_; rintro e w2 ⟨rfl, hrow2, hg2⟩; have Hrow2 := Lib.hid hrow2; have Hg2 := Lib.hid hg2; clear hrow2 hg2)
  go_ret
  exact ⟨_, rfl, Hrow2.out, Hb.out.grown Hg2.out Hb.out.size (fun g e => (Hrow.out.lt g e).1)⟩

set_option maxRecDepth 100000 in
/-- slices.Values: the list in a box. -/
theorem values_any (a : Option Addr) (len cap : Nat) (w : World) :
    Calls Try.prog 58 #[.slice a len cap] w fun e w' => e = .returned (.func (.func 70) #[] #[.pointer (some ⟨w.heap.size, 0, none⟩)]) ∧ w' = w.alloc (.cells #[.slice a len cap] 29) := by
  go_enter Try.func58, Try.ntmps58
  go_wp2
  go_ret
  exact ⟨rfl, rfl⟩
theorem ValsAt.of_ints {w : World} {a : Option Addr} {c : Nat} {L : List Int} (h : IsInts w (.slice a L.length c) L) : ValsAt (w.alloc (.cells #[.slice a L.length c] 29)).heap.size (w.alloc (.cells #[.slice a L.length c] 29)) w.heap.size L := by
  obtain ⟨a', c', b, o, e, -, -, had, -, hcell⟩ := h
  obtain ⟨rfl, -, rfl⟩ : a = a' ∧ L.length = L.length ∧ c = c' := by simpa using e
  refine ⟨a, c, by rw [World.cell?_alloc_at _ _ _ _ rfl]; rfl, fun j hj => ⟨b, o, had (by omega), ?_, below_cell (below1 _ _) (hcell j hj)⟩⟩
  have := hcell j hj
  obtain ⟨ob, h1, -⟩ := cells_of_cell this
  have := (Array.getElem?_eq_some_iff.1 h1).1
  rw [World.size_alloc]
  exact Nat.lt_succ_of_lt this

end Go.Proofs.Ytnhhohhhpaejmaa
