/- chords.Orders$1: how two arcs stand; the library's sort over arcs. -/
import Derived.Test.YtnhhohhhpaejmaaCmpW
import Derived.Test.YtnhhohhhpaejmaaMake
import Derived.BigQuiet
namespace Go.Proofs.Ytnhhohhhpaejmaa
open Go.RowKit Go.Sort

theorem cmpI_two (x y u v : Int) : cmpI [x, y] [u, v] = cmpE (x, y) (u, v) := by
  unfold cmpE
  simp only [cmpI]
  split
  · split
    · rename_i h; exact h.symm
    · rfl
  · rfl
theorem two_ints {w : World} {B : Nat} {x y : Int} (h0 : w.cell? ⟨B, 0, none⟩ = some (.int .i64 x)) (h1 : w.cell? ⟨B, 1, none⟩ = some (.int .i64 y)) : IsInts w (.slice (some ⟨B, 0, none⟩) 2 2) [x, y] :=
  ⟨_, 2, B, 0, rfl, Nat.le_refl _, by omega, fun _ => rfl, by simp, fun j hj => by
    match j, hj with
    | 0, _ => exact h0
    | 1, _ => exact h1⟩

set_option maxHeartbeats 1600000 in
set_option maxRecDepth 100000 in
theorem ord1_any (x y u v : Int) (W : World) : Calls Try.prog 46 #[.agg #[.int .i64 x, .int .i64 y], .agg #[.int .i64 u, .int .i64 v]] W fun e w' => e = .returned (.int .i64 (cmpE (x, y) (u, v))) ∧ ∃ q os', w' = grow (W.drewN q) os' := by
  have hc := cmpI_two x y u v
  obtain ⟨a0, a1⟩ := two_cells W (.int .i64 x) (.int .i64 y) 52
  obtain ⟨b0, b1⟩ := two_cells (W.alloc (Obj.cells #[.int .i64 x, .int .i64 y] 52)) (.int .i64 u) (.int .i64 v) 52
  have a0 := below_cell (below1 (W.alloc (Obj.cells #[.int .i64 x, .int .i64 y] 52)) (Obj.cells #[.int .i64 u, .int .i64 v] 52)) a0
  have a1 := below_cell (below1 (W.alloc (Obj.cells #[.int .i64 x, .int .i64 y] 52)) (Obj.cells #[.int .i64 u, .int .i64 v] 52)) a1
  have hsz : (W.alloc (Obj.cells #[.int .i64 x, .int .i64 y] 52)).heap.size = W.heap.size + 1 := by simp
  rw [hsz] at b0 b1
  generalize cmpE (x, y) (u, v) = r at *
  have HC := Lib.hid hc
  obtain ⟨w2, hw2⟩ : ∃ w2, w2 = (W.alloc (Obj.cells #[.int .i64 x, .int .i64 y] 52)).alloc (Obj.cells #[.int .i64 u, .int .i64 v] 52) := ⟨_, rfl⟩
  rw [← hw2] at a0 a1 b0 b1
  have P1 := Lib.hid (fun n : Nat => scmp_any (w2.drewN n) (two_ints (show (w2.drewN n).cell? ⟨W.heap.size, 0, none⟩ = _ from a0) a1) (two_ints (show (w2.drewN n).cell? ⟨W.heap.size + 1, 0, none⟩ = _ from b0) b1))
  have HW := Lib.hid hw2
  clear hc
  go_enter Try.func46, Try.ntmps46
  go_upto_region 1 with fail
  rw [← hw2]
  clear hw2
  go_quiet ((first | with_reducible exact Calls.quiet_of_same (P1.out _)))
  go_wp2
  go_ret
  exact ⟨ret_int HC.out, nq, _, by rw [HW.out]; simp only [alloc_eq_grow, grow_grow]; rfl⟩

/-- slices.SortFunc over the arcs of one's own. -/
theorem sortO_any {w : World} {base g cap : Nat} {L : List (Int × Int)} (h : OwnE w base (.slice (some ⟨g, 0, none⟩) L.length cap) L) (hl : L.length ≤ 100000) :
    Calls Try.prog 45 #[.slice (some ⟨g, 0, none⟩) L.length cap, .func (.func 46) #[] #[]] w fun e w' => e = .returned (.tuple #[]) ∧
      ∃ L', OwnE w' base (.slice (some ⟨g, 0, none⟩) L.length cap) L' ∧ w.grownBy w' (some g) ∧ L'.length = L.length ∧ L'.Perm L ∧ L'.Pairwise fun a b => ¬ LexLt b a := by
  have eg : ∀ args w, (callFunc 46 args).run Try.prog w = .ok (.enter 46 args) w := enters_of Try.func46 (by kernel_rfl) rfl
  have hg : g < w.heap.size := World.ownsRow.lt h g rfl |>.2
  have hcon := Try.slices_SortFunc 2 Try.isAgg52 Try.sizeOf52 encE (fun _ => rfl) (fun x v hv => by simp [encE] at hv; rcases hv with rfl | rfl <;> rfl) cmpE cmpE_swo 46 #[] g 0 cap L.toArray w eg
    (fun _ _ _ _ x y => ord1_any x.1 x.2 y.1 y.2 _) h.holds hg (by simp; omega)
  rw [List.size_toArray] at hcon
  refine hcon.mono ?_
  rintro e w' ⟨rfl, d', n, os, hp, hs, rfl⟩
  obtain ⟨L', rfl, h1, h2, h3⟩ := sorted_list (by simpa using hp) (by simpa using hs)
  obtain ⟨k1, k2⟩ := h.sorted h1 n os
  exact ⟨rfl, L', k1, k2, h1, h2, h3⟩
theorem sortO_all {w : World} {base : Nat} {v : Value} {L : List (Int × Int)} (h : OwnE w base v L) (hl : L.length ≤ 100000) :
    Calls Try.prog 45 #[v, .func (.func 46) #[] #[]] w fun e w' => e = .returned (.tuple #[]) ∧
      ∃ L', OwnE w' base v L' ∧ w.grownBy w' v.ownBlock ∧ L'.length = L.length ∧ L'.Perm L ∧ L'.Pairwise fun a b => ¬ LexLt b a := by
  have h0 : w.ownsRow base 52 2 v L.length (cells2 L) := h
  rcases h0.2 with ⟨rfl, h2⟩ | ⟨g, cap, cur, rfl, -⟩
  · obtain rfl : L = [] := List.eq_nil_of_length_eq_zero h2
    have hcon : Calls Try.prog 45 #[.slice none 0 0, .func (.func 46) #[] #[]] w fun e w' => e = .returned (.tuple #[]) ∧ w' = w := by
      first
        | exact Try.slices_SortFunc_none_f45 (α := Int × Int) none 0 _ w
        | exact Try.slices_SortFunc_none (α := Int × Int) none 0 _ w
    refine hcon.mono ?_
    rintro e w' ⟨rfl, rfl⟩
    exact ⟨rfl, [], h, ⟨rfl, rfl, rfl, Nat.le_refl _, fun _ _ _ => rfl⟩, rfl, List.Perm.refl _, List.Pairwise.nil⟩
  · exact sortO_any h hl

end Go.Proofs.Ytnhhohhhpaejmaa
