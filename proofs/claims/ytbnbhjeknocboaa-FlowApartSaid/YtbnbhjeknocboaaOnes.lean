/- flow.ones. -/
import Derived.Test.YtbnbhjeknocboaaWaysM
import Derived.Test.YtbnbhjeknocboaaPD
namespace Go.Proofs.Ytbnbhjeknocboaa
open Go.RowKit

theorem IsInts.ofRowL {w : World} {b n : Nat} {t : TypeId} {f : Nat → Int} {L : List Int} (h : w.rowIs b t n (fun i => .int .i64 (f i))) (hn : n ≤ 9223372036854775807) (hL : L.length = n) (hf : ∀ i, i < n → f i = L.getD i 0) : IsInts w (.slice (some ⟨b, 0, none⟩) n n) L := by
  refine ⟨some ⟨b, 0, none⟩, n, b, 0, by rw [hL], by omega, hn, fun _ => rfl, by simp, fun j hj => ?_⟩
  rw [Nat.zero_add, h.cell (show j < n by omega), hf j (by omega)]

set_option maxHeartbeats 3200000 in
set_option maxRecDepth 100000 in
theorem ones_any (m : Nat) (w : World) (hm : m ≤ 1000) :
    Calls Try.prog 43 #[.int .i64 (m : Int)] w fun e w' => ∃ a c, e = .returned (.slice a m c) ∧ IsInts w' (.slice a m c) (onesL m) ∧ Below w.heap.size w w' := by
  have hmk := run_make_row' (P := Try.prog) 25 3 (.int .i64 0) 8 Try.underlying25 info3 rfl .i64 .i64 m (by omega) (by omega)
  go_enter Try.func43, Try.ntmps43
  go_upto_region 2 with fail
  clear hmk
  have HR := Lib.hid (World.rowIs_made w (.int .i64 0) m 3)
  have HB := Lib.hid (below1 w (.cells (madeCells #[Value.int .i64 0] m) 3))
  generalize w.alloc (.cells (madeCells #[Value.int .i64 0] m) 3) = w1 at *
  go_wp2
  go_loopg [9] m (fun g s9 wr => ∃ k : Nat, k ≤ m ∧ g = m - k ∧ s9 = .int .i64 k ∧ wr.rowIs w.heap.size 3 m (rn fun q => if q < k then 1 else 0) ∧ Below w.heap.size w wr)
  case atStart => exact ⟨0, Nat.zero_le _, rfl, rfl, HR.out.congr (fun k _ => by simp [rn]), HB.out⟩
  case round =>
    obtain ⟨k, hk, rfl, rfl, hr, hb⟩ := hrel
    have Hr := Lib.hid hr
    have Hb := Lib.hid hb
    by_cases hlt : k < m
    · have tc := hr.cell hlt
      have tf := hr.frozen k
      have tl := hr.lt
      simp only [rn] at tc
      clear hr hb
      go_wp2
      go_roundg (m - (k + 1))
      case measure => go_light; omega
      case rel => exact ⟨k + 1, by omega, rfl, by go_num, row_rn (row_set_rn Hr.out k 1) (fun q _ => by
        by_cases e : q = k
        · subst e; simp
        · have : (q < k + 1) ↔ q < k := by omega
          simp only [if_neg e, this]), Hb.out.setCell (p := ⟨w.heap.size, k, none⟩) (Nat.le_refl _) _⟩
    · obtain rfl : k = m := by omega
      clear hr hb
      go_wp2
      go_ret
      exact ⟨_, _, rfl, IsInts.ofRowL (f := fun q => ((if q < k then 1 else 0 : Nat) : Int)) Hr.out (by omega) (by simp [onesL]) (fun i hi => by simp [onesL, List.getD, hi]), Hb.out⟩

end Go.Proofs.Ytbnbhjeknocboaa
