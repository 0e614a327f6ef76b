/- arborref.Odd: nodes of an odd number of edges, of a table. -/
import Derived.Test.YtnmljgjegodkaaaOddW
import Derived.Test.YtnmljgjegodkaaaHasGrid
namespace Go.Proofs.Ytnmljgjegodkaaa
open Go.RowKit

set_option maxHeartbeats 3200000 in
set_option maxRecDepth 100000 in
theorem rodd_any (N : Nat) (G : Nat → Nat → Bool) (gv : Value) (w : World) (hN : N ≤ 100) (hg : HasGrid w gv N G) :
    Calls Try.prog 16 #[gv] w fun e w' => ∃ x, e = .returned x ∧ w'.ownsRow w.heap.size 3 1 x (oddL N G).length (nvals (oddL N G)) ∧ Below w.heap.size w w' := by
  have HG := Lib.hid hg
  obtain ⟨Bg, ga, gc, gb, go', R0, rfl, -⟩ := hg
  go_enter Try.func16, Try.ntmps16
  go_wp2
  go_loopg [3, 4] N (fun g s3 s9 wr => ∃ i : Nat, i ≤ N ∧ g = N - i ∧ s9 = .int .i64 (i : Int) ∧ wr.ownsRow w.heap.size 3 1 s3 (oddTo N G i).length (nvals (oddTo N G i)) ∧ Below w.heap.size w wr)
  case atStart => exact ⟨0, Nat.zero_le _, rfl, rfl, World.ownsRow_nil _ _ _ _, Below.refl _ _⟩
  case round =>
    obtain ⟨i, hi, rfl, rfl, ho, hb⟩ := hrel
    obtain ⟨a2, c2, rfl⟩ := ownsRow_form ho
    have hz := hb.size
    have Ho := Lib.hid ho; have Hb := Lib.hid hb
    by_cases hlt : i < N
    · have hsu := oddTo_succ N G i
      have hcl : (oddTo N G i).length ≤ 100 := by have := List.length_filter_le (fun v => decide (cntN N (G v) % 2 = 1)) (List.range i); rw [List.length_range] at this; exact Nat.le_trans this (by omega)
      have hcn := cntN_le N (G i)
      have Hent := Lib.hid (fun j (hj : j < N) => (HG.out.below hb).entry hlt hj)
      have Hsu := Lib.hid hsu
      clear ho hb hsu
      generalize hcc : oddTo N G i = cc at *
      have Hcc := Lib.hid hcc
      clear hcc
      go_wp2
      go_loopg [5, 6] N (fun g s5 s6 wx => ∃ j : Nat, j ≤ N ∧ g = N - j ∧ s6 = .int .i64 (j : Int) ∧ s5 = .int .i64 (cntN j (G i) : Int) ∧ wr = wx)
      case atStart => exact ⟨0, Nat.zero_le _, rfl, rfl, rfl, rfl⟩
      case round =>
        obtain ⟨j, hj, rfl, rfl, rfl, rfl⟩ := hrel
        have hcs := cntN_succ j (G i)
        have hcj := cntN_le j (G i)
        by_cases hlj : j < N
        · obtain ⟨b', o', c', r', e, t1, t2⟩ := Hent.out j hlj
          simp only [Value.slice.injEq] at e
          obtain ⟨rfl, -, rfl⟩ := e
          have Hcs := Lib.hid hcs
          clear hcs
          generalize hcx : cntN j (G i) = cx at *
          have hw : IntKind.i64.wrap ((cx : Int) + 1) = ((cx + 1 : Nat) : Int) := by rw [show (cx : Int) + 1 = ((cx + 1 : Nat) : Int) by omega, wrap_midF (by omega) (by omega)]
          clear hcx
          cases hgij : G i j with
          | true =>
            rw [hgij] at t2
            have H1 := Lib.hid (show cntN (j + 1) (G i) = cx + 1 by rw [Hcs.out, hgij]; rfl)
            clear hgij
            go_wp2
            go_roundg (N - (j + 1))
            case measure => go_light; omega
            case rel => exact ⟨j + 1, by omega, rfl, by go_num, by rw [H1.out]; push_cast; rfl, rfl⟩
          | false =>
            rw [hgij] at t2
            have H1 := Lib.hid (show cntN (j + 1) (G i) = cx by rw [Hcs.out, hgij]; rfl)
            clear hgij
            go_wp2
            go_roundg (N - (j + 1))
            case measure => go_light; omega
            case rel => exact ⟨j + 1, by omega, rfl, by go_num, by rw [H1.out], rfl⟩
        · obtain rfl : N = j := by omega
          clear hcs hlj hj hcj
          have hsu := Hsu.out
          generalize cntN N (G i) = d at *
          by_cases hd : d % 2 = 1
          · rw [if_pos hd] at hsu
            have Hsu := Lib.hid hsu
            have htm1 : ((d : Int) % 2 == 1) = true := by rw [beq_iff_eq]; omega
            clear hsu hd
            go_wp2_with (at_builtin; refine wpList_append_has rfl (.tmp 31) (.tmp 33) 29 rfl w.heap.size 3 (.int .i64 0) 8 Try.underlying29 info3 rfl (.slice a2 cc.length c2) cc.length (nvals cc) rfl (Ho.out.alloc _) _ 1 (nvals [i]) rfl (HasCells.one _ _ _ rfl) (by omega) (by omega) (by simp; omega) ?_; intro a5 c5 w6 ho5 hg5; have Ho5 := Lib.hid ho5; have Hb6 := Lib.hid ((Hb.out.alloc hz (Obj.cells #[.int .i64 (i : Int)] 3)).grown hg5 (by simp; omega) (fun g e => (Ho.out.lt g e).1)); clear ho5 hg5)
            go_roundg (N - (i + 1))
            case measure => go_light; omega
            case rel => exact ⟨i + 1, by omega, rfl, by go_num, by rw [Hsu.out]; have h5 := Ho5.out; simpa [nvals, ints] using h5, Hb6.out⟩
          · rw [if_neg hd, List.append_nil] at hsu
            have Hsu := Lib.hid hsu
            have htm1 : ((d : Int) % 2 == 1) = false := by rw [beq_eq_false_iff_ne]; omega
            clear hsu hd
            go_wp2
            go_roundg (N - (i + 1))
            case measure => go_light; omega
            case rel => exact ⟨i + 1, by omega, rfl, by go_num, by rw [Hsu.out]; exact Ho.out, Hb.out⟩
    · obtain rfl : N = i := by omega
      clear ho hb
      go_wp2
      exact bodyPost_ret (v := .slice a2 (oddTo N G N).length c2) (by simp [results, Try.results16, go_sem]) rfl ⟨_, rfl, Ho.out, Hb.out⟩

end Go.Proofs.Ytnmljgjegodkaaa
