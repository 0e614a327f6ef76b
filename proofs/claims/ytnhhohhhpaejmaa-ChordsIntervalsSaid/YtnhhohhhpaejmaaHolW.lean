/- arborref.Hole: a ring without a chord by all sets of nodes. -/
import Derived.Test.YtnhhohhhpaejmaaPJ
import Derived.Test.YtnhhohhhpaejmaaPP
import Derived.Test.YtnhhohhhpaejmaaPG
import Derived.Test.YtnhhohhhpaejmaaPA
import Derived.Test.YtnhhohhhpaejmaaCli1W
import Derived.BigQuiet
import Derived.Deep.LoopGhost
import Derived.Deep.Light
namespace Go.Proofs.Ytnhhohhhpaejmaa
open Go Go.RowKit

/-- What Hole answers. -/
def HolePost (N : Nat) (G : Nat → Nat → Bool) (w : World) (e : Ending) (w' : World) : Prop := (∃ x : Bool, e = .returned (.bool x) ∧ ((∃ m, HolR N G m) → x = true)) ∧ Below w.heap.size w w'
/-- None so far. -/
def NoHS (N : Nat) (G : Nat → Nat → Bool) (s : Nat) : Prop := ∀ t, t < s → ¬ HoleS N G t
theorem NoHS.next {N : Nat} {G : Nat → Nat → Bool} {s : Nat} (h : NoHS N G s) (hn : ¬ HoleS N G s) : NoHS N G (s + 1) := fun t ht => by
  by_cases e : t = s
  · subst e; exact hn
  · exact h t (by omega)
set_option maxHeartbeats 6400000 in
set_option maxRecDepth 100000 in
theorem hole_any (N : Nat) (G : Nat → Nat → Bool) (gv : Value) (w : World) (hN : N ≤ 12) (hsym : ∀ i j, G i j = G j i) (hirr : ∀ i, i < N → G i i = false) (hg : HasGrid w gv N G) :
    Calls Try.prog 27 #[gv] w (HolePost N G w) := by
  have Hg := Lib.hid hg
  have Hm := Lib.hid (show ∀ m, HolR N G m → ∃ s, s < 2 ^ N ∧ HoleS N G s from fun m hm => hole_mask hsym hirr hm)
  clear hsym hirr
  obtain ⟨B, ga, gc, gb, go, R0, rfl, -⟩ := hg
  obtain ⟨M, hM⟩ : ∃ M : Nat, M = 2 ^ N := ⟨_, rfl⟩
  have e0 := op_shl (show N < 62 by omega)
  rw [show pow2 N = M from hM.symm] at e0
  have hM1 : M ≤ 4096 := by rw [hM]; exact Nat.pow_le_pow_right (n := 2) (by decide) hN
  rw [← hM] at Hm
  clear hM
  go_enter Try.func27, Try.ntmps27
  go_upto_region 2 with fail
  go_loopg [3, 4, 5, 6, 7, 8, 9, 10, 11] M (fun g s3 s4 s5 s6 s7 s8 s9 s10 s11 wr => ∃ s, s ≤ M ∧ g = M - s ∧ s3 = .int .i64 (s : Int) ∧ Below w.heap.size w wr ∧ NoHS N G s)
  case atStart => exact ⟨0, Nat.zero_le _, rfl, rfl, Below.refl _ _, fun t ht => absurd ht (Nat.not_lt_zero _)⟩
  case round =>
    obtain ⟨s, hs, rfl, rfl, hb, hno⟩ := hrel
    have Hb := Lib.hid hb
    have Hno := Lib.hid hno
    have hsz := hb.size
    clear hb hno
    by_cases hlt : s < M
    · have hsF : Few s := by show s < 4611686018427387904; omega
      go_upto_region 6 with fail
      obtain ⟨wo, rfl⟩ : ∃ wo : World, wo = wr := ⟨_, rfl⟩
      go_loopg [4, 5] N (fun g s4 s5 wr => ∃ v : Nat, v ≤ N ∧ g = N - v ∧ s5 = .int .i64 (v : Int) ∧ wr.ownsRow wo.heap.size 3 1 s4 (selL v s).length (nvals (selL v s)) ∧ Below wo.heap.size wo wr)
      case atStart => exact ⟨0, Nat.zero_le _, rfl, rfl, by rw [show selL 0 s = [] from rfl]; exact World.ownsRow_nil _ _ _ _, Below.refl _ _⟩
      case round =>
        obtain ⟨u, hu, rfl, rfl, hol, hbl⟩ := hrel
        obtain ⟨la, lc, rfl⟩ := ownsRow_form hol
        have hll := selL_len u s
        have hzl := hbl.size
        have Hol := Lib.hid hol; have Hbl := Lib.hid hbl
        clear hol hbl
        by_cases huv : u < N
        · have e1 := op_shr s u
          have e2 := op_bit (v := u) hsF
          have Hsu := Lib.hid (selL_succ u s)
          generalize hcc : selL u s = cc at *
          clear hcc
          cases hbit : s.testBit u with
          | true =>
            have Hbit := Lib.hid hbit
            rw [bit_one hbit, show ((1 : Nat) : Int) = 1 from rfl] at e2
            clear hbit
            generalize shr s u = sv at *
            go_wp2_with (at_builtin; refine wpList_append_has rfl (.tmp 30) (.tmp 32) 29 rfl wo.heap.size 3 (.int .i64 0) 8 Try.underlying29 info3 rfl _ cc.length (nvals cc) rfl (Hol.out.alloc _) _ 1 (nvals [u]) rfl (HasCells.one _ _ _ rfl) (by omega) (by omega) (by simp; omega) ?_; intro a2 c2 w2 hown2 hg2; have Hown2 := Lib.hid hown2; have Hg2 := Lib.hid ((Hbl.out.alloc hzl (Obj.cells #[Value.int .i64 (u : Int)] 3)).grown hg2 (by rw [World.size_alloc]; omega) (fun g e => (Hol.out.lt g e).1)); clear hown2 hg2)
            go_roundg (N - (u + 1))
            case measure => go_light; omega
            case rel =>
              refine ⟨u + 1, by omega, rfl, by go_num, ?_, Hg2.out⟩
              rw [Hsu.out, Hbit.out, if_pos rfl, List.length_append, nvals_append]
              exact Hown2.out
          | false =>
            have Hbit := Lib.hid hbit
            rw [bit_zero hbit, show ((0 : Nat) : Int) = 0 from rfl] at e2
            clear hbit
            generalize shr s u = sv at *
            go_wp2
            go_roundg (N - (u + 1))
            case measure => go_light; omega
            case rel =>
              refine ⟨u + 1, by omega, rfl, by go_num, ?_, Hbl.out⟩
              rw [Hsu.out, Hbit.out, if_neg (by decide)]
              exact Hol.out
        · obtain rfl : u = N := by omega
          obtain ⟨w4, rfl⟩ : ∃ w4 : World, w4 = wr := ⟨_, rfl⟩
          by_cases h4 : (selL u s).length < 4
          · have Hn := Lib.hid (Hno.out.next fun h => by have := h.1; omega)
            have Hb4 := Lib.hid (Hb.out.trans (Hbl.out.mono Hb.out.size))
            generalize hll2 : (selL u s).length = ll at *
            clear hll2
            go_wp2
            go_roundg (M - (s + 1))
            case measure => go_light; omega
            case rel => exact ⟨s + 1, by omega, rfl, by go_num, Hb4.out, Hn.out⟩
          · have Hlt := Lib.hid (show ∀ x ∈ selL u s, x < u from fun x hx => (mem_selL.1 hx).1)
            have Hsel := Lib.hid (show HoleS u G s ↔ 4 ≤ (selL u s).length ∧ (∀ x ∈ selL u s, ((selL u s).filter (G x)).length = 2) ∧ partsF u G (outS u s) = 1 from Iff.rfl)
            have Hb4 := Lib.hid (Hb.out.trans (Hbl.out.mono Hb.out.size))
            generalize selL u s = l at *
            have HI := Lib.hid (IsInts.owned (l := ints l) Hol.out)
            obtain ⟨ll, hl2⟩ : ∃ ll, l.length = ll := ⟨_, rfl⟩
            have Hll := Lib.hid hl2
            rw [hl2] at h4 hll
            rw [hl2]
            clear hl2 Hol Hbl hzl
            have hmk := run_make_row' (P := Try.prog) 39 4 (.bool false) 1 Try.underlying39 info4 rfl .i64 .i64 u (by omega) (by omega)
            have hr1 := World.rowIs_made w4 (.bool false) u 4
            have R1 := Lib.hid (RcSt.mk (bI := w4.heap.size) (I := fun q => decide (q < 0) && outS u s q) (below1 w4 (.cells (madeCells #[.bool false] u) 4)) (Nat.le_refl _) (hr1.congr fun _ _ => by simp [rb]))
            clear hr1
            go_upto_region 13 with fail
            clear hmk
            generalize w4.alloc (.cells (madeCells #[.bool false] u) 4) = w5 at *
            go_loopg [7] u (fun g s7 wr => ∃ v : Nat, v ≤ u ∧ g = u - v ∧ s7 = .int .i64 (v : Int) ∧ RcSt w4 wr w4.heap.size u (fun q => decide (q < v) && outS u s q))
            case atStart => exact ⟨0, Nat.zero_le _, rfl, rfl, R1.out⟩
            case round =>
              obtain ⟨v, hv, rfl, rfl, hst⟩ := hrel
              have Hst := Lib.hid hst
              by_cases hvl : v < u
              · have lr := hst.row.lt
                have f2 := hst.row.frozen v
                obtain ⟨y2, t2⟩ : ∃ y, wr.cell? ⟨w4.heap.size, v, none⟩ = some y := ⟨_, hst.row.cell hvl⟩
                have Step := Lib.hid (show ∀ x, x = outS u s v → RcSt w4 (wr.setCell ⟨w4.heap.size, v, none⟩ (.bool x)) w4.heap.size u (fun q => decide (q < v + 1) && outS u s q) from fun x hx => by
                  refine ⟨(hst.set v x).hb, Nat.le_refl _, row_rb (hst.set v x).row fun q hq => ?_⟩
                  by_cases e : q = v
                  · subst e; rw [if_pos rfl, hx]; simp
                  · rw [if_neg e]
                    by_cases h1 : q < v
                    · rw [decide_eq_true h1, decide_eq_true (show q < v + 1 by omega)]
                    · rw [decide_eq_false h1, decide_eq_false (show ¬ q < v + 1 by omega)])
                have e1 := op_shr s v
                have e2 := op_bit (v := v) hsF
                clear hst
                cases hbit : s.testBit v with
                | true =>
                  have Hx := Lib.hid (Step.out false (by unfold outS; simp [hvl, hbit]))
                  rw [bit_one hbit, show ((1 : Nat) : Int) = 1 from rfl] at e2
                  clear hbit
                  generalize shr s v = sv at *
                  go_wp2
                  go_roundg (u - (v + 1))
                  case measure => go_light; omega
                  case rel => exact ⟨v + 1, by omega, rfl, by go_num, Hx.out⟩
                | false =>
                  have Hx := Lib.hid (Step.out true (by unfold outS; simp [hvl, hbit]))
                  rw [bit_zero hbit, show ((0 : Nat) : Int) = 0 from rfl] at e2
                  clear hbit
                  generalize shr s v = sv at *
                  go_wp2
                  go_roundg (u - (v + 1))
                  case measure => go_light; omega
                  case rel => exact ⟨v + 1, by omega, rfl, by go_num, Hx.out⟩
              · obtain rfl : v = u := by omega
                obtain ⟨w6, rfl⟩ : ∃ w6 : World, w6 = wr := ⟨_, rfl⟩
                have hrow : w6.rowIs w4.heap.size 4 v (rb (outS v s)) := row_rb hst.row fun q hq => by rw [decide_eq_true hq]; rfl
                have Hsh := Lib.hid (show HasShut w6 (.slice (some ⟨w4.heap.size, 0, none⟩) v v) (outS v s) from ⟨_, v, v, _, 0, rfl, Nat.le_refl _, by omega, fun _ => rfl, fun j hj => by rw [Nat.zero_add]; exact hrow.cell hj, fun j hj => by unfold outS; rw [decide_eq_false (by omega)]; rfl⟩)
                have Hb6 := Lib.hid (Hb4.out.trans (hst.hb.mono Hb4.out.size))
                have Hg6 := Lib.hid (Hg.out.below Hb6.out)
                have HI6 := Lib.hid (HI.out.below hst.hb)
                clear hst hrow Hst
                go_upto_region 18 with fail
                go_loopg [8, 9, 10, 11] ll (fun g s8 s9 s10 s11 wr => ∃ (i : Nat) (b : Bool), i ≤ ll ∧ g = ll - i ∧ s9 = .int .i64 (i : Int) ∧ s8 = .bool b ∧ Below w6.heap.size w6 wr ∧ (b = true → ∀ j, j < i → (l.filter (G (l.getD j 0))).length = 2) ∧ (b = false → ∃ x ∈ l, (l.filter (G x)).length ≠ 2))
                case atStart => exact ⟨0, true, Nat.zero_le _, rfl, rfl, rfl, Below.refl _ _, fun _ j hj => absurd hj (Nat.not_lt_zero _), fun h => by cases h⟩
                case round =>
                  obtain ⟨i, b, hi, rfl, rfl, rfl, hb7, hyes, hnot⟩ := hrel
                  have Hb7 := Lib.hid hb7
                  have Hyes := Lib.hid hyes
                  have Hnot := Lib.hid hnot
                  clear hb7 hyes hnot
                  cases b
                  · have Hn := Lib.hid (Hno.out.next fun h => by
                      obtain ⟨x, hx, hne⟩ := Hnot.out rfl
                      exact hne ((Hsel.out.1 h).2.1 x hx))
                    have Hb8 := Lib.hid (Hb6.out.trans (Hb7.out.mono Hb6.out.size))
                    by_cases hil : i < ll
                    · go_wp2
                      go_roundg (M - (s + 1))
                      case measure => go_light; omega
                      case rel => exact ⟨s + 1, by omega, rfl, by go_num, Hb8.out, Hn.out⟩
                    · go_wp2
                      go_roundg (M - (s + 1))
                      case measure => go_light; omega
                      case rel => exact ⟨s + 1, by omega, rfl, by go_num, Hb8.out, Hn.out⟩
                  · by_cases hil : i < ll
                    · go_upto_region 22 with fail
                      obtain ⟨w8, rfl⟩ : ∃ w8 : World, w8 = wr := ⟨_, rfl⟩
                      have hiL : i < l.length := by rw [Hll.out]; exact hil
                      have hxm : l.getD i 0 ∈ l := by rw [List.getD, List.getElem?_eq_getElem hiL]; exact List.getElem_mem _
                      obtain ⟨x, hx⟩ : ∃ x, l.getD i 0 = x := ⟨_, rfl⟩
                      have Hx := Lib.hid hx
                      rw [hx] at hxm
                      have hxv := Hlt.out x hxm
                      have Hxm := Lib.hid hxm
                      clear hx hxm hiL
                      go_loopg [10, 11] ll (fun g s10 s11 wr => ∃ j : Nat, j ≤ ll ∧ g = ll - j ∧ s11 = .int .i64 (j : Int) ∧ s10 = .int .i64 (((l.take j).filter (G x)).length : Int) ∧ Below w6.heap.size w6 wr)
                      case atStart => exact ⟨0, Nat.zero_le _, rfl, rfl, by simp, Hb7.out⟩
                      case round =>
                        obtain ⟨j, hj, rfl, rfl, rfl, hb9⟩ := hrel
                        have hfl : ((l.take j).filter (G x)).length ≤ j := filter_len
                        by_cases hjl : j < ll
                        · have hjL : j < l.length := by rw [Hll.out]; exact hjl
                          have Hf := Lib.hid (filter_take (p := G x) hjL)
                          obtain ⟨b1, o1, rfl, c1⟩ := ints_at' HI6.out hb9 (show i < l.length by rw [Hll.out]; exact hil)
                          obtain ⟨b2, o2, he2, c2⟩ := ints_at' HI6.out hb9 hjL
                          simp only [Option.some.injEq, Addr.mk.injEq, and_true] at he2
                          obtain ⟨rfl, rfl⟩ := he2
                          have hym : l.getD j 0 ∈ l := by rw [List.getD, List.getElem?_eq_getElem hjL]; exact List.getElem_mem _
                          have hyv := Hlt.out _ hym
                          rw [Hx.out] at c1
                          generalize l.getD j 0 = y at *
                          obtain ⟨b3, o3, c3, r3, he3, g1, g2⟩ := (Hg6.out.below hb9).entry hxv hyv
                          simp only [Value.slice.injEq, true_and] at he3
                          obtain ⟨rfl, rfl⟩ := he3
                          have Hb9 := Lib.hid hb9
                          generalize hnn : ((l.take j).filter (G x)).length = n at *
                          have Hnn := Lib.hid hnn
                          clear hnn
                          clear hb9 hym hjL
                          cases hG : G x y
                          · rw [hG] at g2
                            have HG := Lib.hid hG
                            clear hG
                            go_wp2
                            go_quiet (fail)
                            go_wp2
                            go_roundg (ll - (j + 1))
                            case measure => go_light; omega
                            case rel =>
                              refine ⟨j + 1, by omega, rfl, by go_num, ?_, Below.drewN' Hb9.out _⟩
                              rw [Hf.out, List.length_append, Hnn.out, HG.out]
                              simp
                          · rw [hG] at g2
                            have HG := Lib.hid hG
                            clear hG
                            go_wp2
                            go_quiet (fail)
                            go_wp2
                            go_roundg (ll - (j + 1))
                            case measure => go_light; omega
                            case rel =>
                              refine ⟨j + 1, by omega, rfl, by go_num, ?_, Below.drewN' Hb9.out _⟩
                              rw [Hf.out, List.length_append, Hnn.out, HG.out, if_pos rfl]
                              show _ = Value.int .i64 ((n + 1 : Nat) : Int)
                              go_num
                        · obtain rfl : j = ll := by omega
                          have etk : l.take j = l := by rw [← Hll.out]; exact List.take_length
                          rw [etk]
                          have Hb9 := Lib.hid hb9
                          clear hb9 etk hfl
                          generalize hcc : (l.filter (G x)).length = c at *
                          have Hcc := Lib.hid hcc
                          clear hcc
                          by_cases h2 : c = 2
                          · subst h2
                            go_wp2
                            go_roundg (j - (i + 1))
                            case measure => go_light; omega
                            case rel =>
                              refine ⟨i + 1, true, by omega, rfl, by go_num, rfl, Hb9.out, fun _ k hk => ?_, fun h => by cases h⟩
                              by_cases e : k = i
                              · subst e; rw [Hx.out]; exact Hcc.out
                              · exact Hyes.out (by trivial) k (by omega)
                          · have H2 := Lib.hid h2
                            have hne : (((c : Nat) : Int) == 2) = false := by simp; omega
                            clear h2
                            go_wp2
                            go_roundg (j - (i + 1))
                            case measure => go_light; omega
                            case rel => exact ⟨i + 1, false, by omega, rfl, by go_num, rfl, Hb9.out, (fun h => by cases h), fun _ => ⟨x, Hxm.out, by rw [Hcc.out]; exact H2.out⟩⟩
                    · have Hb8 := Lib.hid (Hb6.out.trans (Hb7.out.mono Hb6.out.size))
                      have hvN : v ≤ 100 := by omega
                      obtain ⟨pc, hpc⟩ : ∃ pc, partsF v G (outS v s) = pc := ⟨_, rfl⟩
                      have Hpc := Lib.hid hpc
                      clear hpc
                      by_cases h1 : pc = 1
                      · subst h1
                        go_wp2_with (go_at_call 51; refine (parts_any v G (outS v s) _ _ _ hvN (Hg6.out.below Hb7.out) (Hsh.out.below Hb7.out)).mono ?_; rintro e wp ⟨he, hbp⟩; rw [Hpc.out] at he; subst he; have Hbp := Lib.hid (Hb8.out.trans (hbp.mono Hb8.out.size)); clear hbp)
                        go_ret
                        exact ⟨⟨true, rfl, fun _ => rfl⟩, Hbp.out⟩
                      · have hne : (((pc : Nat) : Int) == 1) = false := by simp; omega
                        have Hn := Lib.hid (Hno.out.next fun h => h1 (Hpc.out.symm.trans (Hsel.out.1 h).2.2))
                        clear h1
                        go_wp2_with (go_at_call 51; refine (parts_any v G (outS v s) _ _ _ hvN (Hg6.out.below Hb7.out) (Hsh.out.below Hb7.out)).mono ?_; rintro e wp ⟨he, hbp⟩; rw [Hpc.out] at he; subst he; have Hbp := Lib.hid (Hb8.out.trans (hbp.mono Hb8.out.size)); clear hbp)
                        go_roundg (M - (s + 1))
                        case measure => go_light; omega
                        case rel => exact ⟨s + 1, by omega, rfl, by go_num, Hbp.out, Hn.out⟩
    · obtain rfl : s = M := by omega
      go_wp2
      go_ret
      exact ⟨⟨false, rfl, fun ⟨m, hm⟩ => by obtain ⟨t, h1, h2⟩ := Hm.out m hm; exact absurd h2 (Hno.out t h1)⟩, Hb.out⟩
end Go.Proofs.Ytnhhohhhpaejmaa
