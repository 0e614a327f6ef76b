/- arborref.Loose: the walk. -/
import Derived.Test.YtmhcnekbfngafaaPB
import Derived.Test.YtmhcnekbfngafaaPC
import Derived.Test.YtmhcnekbfngafaaHasGrid
import Derived.Deep.LoopGhost
import Derived.Deep.Light
import Derived.Deep.Modes
namespace Go.Proofs.Ytmhcnekbfngafaa
open Go Go.RowKit

theorem OwnC.app {w2 : World} {base : Nat} {L : List Int} {a2 : Option Addr} {c2 : Nat} {x : Int} (hown : w2.ownsRow base 3 1 (.slice a2 (L.length + 1) c2) (L.length + 1) (L.map (Value.int .i64) ++ [.int .i64 x])) : OwnC w2 base (.slice a2 (L.length + 1) c2) (L ++ [x]) := by
  unfold OwnC
  rw [List.length_append, List.map_append]
  exact hown
theorem rl_few (N : Nat) (G : Nat → Nat → Bool) (k m : Nat) : 0 ≤ (rlL N G m).getD k 0 ∧ (rlL N G m).getD k 0 ≤ m := by
  rw [rlL_getD]
  exact sumI_bounds fun _ _ => b2i_nn _
theorem rl_length (N : Nat) (G : Nat → Nat → Bool) : ∀ m, (rlL N G m).length ≤ N + 1
  | 0 => by simp [rlL]
  | m + 1 => by
    have h := rl_length N G m
    rw [rlL]
    split
    · rw [addAt_length]
      have : szB N m ≤ N := cnt_le _ N
      omega
    · exact h

set_option maxHeartbeats 6400000 in
set_option maxRecDepth 100000 in
theorem rloose_any (N : Nat) (G : Nat → Nat → Bool) (hN : N ≤ 12) (gv : Value) (w : World) (hg : HasGrid w gv N G) :
    Calls Try.prog 24 #[gv] w fun e w' => ∃ v, e = .returned v ∧ IsInts w' v (rlL N G (2 ^ N)) ∧ Below w.heap.size w w' := by
  obtain ⟨B, ga, gc, gb, go, R, rfl, -, hga, hgr⟩ := hg
  have Hgr := Lib.hid hgr; have Hga := Lib.hid hga
  clear hgr hga
  have e1 := op_shl (show N < 62 by omega)
  have hP : pow2 N ≤ 4096 := by unfold pow2; exact Nat.pow_le_pow_right (n := 2) (by decide) hN
  have HPe := Lib.hid (show pow2 N = 2 ^ N from rfl)
  obtain ⟨M, hM⟩ : ∃ M, M = pow2 N := ⟨_, rfl⟩
  rw [← hM] at hP e1 HPe
  have HM := Lib.hid hM
  clear hM
  go_enter Try.func24, Try.ntmps24
  go_wp2
  go_loopg [3, 4] M (fun g s3 s4 wr => ∃ T : Nat, T ≤ M ∧ g = M - T ∧ s4 = .int .i64 (T : Int) ∧ OwnC wr w.heap.size s3 (rlL N G T) ∧ Below w.heap.size w wr)
  case atStart => exact ⟨0, Nat.zero_le _, rfl, rfl, World.ownsRow_nil _ _ _ _, Below.refl _ _⟩
  case round =>
    obtain ⟨T, hT, rfl, rfl, ho, hb⟩ := hrel
    have Ho := Lib.hid ho; have Hb := Lib.hid hb
    by_cases hlt : T < M
    · have hfew : Few T := by show T < 4611686018427387904; omega
      have hll := rl_length N G T
      have hfw := rl_few N G (szB N T) T
      have Hst := Lib.hid (show rlL N G (T + 1) = if okB G T N then addAt (rlL N G T) (szB N T) 1 else rlL N G T from rfl)
      generalize rlL N G T = L at *
      obtain ⟨aL, cL, rfl⟩ := ownsRow_form ho
      obtain ⟨w1, rfl⟩ : ∃ w1 : World, w1 = wr := ⟨_, rfl⟩
      have hszw := hb.size
      clear ho hb
      go_wp2
      go_loopg [5, 6, 7] N (fun g s5 s6 s7 wx => ∃ i : Nat, i ≤ N ∧ g = N - i ∧ s7 = .int .i64 (i : Int) ∧ s5 = .int .i64 (szB i T : Int) ∧ s6 = .bool (okB G T i) ∧ w1 = wx)
      case atStart => exact ⟨0, Nat.zero_le _, rfl, rfl, rfl, rfl, rfl⟩
      case round =>
        obtain ⟨i, hi, rfl, rfl, rfl, rfl, rfl⟩ := hrel
        by_cases hiN : i < N
        · obtain rfl := (Hga.out (by omega)).1
          have e3 := op_shr T i
          have t2 := below_cell Hb.out (Hgr.out.head i hiN)
          have hsz : szB i T ≤ i := cnt_le _ i
          cases hbit : T.testBit i with
          | false =>
            have e4 : bits .and .i64 (shr T i : Int) 1 = 0 := by rw [op_bit hfew, bit_zero hbit]; rfl
            have Hs1 := Lib.hid (show szB (i + 1) T = szB i T by unfold szB; rw [cnt, if_neg (by rw [hbit]; exact Bool.false_ne_true), Nat.add_zero])
            have Hs2 := Lib.hid (show okB G T (i + 1) = okB G T i by rw [okB, if_neg (by rw [hbit]; exact Bool.false_ne_true)])
            clear hbit
            generalize szB i T = k at *
            generalize okB G T i = ok at *
            go_wp2
            go_roundg (N - (i + 1))
            case measure => go_light; omega
            case rel => exact ⟨i + 1, by omega, rfl, by go_num, by rw [Hs1.out], by rw [Hs2.out], rfl⟩
          | true =>
            have e4 : bits .and .i64 (shr T i : Int) 1 = 1 := by rw [op_bit hfew, bit_one hbit]; rfl
            have Hs1 := Lib.hid (show szB (i + 1) T = szB i T + 1 by unfold szB; rw [cnt, if_pos hbit])
            have Hs2 := Lib.hid (show okB G T (i + 1) = (okB G T i && pairB G T i i) by rw [okB, if_pos hbit])
            have Hp0 := Lib.hid (show okB G T i = (okB G T i && pairB G T i 0) by rw [pairB, Bool.and_true])
            clear hbit
            generalize szB i T = k at *
            generalize hok : okB G T i = ok at *
            have Hok := Lib.hid hok
            clear hok
            go_wp2
            clear e4 e3
            go_loopg [6, 8] i (fun g s6 s8 wx => ∃ j : Nat, j ≤ i ∧ g = i - j ∧ s8 = .int .i64 (j : Int) ∧ s6 = .bool (ok && pairB G T i j) ∧ w1 = wx)
            case atStart => exact ⟨0, Nat.zero_le _, rfl, rfl, by rw [← Hp0.out], rfl⟩
            case round =>
              obtain ⟨j, hj, rfl, rfl, rfl, rfl⟩ := hrel
              by_cases hji : j < i
              · have e3 := op_shr T j
                have t3 := below_cell Hb.out (Hgr.out.cell hiN (show j < N by omega))
                have Hs3 := Lib.hid (show (ok && pairB G T i (j + 1)) = ((ok && pairB G T i j) && !(T.testBit j && G i j)) by rw [pairB, Bool.and_assoc])
                generalize (ok && pairB G T i j) = b at *
                cases b with
                | false =>
                  go_wp2
                  go_roundg (i - (j + 1))
                  case measure => go_light; omega
                  case rel => exact ⟨j + 1, by omega, rfl, by go_num, by rw [Hs3.out]; rfl, rfl⟩
                | true =>
                  cases hbj : T.testBit j with
                  | false =>
                    have e4 : bits .and .i64 (shr T j : Int) 1 = 0 := by rw [op_bit hfew, bit_zero hbj]; rfl
                    rw [hbj] at Hs3
                    clear hbj
                    go_wp2
                    go_roundg (i - (j + 1))
                    case measure => go_light; omega
                    case rel => exact ⟨j + 1, by omega, rfl, by go_num, by rw [Hs3.out]; rfl, rfl⟩
                  | true =>
                    have e4 : bits .and .i64 (shr T j : Int) 1 = 1 := by rw [op_bit hfew, bit_one hbj]; rfl
                    rw [hbj] at Hs3
                    clear hbj
                    generalize G i j = gij at *
                    cases gij
                    · go_wp2
                      go_roundg (i - (j + 1))
                      case measure => go_light; omega
                      case rel => exact ⟨j + 1, by omega, rfl, by go_num, by rw [Hs3.out]; rfl, rfl⟩
                    · go_wp2
                      go_roundg (i - (j + 1))
                      case measure => go_light; omega
                      case rel => exact ⟨j + 1, by omega, rfl, by go_num, by rw [Hs3.out]; rfl, rfl⟩
              · obtain rfl : j = i := by omega
                go_wp2
                go_roundg (N - (j + 1))
                case measure => go_light; omega
                case rel => exact ⟨j + 1, by omega, rfl, by go_num, by rw [Hs1.out]; go_num, by rw [Hs2.out], rfl⟩
        · obtain rfl : i = N := by omega
          have hsz : szB i T ≤ i := cnt_le _ i
          generalize szB i T = k at *
          generalize okB G T i = ok at *
          cases ok with
          | false =>
            go_wp2
            go_roundg (M - (T + 1))
            case measure => go_light; omega
            case rel => exact ⟨T + 1, by omega, rfl, by go_num, by rw [Hst.out]; exact Ho.out, Hb.out⟩
          | true =>
            go_wp2
            go_loopg [3] (k + 1 - L.length) (fun g s3 wx => ∃ Le : List Int, L.length ≤ Le.length ∧ Le.length ≤ max L.length (k + 1) ∧ Le = extL L Le.length ∧ g = k + 1 - Le.length ∧ OwnC wx w.heap.size s3 Le ∧ Below w.heap.size w wx)
            case atStart => exact ⟨L, Nat.le_refl _, by omega, (ext_self _ (Nat.le_refl _)).symm, rfl, Ho.out, Hb.out⟩
            case round =>
              obtain ⟨Le, h1, h2, h3, rfl, ho, hb⟩ := hrel
              have H3 := Lib.hid h3
              have Ho3 := Lib.hid ho; have Hb3 := Lib.hid hb
              have hsz := hb.size
              by_cases hle : Le.length ≤ k
              · obtain ⟨aL, cL, rfl⟩ := ownsRow_form ho
                clear ho hb h3
                go_wp2_with (at_builtin; refine wpList_append_at rfl (.tmp 57) (.tmp 58) 39 rfl w.heap.size 3 (.int .i64 0) 8 Try.underlying39 info3 rfl _ Le.length (Le.map (Value.int .i64)) rfl (Ho3.out.alloc _) _ 1 [.int .i64 0] rfl (HasCells.one _ _ _ rfl) (by omega) (by omega) (by omega) (by rw [World.size_alloc]; omega) ?_; intro a6 c6 w6 hown6 hg6 hat6; have Hown6 := Lib.hid (OwnC.app hown6); have Hb6 := Lib.hid ((Hb3.out.alloc hsz (Obj.cells #[Value.int .i64 0] 3)).grown hg6 (by rw [World.size_alloc]; omega) (fun g e => (World.ownsRow.lt Ho3.out g e).1)); clear hown6 hg6 hat6)
                go_roundg (k + 1 - (Le.length + 1))
                case measure => go_light; omega
                case rel => exact ⟨Le ++ [0], by simp; omega, by simp; omega, by
                  rw [List.length_append]
                  conv => lhs; rw [H3.out]
                  exact ext_snoc L h1, by simp, Hown6.out, Hb6.out⟩
              · obtain ⟨gL, cL, rfl, hbase, hgl, cells, frz⟩ := OwnC.form ho (by omega)
                have cc := cells k (by omega)
                have ff := frz k
                have hv : Le.getD k 0 = L.getD k 0 := by rw [H3.out]; exact ext_getD _ _ _
                rw [hv] at cc
                have Hv := Lib.hid hv
                clear ho hb h3 cells frz hv
                generalize L.getD k 0 = vc at *
                have hws : IntKind.i64.wrap (vc + 1) = vc + 1 := by
                  obtain ⟨a, ha⟩ := Int.eq_ofNat_of_zero_le (show 0 ≤ vc + 1 by omega)
                  rw [ha]; exact wrap_nat (by omega)
                go_wp2
                go_roundg (M - (T + 1))
                case measure => go_light; omega
                case rel => exact ⟨T + 1, by omega, rfl, by go_num, by
                  have h8 := H3.out
                  have h7 := addAt_set L k 1 h1 (by omega) h2
                  rw [← h8, Hv.out] at h7
                  rw [Hst.out, if_pos trivial, ← h7]
                  exact OwnC.set Ho3.out k (vc + 1), Hb3.out.setCell hbase _⟩
    · obtain rfl : T = M := by omega
      obtain ⟨aL, cL, rfl⟩ := ownsRow_form ho
      clear ho hb
      go_wp2
      go_ret
      exact ⟨_, rfl, by rw [← HPe.out]; exact IsInts.owned Ho.out, Hb.out⟩

end Go.Proofs.Ytmhcnekbfngafaa
