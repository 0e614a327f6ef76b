/- arborref.Comparable: can all edges be made arcs that go on? -/
import Derived.Test.YtnhhohhhpaejmaaTraW
import Derived.Test.YtnhhohhhpaejmaaPA
import Derived.Test.YtnhhohhhpaejmaaPK
namespace Go.Proofs.Ytnhhohhhpaejmaa
open Go Go.RowKit

set_option maxHeartbeats 3200000 in
set_option maxRecDepth 100000 in
theorem comparable_any (l : List (Int × Int)) (v : Value) (w : World) (h : IsEdges w v l) (hl : l.length ≤ 12) :
    Calls Try.prog 22 #[v] w fun e w' => ∃ b : Bool, e = .returned (.bool b) ∧ (b = true → ∃ s, Goes (orient l s)) ∧ Below w.heap.size w w' := by
  have He := Lib.hid h
  obtain ⟨ad, cap, rfl⟩ := h.form
  clear h
  obtain ⟨M, hM⟩ : ∃ M, M = 2 ^ l.length := ⟨_, rfl⟩
  have e0 := op_shl (show l.length < 62 by omega)
  rw [show pow2 l.length = M from hM.symm] at e0
  have hP : M ≤ 4096 := by rw [hM]; exact Nat.pow_le_pow_right (by decide) hl
  clear hM
  go_enter Try.func22, Try.ntmps22
  go_wp2
  go_loopg [3] M (fun g s3 wr => ∃ (s : Nat), s ≤ M ∧ g = M - s ∧ s3 = .int .i64 (s : Int) ∧ Below w.heap.size w wr)
  case atStart => exact ⟨0, Nat.zero_le _, rfl, rfl, Below.refl _ _⟩
  case round =>
    obtain ⟨s, hs, rfl, rfl, hb⟩ := hrel
    have Hb := Lib.hid hb
    clear hb
    by_cases hsM : s < M
    · obtain ⟨w2, rfl⟩ : ∃ w2 : World, w2 = wr := ⟨_, rfl⟩
      have hfew : Few s := by show s < 4611686018427387904; omega
      go_wp2
      clear e0
      go_loopg [4, 5] l.length (fun g s4 s5 wx => ∃ i : Nat, i ≤ l.length ∧ g = l.length - i ∧ s5 = .int .i64 (i : Int) ∧ OwnE wx w2.heap.size s4 ((orient l s).take i) ∧ Below w2.heap.size w2 wx)
      case atStart => exact ⟨0, Nat.zero_le _, rfl, rfl, OwnE.nil _ _, Below.refl _ _⟩
      case round =>
        obtain ⟨i, hi, rfl, rfl, ho, hb3⟩ := hrel
        have hb4 := Hb.out.trans (hb3.mono Hb.out.size)
        have hlen : ((orient l s).take i).length = i := by rw [List.length_take, orient_length]; omega
        obtain ⟨va, vc, rfl⟩ := ho.form
        rw [hlen] at ho ⊢
        have Ho := Lib.hid ho; have Hb4 := Lib.hid hb4; have Hb3 := Lib.hid hb3
        by_cases hil : i < l.length
        · obtain ⟨a9, c9, b9, o9, e9, hcap9, hmax9, hadr9, -, hcell9⟩ := He.out
          simp only [Value.slice.injEq, true_and] at e9
          obtain ⟨rfl, rfl⟩ := e9
          obtain rfl := hadr9 (by omega)
          obtain ⟨x, y, He9, cx, cy⟩ := edges_at hcell9 hb4 hil
          have e3 := op_shr s i
          have Hstep := Lib.hid (orient_succ (s := s) hil)
          have hszB := hb3.size
          clear ho hb4 hb3 hcell9 hadr9
          have HlenC := Lib.hid hlen
          clear hlen
          generalize (orient l s).take i = Lc at *
          cases hbit : s.testBit i with
          | false =>
            rw [hbit] at Hstep
            have e4 : bits .and .i64 (shr s i : Int) 1 = 0 := by rw [op_bit hfew, bit_zero hbit]; rfl
            clear hbit
            go_upto_region 11 with fail
            have ce := two_cells wr (.int .i64 x) (.int .i64 y) 52
            have ce0 := ce.1
            have ce1 := ce.2
            have hb5 := below1 wr (Obj.cells #[.int .i64 x, .int .i64 y] 52)
            have lE := hszB
            generalize hE : wr.heap.size = E at *
            generalize wr.alloc (Obj.cells #[.int .i64 x, .int .i64 y] 52) = w5 at *
            rw [← hE] at hb5
            have hb6 := hb5.trans ((below1 w5 (Obj.cells #[.int .i64 x, .int .i64 y] 52)).mono hb5.size)
            have HoB := Lib.hid (Ho.out.below hb6)
            have HbB := Lib.hid (Hb3.out.trans (hb6.mono Hb3.out.size))
            have hszB := HbB.out.size
            clear ce hb5 hb6 hE cx cy e3 e4
            go_wp2_with (at_builtin; refine wpList_append_edges rfl (.tmp 34) (.tmp 36) 22 rfl w2.heap.size Try.underlying22 info2 _ Lc rfl HoB.out _ [(x, y)] rfl (edge_one _ _ _ _ rfl) _ rfl (by have h7 := HlenC.out; simp; omega) hszB ?_; intro a5 c5 w6 ho5 hg5; have Hn6 := Lib.hid ho5; have Hbn := Lib.hid (HbB.out.grown hg5 (by simpa using hszB) (fun g e => (World.ownsRow.lt HoB.out g e).1)); clear hg5 ho5)
            go_roundg (l.length - (i + 1))
            case measure => go_light; omega
            case rel => exact ⟨i + 1, by omega, rfl, by go_num, by
              have h9 := Hn6.out
              rw [Hstep.out, He9.out]
              simpa only [List.length_append, List.length_cons, List.length_nil, Nat.zero_add, Bool.false_eq_true, if_false, if_true] using h9, Hbn.out⟩
          | true =>
            rw [hbit] at Hstep
            have e4 : bits .and .i64 (shr s i : Int) 1 = 1 := by rw [op_bit hfew, bit_one hbit]; rfl
            clear hbit
            go_upto_region 11 with fail
            have ce := two_cells wr (.int .i64 y) (.int .i64 x) 52
            have ce0 := ce.1
            have ce1 := ce.2
            have hb5 := below1 wr (Obj.cells #[.int .i64 y, .int .i64 x] 52)
            have lE := hszB
            generalize hE : wr.heap.size = E at *
            generalize wr.alloc (Obj.cells #[.int .i64 y, .int .i64 x] 52) = w5 at *
            rw [← hE] at hb5
            have hb6 := hb5.trans ((below1 w5 (Obj.cells #[.int .i64 y, .int .i64 x] 52)).mono hb5.size)
            have HoB := Lib.hid (Ho.out.below hb6)
            have HbB := Lib.hid (Hb3.out.trans (hb6.mono Hb3.out.size))
            have hszB := HbB.out.size
            clear ce hb5 hb6 hE cx cy e3 e4
            go_wp2_with (at_builtin; refine wpList_append_edges rfl (.tmp 34) (.tmp 36) 22 rfl w2.heap.size Try.underlying22 info2 _ Lc rfl HoB.out _ [(y, x)] rfl (edge_one _ _ _ _ rfl) _ rfl (by have h7 := HlenC.out; simp; omega) hszB ?_; intro a5 c5 w6 ho5 hg5; have Hn6 := Lib.hid ho5; have Hbn := Lib.hid (HbB.out.grown hg5 (by simpa using hszB) (fun g e => (World.ownsRow.lt HoB.out g e).1)); clear hg5 ho5)
            go_roundg (l.length - (i + 1))
            case measure => go_light; omega
            case rel => exact ⟨i + 1, by omega, rfl, by go_num, by
              have h9 := Hn6.out
              rw [Hstep.out, He9.out]
              simpa only [List.length_append, List.length_cons, List.length_nil, Nat.zero_add, Bool.false_eq_true, if_false, if_true] using h9, Hbn.out⟩
        · obtain rfl : i = l.length := by omega
          have hed := ho.edges
          rw [show (orient l s).take l.length = orient l s by rw [← orient_length l s, List.take_length]] at hed
          have HedE := Lib.hid hed
          clear ho hb4 hb3 hlen hed
          go_wp2_with fail
          refine (trans_any _ _ _ HedE.out (by rw [orient_length]; omega)).mono ?_
          rintro e w3 ⟨b, rfl, hbt, hbw⟩
          have Hbt := Lib.hid hbt
          have Hbw := Lib.hid (Hb4.out.trans (hbw.mono Hb4.out.size))
          clear hbt hbw
          cases b
          · go_wp2
            go_roundg (M - (s + 1))
            case measure => go_light; omega
            case rel => exact ⟨s + 1, by omega, rfl, by go_num, Hbw.out⟩
          · go_wp2
            go_ret
            exact ⟨true, rfl, fun _ => ⟨s, Hbt.out.1 (by trivial)⟩, Hbw.out⟩
    · obtain rfl : s = M := by omega
      go_wp2
      go_ret
      exact ⟨false, rfl, fun h => (by cases h), Hb.out⟩

end Go.Proofs.Ytnhhohhhpaejmaa
