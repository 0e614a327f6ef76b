/- arborref.Small: the graph of all pairs that a function value tells. -/
import Derived.Test.YtbnbhjeknocboaaFrom
namespace Go.Proofs.Ytbnbhjeknocboaa
open Go.RowKit

theorem big_any (l : List (Int × Int)) (n : Int) (a : Option Addr) (c : Nat) (w : World) (hn : n ≤ 100) {r : Bool} (hr : decide (1000 < l.length) = r) (hl : l.length ≤ 9223372036854775807) :
    Calls Try.prog 40 #[.agg #[.int .i64 n, .slice a l.length c]] w fun e w' => e = .returned (.bool r) ∧ w.alloc (.cells #[.int .i64 n, .slice a l.length c] 24) = w' := by
  have h1 : ¬ 100 < n := by omega
  cases r with
  | true =>
    have h2 : (1000 : Int) < (l.length : Int) := by have := of_decide_eq_true hr; omega
    clear hr
    go_enter Try.func40, Try.ntmps40
    go_wp2
    go_ret
    exact ⟨rfl, rfl⟩
  | false =>
    have h2 : ¬ (1000 : Int) < (l.length : Int) := by have := of_decide_eq_false hr; omega
    clear hr
    go_enter Try.func40, Try.ntmps40
    go_wp2
    go_ret
    exact ⟨rfl, rfl⟩

set_option maxHeartbeats 3200000 in
set_option maxRecDepth 100000 in
theorem small_any (n : Nat) (g : Nat) (lb : Array Value) (p : Nat → Nat → Bool) (w : World) (eg : ∀ args w, (callFunc g args).run Try.prog w = .ok (.enter g args) w) (hn : n ≤ 100) (hT : Tells g lb n p w) :
    Calls Try.prog 16 #[.int .i64 (n : Int), .func (.func g) #[] lb] w (PairsPost n p w) := by
  have hst := FSt.start w (n : Int)
  have Hst := Lib.hid hst
  have HT := Lib.hid hT
  clear hst hT
  go_enter Try.func16, Try.ntmps16
  go_wp2
  generalize ((w.alloc (Obj.cells #[.int .i64 0, .slice none 0 0] 24)).alloc (Obj.cells #[.int .i64 0, .int .i64 0] 28)).alloc (Obj.cells #[.int .i64 (n : Int), .slice none 0 0] 24) = w1 at *
  go_loopg [7] n (fun gm s1 wr => ∃ (i : Nat) (v : Value), i ≤ n ∧ gm = n - i ∧ s1 = .int .i64 i ∧ FSt w wr (n : Int) v (prsTo n p i))
  case atStart => exact ⟨0, _, Nat.zero_le _, rfl, rfl, Hst.out⟩
  case round =>
    obtain ⟨i, v, hi, rfl, rfl, hm⟩ := hrel
    have Hm := Lib.hid hm
    clear hm
    by_cases hlt : i < n
    · have hs0 : prsTo n p i = prsTo n p i ++ rowTo p i (i + 1) := by rw [rowTo_start, List.append_nil]
      have Hs0 := Lib.hid hs0
      clear hs0
      go_wp2
      obtain ⟨wo, rfl⟩ : ∃ wo : World, wo = wr := ⟨_, rfl⟩
      go_loopg [8] (n - (i + 1)) (fun gm s2 wr => ∃ (j : Nat) (v : Value), i < j ∧ j ≤ n ∧ gm = n - j ∧ s2 = .int .i64 j ∧ FSt w wr (n : Int) v (prsTo n p i ++ rowTo p i j))
      case atStart => exact ⟨i + 1, v, by omega, by omega, rfl, by go_num, by rw [← Hs0.out]; exact Hm.out⟩
      case round =>
        obtain ⟨j, v2, hij, hj, rfl, rfl, hm2⟩ := hrel
        by_cases hlt2 : j < n
        · have hc := HT.out wr i j hij hlt2 hm2.hb
          cases hp : p i j with
          | true =>
            rw [hp] at hc
            have hyes := rowTo_yes hij hp
            have hlen1 := prsTo_length n p i
            have hlen2 := rowTo_length p i j
            have hlen3 : i * n ≤ 100 * 100 := Nat.mul_le_mul (by omega) (by omega)
            have hlen : (prsTo n p i ++ rowTo p i j).length ≤ 10100 := by rw [List.length_append]; omega
            have hyes2 : prsTo n p i ++ rowTo p i (j + 1) = (prsTo n p i ++ rowTo p i j) ++ [((i : Int), (j : Int))] := by rw [hyes, List.append_assoc]
            obtain ⟨a2, c2, rfl⟩ := hm2.own.form
            generalize prsTo n p i ++ rowTo p i j = Lc at hm2 hlen hyes2 ⊢
            have Hyes := Lib.hid hyes2
            have Hc := Lib.hid hc
            have Hm2 := Lib.hid hm2
            clear hp hyes hyes2 hlen1 hlen2 hlen3 hc hm2
            go_wp2_with (first
              | (go_at_fn g; refine Hc.out.mono ?_; rintro e W' ⟨rfl, hbW⟩; have m3 := Hm2.out.below hbW; have co := m3.out.cell (show 1 < 2 by omega); simp only [show ¬ (1 : Nat) = 0 by omega, if_false] at co; have hOl := m3.out.lt; have M3 := Lib.hid (m3.below (below1 W' (Obj.cells #[.int .i64 (i : Int), .int .i64 (j : Int)] 44))); have hbz := M3.out.hb.size; clear m3 hbW)
              | (at_builtin; refine wpList_append_edges rfl (.tmp 28) (.tmp 32) 22 rfl (w.heap.size + 3) Try.underlying22 info2 _ Lc rfl M3.out.own _ [((i : Int), (j : Int))] rfl (edge_one _ _ _ _ rfl) _ rfl (by simp; omega) (by simp at hbz ⊢; omega) ?_; intro a5 c5 w5 ho5 hg5; have r5 := M3.out.after hg5; have co5 := r5.cell (show 1 < 2 by omega); have fo5 := r5.frozen 1; have lo5 := r5.lt; have Hn := Lib.hid (M3.out.put ho5 hg5); clear hg5 ho5 r5))
            go_roundg (n - (j + 1))
            case measure => go_light; omega
            case rel => exact ⟨j + 1, .slice a5 (Lc.length + 1) c5, by omega, by omega, rfl, by go_num, by have h9 := Hn.out; simp only [List.length_append, List.length_cons, List.length_nil, Nat.zero_add] at h9; rw [Hyes.out]; exact h9⟩
          | false =>
            rw [hp] at hc
            have hno := rowTo_no (p := p) (i := i) (b := j) hp
            have Hno := Lib.hid hno
            have Hc := Lib.hid hc
            have Hm2 := Lib.hid hm2
            clear hp hno hc hm2
            go_wp2_with (go_at_fn g; refine Hc.out.mono ?_; rintro e W' ⟨rfl, hbW⟩; have Hn := Lib.hid (Hm2.out.below hbW); clear hbW)
            go_roundg (n - (j + 1))
            case measure => go_light; omega
            case rel => exact ⟨j + 1, _, by omega, by omega, rfl, by go_num, by rw [Hno.out]; exact Hn.out⟩
        · obtain rfl : j = n := by omega
          rw [← prsTo_succ] at hm2
          have Hm2 := Lib.hid hm2
          clear hm2
          go_wp2
          go_roundg (j - (i + 1))
          case measure => go_light; omega
          case rel => exact ⟨i + 1, _, by omega, rfl, by go_num, Hm2.out⟩
    · obtain rfl : i = n := by omega
      have hco := Hm.out.out.cell (show 1 < 2 by omega)
      have hcn := Hm.out.out.cell (show 0 < 2 by omega)
      simp only [show ¬ (1 : Nat) = 0 by omega, if_false, if_true] at hco hcn
      obtain ⟨a2, c2, rfl⟩ := Hm.out.own.form
      have hlen1 := prsTo_length i p i
      have hlen2 : i * i ≤ 100 * 100 := Nat.mul_le_mul hn hn
      have r0 := Hm.out.r0
      have r1 := Hm.out.r1
      have l0 := r0.lt
      have l1 := r1.lt
      have lO := Hm.out.out.lt
      have z00 := r0.cell (show 0 < 2 by omega)
      have z01 := r0.cell (show 1 < 2 by omega)
      have z10 := r1.cell (show 0 < 2 by omega)
      have z11 := r1.cell (show 1 < 2 by omega)
      have f00 := r0.frozen 0
      have f01 := r0.frozen 1
      have f10 := r1.frozen 0
      have f11 := r1.frozen 1
      have ho := Hm.out.own
      generalize hL : prsTo i p i = L at *
      have HL := Lib.hid hL
      clear hL
      have Ho := Lib.hid ho
      have Hb := Lib.hid Hm.out.hb
      have R0 := Lib.hid r0
      have R1 := Lib.hid r1
      clear ho r0 r1
      by_cases hmany : 1000 < L.length
      · have hdm : decide (1000 < L.length) = true := decide_eq_true hmany
        have Hdm := Lib.hid hdm
        have Hmany := Lib.hid hmany
        clear hdm hmany
        go_wp2_with (first
          | (go_at_call 40; refine (big_any L _ _ _ _ (by omega) Hdm.out (by omega)).mono ?_; rintro e wb ⟨rfl, rfl⟩)
          | (go_at_call 20; refine (F_any _ _ _).mono ?_; rintro e wf ⟨rfl, rfl⟩))
        have hmany := Hmany.out
        obtain ⟨e0, e1, e2, e3⟩ := four_set R0.out R1.out (show w.heap.size ≠ w.heap.size + 1 by omega) (.int .i64 0) (.slice none 0 0) (.int .i64 2) (.int .i64 0)
        have hfin := four_below Hb.out (Nat.le_refl _) (show w.heap.size ≤ w.heap.size + 1 by omega) (.int .i64 0) (.slice none 0 0) (.int .i64 2) (.int .i64 0)
        have g0 := below_cell (below2 _ (.cells #[.int .i64 (i : Int), .slice a2 L.length c2] 24) (Obj.cells #[Value.int .i64 2, .int .i64 0] 28)) e0
        have g1 := below_cell (below2 _ (.cells #[.int .i64 (i : Int), .slice a2 L.length c2] 24) (Obj.cells #[Value.int .i64 2, .int .i64 0] 28)) e1
        have g2 := below_cell (below2 _ (.cells #[.int .i64 (i : Int), .slice a2 L.length c2] 24) (Obj.cells #[Value.int .i64 2, .int .i64 0] 28)) e2
        have g3 := below_cell (below2 _ (.cells #[.int .i64 (i : Int), .slice a2 L.length c2] 24) (Obj.cells #[Value.int .i64 2, .int .i64 0] 28)) e3
        exact bodyPost_ret (v := .tuple #[.agg #[.int .i64 0, .slice none 0 0], .agg #[.int .i64 2, .int .i64 0]]) (by simp [results, Try.results16, go_sem, g0, g1, g2, g3]) rfl ⟨_, by rw [HL.out, if_pos hmany]; exact OwnE.nil _ _, (hfin.alloc hfin.size _).alloc (by have := hfin.size; simp at this ⊢; omega) _, by rw [HL.out, if_pos hmany, if_pos hmany]⟩
      · have hdm : decide (1000 < L.length) = false := decide_eq_false hmany
        have Hdm := Lib.hid hdm
        have Hmany := Lib.hid hmany
        clear hdm hmany
        go_wp2_with (go_at_call 40; refine (big_any L _ _ _ _ (by omega) Hdm.out (by omega)).mono ?_; rintro e wb ⟨rfl, rfl⟩)
        have hmany := Hmany.out
        obtain ⟨e0, e1, e2, e3⟩ := four_set R0.out R1.out (show w.heap.size ≠ w.heap.size + 1 by omega) (.int .i64 (i : Int)) (.slice a2 L.length c2) (.int .i64 0) (.int .i64 0)
        have hfin := four_below Hb.out (Nat.le_refl _) (show w.heap.size ≤ w.heap.size + 1 by omega) (.int .i64 (i : Int)) (.slice a2 L.length c2) (.int .i64 0) (.int .i64 0)
        have hoe := (((((Ho.out.set (show w.heap.size < w.heap.size + 3 by omega) 0 (.int .i64 (i : Int))).set (show w.heap.size < w.heap.size + 3 by omega) 1 (.slice a2 L.length c2)).set (show w.heap.size + 1 < w.heap.size + 3 by omega) 0 (.int .i64 0)).set (show w.heap.size + 1 < w.heap.size + 3 by omega) 1 (.int .i64 0)).below (below1 _ (.cells #[.int .i64 (i : Int), .slice a2 L.length c2] 24)))
        have g0 := below_cell (below1 _ (.cells #[.int .i64 (i : Int), .slice a2 L.length c2] 24)) e0
        have g1 := below_cell (below1 _ (.cells #[.int .i64 (i : Int), .slice a2 L.length c2] 24)) e1
        have g2 := below_cell (below1 _ (.cells #[.int .i64 (i : Int), .slice a2 L.length c2] 24)) e2
        have g3 := below_cell (below1 _ (.cells #[.int .i64 (i : Int), .slice a2 L.length c2] 24)) e3
        exact bodyPost_ret (v := .tuple #[.agg #[.int .i64 (i : Int), .slice a2 L.length c2], .agg #[.int .i64 0, .int .i64 0]]) (by simp [results, Try.results16, go_sem, g0, g1, g2, g3]) rfl ⟨_, by rw [HL.out, if_neg hmany]; exact hoe.low (by omega), hfin.alloc hfin.size _, by rw [HL.out, if_neg hmany, if_neg hmany]⟩

end Go.Proofs.Ytbnbhjeknocboaa
