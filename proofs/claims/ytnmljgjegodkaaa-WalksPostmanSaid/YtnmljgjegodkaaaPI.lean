/- arborref.Walk: of a list that is one. arborref.Joined: no two parts have edges. arborref.Odd: nodes of an odd number of edges, of a table. -/
import Derived.Test.YtnmljgjegodkaaaHasGrid
import Derived.Test.YtnmljgjegodkaaaPA
import Derived.BigQuiet
import Derived.Test.YtnmljgjegodkaaaJoiW
import Derived.Test.YtnmljgjegodkaaaRCompW
import Derived.Test.YtnmljgjegodkaaaOddW
namespace Go.Proofs.Ytnmljgjegodkaaa
open Go.RowKit

theorem wrap_midW {x : Int} (h0 : -9223372036854775808 ≤ x) (h1 : x < 9223372036854775808) : IntKind.i64.wrap x = x := by
  simp [IntKind.wrap, IntKind.bits, IntKind.signed]; omega
set_option maxHeartbeats 3200000 in
set_option maxRecDepth 100000 in
theorem rwalk_yes (N : Nat) (G : Nat → Nat → Bool) (L : List Nat) (gv lv : Value) (w : World) (hN : N ≤ 100) (hg : HasGrid w gv N G) (hl : IsInts w lv (ints L)) (hL : L.length ≤ 1000000) (hr : ∀ x ∈ L, x < N) (ha : ∀ i, i + 1 < L.length → G (L.getD i 0) (L.getD (i + 1) 0) = true) :
    Calls Try.prog 17 #[gv, lv] w fun e w' => e = .returned (.bool true) ∧ Below w.heap.size w w' := by
  obtain ⟨al, cl, rfl⟩ : ∃ al cl, lv = .slice al L.length cl := by
    obtain ⟨a, c, _, _, rfl, _⟩ := hl; exact ⟨a, c, by rw [ints_length]⟩
  have HG := Lib.hid hg; have HL := Lib.hid hl; have Hr := Lib.hid hr; have Ha := Lib.hid ha
  obtain ⟨Bg, ga, gc, gb, go', R0, rfl, -⟩ := hg
  clear hl hr ha
  go_enter Try.func17, Try.ntmps17
  go_wp2
  go_loopg [5] L.length (fun g s5 wr => ∃ i : Nat, i ≤ L.length ∧ g = L.length - i ∧ s5 = .int .i64 (i : Int) ∧ Below w.heap.size w wr)
  case atStart => exact ⟨0, Nat.zero_le _, rfl, rfl, Below.refl _ _⟩
  case round =>
    obtain ⟨i, hi, rfl, rfl, hb⟩ := hrel
    have Hb := Lib.hid hb
    by_cases hlt : i < L.length
    · obtain ⟨bl, ol, rfl, cx⟩ := ints_at' HL.out hb hlt
      have hxN : L.getD i 0 < N := Hr.out _ (by rw [List.getD, List.getElem?_eq_getElem hlt]; exact List.getElem_mem _)
      by_cases h0 : i = 0
      · have hi2 : decide ((i : Int) > 0) = false := by rw [decide_eq_false_iff_not]; omega
        have hi3 : ¬ 0 < i := by omega
        generalize L.getD i 0 = x at *
        have hx1 : decide ((x : Int) < 0) = false := by rw [decide_eq_false_iff_not]; omega
        have hx2 : ¬ (x : Int) < 0 := by omega
        have hx3 : ¬ N ≤ x := by omega
        clear hb h0
        go_upto_region 4 with fail
        go_big_quiet (fail)
        clear cx hi2
        go_wp2
        go_roundg (L.length - (i + 1))
        case measure => go_light; omega
        case rel => exact ⟨i + 1, by omega, rfl, by go_num, Below.drewN' Hb.out _⟩
      · obtain ⟨j, hij⟩ : ∃ j, j + 1 = i := ⟨i - 1, by omega⟩
        have hipos : 0 < i := by omega
        have hjl : j < L.length := by omega
        obtain ⟨bl', ol', e, cy⟩ := ints_at' HL.out hb hjl
        simp only [Option.some.injEq, Addr.mk.injEq] at e
        obtain ⟨rfl, rfl, -⟩ := e
        have hyN : L.getD j 0 < N := Hr.out _ (by rw [List.getD, List.getElem?_eq_getElem hjl]; exact List.getElem_mem _)
        obtain ⟨b', o', c', r', e, t1, t2⟩ := (HG.out.below hb).entry hyN hxN
        simp only [Value.slice.injEq] at e
        obtain ⟨rfl, -, rfl⟩ := e
        have hga := Ha.out j (by omega)
        rw [hij] at hga
        rw [hga] at t2
        have hw : IntKind.i64.wrap ((i : Int) - 1) = (j : Int) := by rw [wrap_midW (by omega) (by omega)]; omega
        generalize L.getD j 0 = y at *
        generalize L.getD i 0 = x at *
        clear hb h0 hga
        have Hij := Lib.hid hij
        clear hij
        have hi2 : decide ((i : Int) > 0) = true := by rw [decide_eq_true_eq]; omega
        go_upto_region 4 with fail
        go_quiet (fail)
        clear hi2 cx cy t1 t2 hw
        go_wp2
        go_roundg (L.length - (i + 1))
        case measure => go_light; omega
        case rel => exact ⟨i + 1, by omega, rfl, by go_num, Below.drewN' Hb.out _⟩
    · obtain rfl : L.length = i := by omega
      clear hb
      go_wp2
      exact bodyPost_ret (v := .bool true) (by simp [results, Try.results17, go_sem]) rfl ⟨rfl, Hb.out⟩

end Go.Proofs.Ytnmljgjegodkaaa
namespace Go.Proofs.Ytnmljgjegodkaaa
open Go.RowKit

/-- How many of the first k rows have two elements. -/
def longTo (m : List (List Nat)) (k : Nat) : Nat := ((m.take k).filter fun c => decide (1 < c.length)).length
theorem longTo_succ (m : List (List Nat)) {k : Nat} (hk : k < m.length) : longTo m (k + 1) = longTo m k + if 1 < (m.getD k []).length then 1 else 0 := by
  unfold longTo
  rw [List.take_add_one, List.filter_append, List.length_append, List.getElem?_eq_getElem hk, List.getD, List.getElem?_eq_getElem hk]
  by_cases h : 1 < m[k].length <;> simp [h]
theorem longTo_le (m : List (List Nat)) (k : Nat) : longTo m k ≤ m.length := Nat.le_trans (List.length_filter_le _ _) (by rw [List.length_take]; omega)
theorem compsL_len (N : Nat) (G : Nat → Nat → Bool) : (compsL N G).length ≤ N := by
  unfold compsL; rw [List.length_map]; exact lds_len _ _

set_option maxHeartbeats 3200000 in
set_option maxRecDepth 100000 in
theorem rjoined_any (N : Nat) (G : Nat → Nat → Bool) (gv : Value) (w : World) (hN : N ≤ 100) (hg : HasGrid w gv N G) (hG : Gr N G) (hs : ∀ i j, i < N → j < N → G i j = G j i) :
    Calls Try.prog 14 #[gv] w fun e w' => e = .returned (.bool (hangB N G)) ∧ Below w.heap.size w w' := by
  have hm := compsL_len N G
  have Hj := Lib.hid (show hangB N G = decide (longTo (compsL N G) (compsL N G).length < 2) from by
    have h := joined_iff hG
    have e : longTo (compsL N G) (compsL N G).length = bigC N G := by unfold longTo bigC; rw [List.take_length]
    rw [e]
    unfold hangB
    by_cases k : bigC N G < 2
    · have := h.1 k; simp [k, this]
    · have : ¬ HangE N G := fun x => k (h.2 x)
      simp [k, this])
  go_enter Try.func14, Try.ntmps14
  go_wp2_with (go_at_call 54; refine (rcomps_any N G gv w hN hg hs).mono ?_; rintro e w1 ⟨v, rfl, hp, hb⟩; have Hp := Lib.hid hp.rows; have Hb := Lib.hid hb; clear hp hb)
  obtain ⟨a, cap, bb, o, rfl, hcap, hmax, hadr, -, hrow⟩ := Hp.out
  rw [List.length_map] at hcap hadr
  rw [List.length_map]
  have Hrow := Lib.hid hrow
  have Hadr := Lib.hid hadr
  clear hrow hadr Hp hg hs
  generalize hmm : compsL N G = m at *
  clear hmm
  go_loopg [4, 5] m.length (fun g s4 s5 wr => ∃ k : Nat, k ≤ m.length ∧ g = m.length - k ∧ s5 = .int .i64 (k : Int) ∧ s4 = .int .i64 (longTo m k : Int) ∧ w1 = wr)
  case atStart => exact ⟨0, Nat.zero_le _, rfl, rfl, rfl, rfl⟩
  case round =>
    obtain ⟨k, hk, rfl, rfl, rfl, rfl⟩ := hrel
    have hle := longTo_le m k
    by_cases hlt : k < m.length
    · obtain rfl := Hadr.out (by omega)
      obtain ⟨r, hr, a', c', t1, -⟩ := rows_at Hrow.out (Below.refl _ _) (k := k) (by rw [List.length_map]; exact hlt)
      have hrl : r.length = (m.getD k []).length := by
        rw [← hr.out, List.getD, List.getD, List.getElem?_map, List.getElem?_eq_getElem hlt]
        simp [ints]
      have Hs := Lib.hid (longTo_succ m hlt)
      rw [hrl] at t1
      clear hrl hr
      generalize (m.getD k []).length = d at *
      generalize hx : longTo m k = x at *
      clear hx
      by_cases hd : 1 < d
      · have H1 := Lib.hid (show longTo m (k + 1) = x + 1 by rw [Hs.out, if_pos hd])
        have hw : IntKind.i64.wrap ((x : Int) + 1) = ((x + 1 : Nat) : Int) := by rw [show (x : Int) + 1 = ((x + 1 : Nat) : Int) by omega, wrap_midF (by omega) (by omega)]
        go_wp2
        go_roundg (m.length - (k + 1))
        case measure => go_light; omega
        case rel => exact ⟨k + 1, by omega, rfl, by go_num, by rw [H1.out]; push_cast; rfl, rfl⟩
      · have H1 := Lib.hid (show longTo m (k + 1) = x by rw [Hs.out, if_neg hd]; rfl)
        go_wp2
        go_roundg (m.length - (k + 1))
        case measure => go_light; omega
        case rel => exact ⟨k + 1, by omega, rfl, by go_num, by rw [H1.out], rfl⟩
    · obtain rfl : m.length = k := by omega
      have hx : decide ((longTo m m.length : Int) < 2) = decide (longTo m m.length < 2) := by congr 1; apply propext; omega
      go_wp2
      exact bodyPost_ret (v := .bool (hangB N G)) (by simp [results, Try.results14, go_sem, Hj.out]) rfl ⟨rfl, Hb.out⟩

end Go.Proofs.Ytnmljgjegodkaaa
namespace Go.Proofs.Ytnmljgjegodkaaa
open Go.RowKit

set_option maxHeartbeats 3200000 in
set_option maxRecDepth 100000 in
theorem rodd_any (N : Nat) (G : Nat → Nat → Bool) (gv : Value) (w : World) (hN : N ≤ 100) (hg : HasGrid w gv N G) :
    Calls Try.prog 16 #[gv] w fun e w' => ∃ x, e = .returned x ∧ w'.ownsRow w.heap.size 3 1 x (oddL N G).length (nvals (oddL N G)) ∧ Below w.heap.size w w' := by
  have HG := Lib.hid hg
  obtain ⟨Bg, ga, gc, gb, go', R0, rfl, -⟩ := hg
  go_enter Try.func16, Try.ntmps16
  go_wp2
  go_loopg [3, 4] N (fun g s3 s9 wr => ∃ i : Nat, i ≤ N ∧ g = N - i ∧ s9 = .int .i64 (i : Int) ∧ wr.ownsRow w.heap.size 3 1 s3 (oddTo N G i).length (nvals (oddTo N G i)) ∧ Below w.heap.size w wr)
  case atStart => exact ⟨0, Nat.zero_le _, rfl, rfl, World.ownsRow_nil _ _ _ _, Below.refl _ _⟩
  case round =>
    obtain ⟨i, hi, rfl, rfl, ho, hb⟩ := hrel
    obtain ⟨a2, c2, rfl⟩ := ownsRow_form ho
    have hz := hb.size
    have Ho := Lib.hid ho; have Hb := Lib.hid hb
    by_cases hlt : i < N
    · have hsu := oddTo_succ N G i
      have hcl : (oddTo N G i).length ≤ 100 := by have := List.length_filter_le (fun v => decide (cntN N (G v) % 2 = 1)) (List.range i); rw [List.length_range] at this; exact Nat.le_trans this (by omega)
      have hcn := cntN_le N (G i)
      have Hent := Lib.hid (fun j (hj : j < N) => (HG.out.below hb).entry hlt hj)
      have Hsu := Lib.hid hsu
      clear ho hb hsu
      generalize hcc : oddTo N G i = cc at *
      have Hcc := Lib.hid hcc
      clear hcc
      go_wp2
      go_loopg [5, 6] N (fun g s5 s6 wx => ∃ j : Nat, j ≤ N ∧ g = N - j ∧ s6 = .int .i64 (j : Int) ∧ s5 = .int .i64 (cntN j (G i) : Int) ∧ wr = wx)
      case atStart => exact ⟨0, Nat.zero_le _, rfl, rfl, rfl, rfl⟩
      case round =>
        obtain ⟨j, hj, rfl, rfl, rfl, rfl⟩ := hrel
        have hcs := cntN_succ j (G i)
        have hcj := cntN_le j (G i)
        by_cases hlj : j < N
        · obtain ⟨b', o', c', r', e, t1, t2⟩ := Hent.out j hlj
          simp only [Value.slice.injEq] at e
          obtain ⟨rfl, -, rfl⟩ := e
          have Hcs := Lib.hid hcs
          clear hcs
          generalize hcx : cntN j (G i) = cx at *
          have hw : IntKind.i64.wrap ((cx : Int) + 1) = ((cx + 1 : Nat) : Int) := by rw [show (cx : Int) + 1 = ((cx + 1 : Nat) : Int) by omega, wrap_midF (by omega) (by omega)]
          clear hcx
          cases hgij : G i j with
          | true =>
            rw [hgij] at t2
            have H1 := Lib.hid (show cntN (j + 1) (G i) = cx + 1 by rw [Hcs.out, hgij]; rfl)
            clear hgij
            go_wp2
            go_roundg (N - (j + 1))
            case measure => go_light; omega
            case rel => exact ⟨j + 1, by omega, rfl, by go_num, by rw [H1.out]; push_cast; rfl, rfl⟩
          | false =>
            rw [hgij] at t2
            have H1 := Lib.hid (show cntN (j + 1) (G i) = cx by rw [Hcs.out, hgij]; rfl)
            clear hgij
            go_wp2
            go_roundg (N - (j + 1))
            case measure => go_light; omega
            case rel => exact ⟨j + 1, by omega, rfl, by go_num, by rw [H1.out], rfl⟩
        · obtain rfl : N = j := by omega
          clear hcs hlj hj hcj
          have hsu := Hsu.out
          generalize cntN N (G i) = d at *
          by_cases hd : d % 2 = 1
          · rw [if_pos hd] at hsu
            have Hsu := Lib.hid hsu
            have htm1 : ((d : Int) % 2 == 1) = true := by rw [beq_iff_eq]; omega
            clear hsu hd
            go_wp2_with (at_builtin; refine wpList_append_has rfl (.tmp 31) (.tmp 33) 29 rfl w.heap.size 3 (.int .i64 0) 8 Try.underlying29 info3 rfl (.slice a2 cc.length c2) cc.length (nvals cc) rfl (Ho.out.alloc _) _ 1 (nvals [i]) rfl (HasCells.one _ _ _ rfl) (by omega) (by omega) (by simp; omega) ?_; intro a5 c5 w6 ho5 hg5; have Ho5 := Lib.hid ho5; have Hb6 := Lib.hid ((Hb.out.alloc hz (Obj.cells #[.int .i64 (i : Int)] 3)).grown hg5 (by simp; omega) (fun g e => (Ho.out.lt g e).1)); clear ho5 hg5)
            go_roundg (N - (i + 1))
            case measure => go_light; omega
            case rel => exact ⟨i + 1, by omega, rfl, by go_num, by rw [Hsu.out]; have h5 := Ho5.out; simpa [nvals, ints] using h5, Hb6.out⟩
          · rw [if_neg hd, List.append_nil] at hsu
            have Hsu := Lib.hid hsu
            have htm1 : ((d : Int) % 2 == 1) = false := by rw [beq_eq_false_iff_ne]; omega
            clear hsu hd
            go_wp2
            go_roundg (N - (i + 1))
            case measure => go_light; omega
            case rel => exact ⟨i + 1, by omega, rfl, by go_num, by rw [Hsu.out]; exact Ho.out, Hb.out⟩
    · obtain rfl : N = i := by omega
      clear ho hb
      go_wp2
      exact bodyPost_ret (v := .slice a2 (oddTo N G N).length c2) (by simp [results, Try.results16, go_sem]) rfl ⟨_, rfl, Ho.out, Hb.out⟩

end Go.Proofs.Ytnmljgjegodkaaa
