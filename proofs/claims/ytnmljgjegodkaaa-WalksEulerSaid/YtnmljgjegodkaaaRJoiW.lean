/- arborref.Joined: no two parts have edges. -/
import Derived.Test.YtnmljgjegodkaaaJoiW
import Derived.Test.YtnmljgjegodkaaaRCompW
namespace Go.Proofs.Ytnmljgjegodkaaa
open Go.RowKit

/-- How many of the first k rows have two elements. -/
def longTo (m : List (List Nat)) (k : Nat) : Nat := ((m.take k).filter fun c => decide (1 < c.length)).length
theorem longTo_succ (m : List (List Nat)) {k : Nat} (hk : k < m.length) : longTo m (k + 1) = longTo m k + if 1 < (m.getD k []).length then 1 else 0 := by
  unfold longTo
  rw [List.take_add_one, List.filter_append, List.length_append, List.getElem?_eq_getElem hk, List.getD, List.getElem?_eq_getElem hk]
  by_cases h : 1 < m[k].length <;> simp [h]
theorem longTo_le (m : List (List Nat)) (k : Nat) : longTo m k ≤ m.length := Nat.le_trans (List.length_filter_le _ _) (by rw [List.length_take]; omega)
theorem compsL_len (N : Nat) (G : Nat → Nat → Bool) : (compsL N G).length ≤ N := by
  unfold compsL; rw [List.length_map]; exact lds_len _ _

set_option maxHeartbeats 3200000 in
set_option maxRecDepth 100000 in
theorem rjoined_any (N : Nat) (G : Nat → Nat → Bool) (gv : Value) (w : World) (hN : N ≤ 100) (hg : HasGrid w gv N G) (hG : Gr N G) (hs : ∀ i j, i < N → j < N → G i j = G j i) :
    Calls Try.prog 14 #[gv] w fun e w' => e = .returned (.bool (hangB N G)) ∧ Below w.heap.size w w' := by
  have hm := compsL_len N G
  have Hj := Lib.hid (show hangB N G = decide (longTo (compsL N G) (compsL N G).length < 2) from by
    have h := joined_iff hG
    have e : longTo (compsL N G) (compsL N G).length = bigC N G := by unfold longTo bigC; rw [List.take_length]
    rw [e]
    unfold hangB
    by_cases k : bigC N G < 2
    · have := h.1 k; simp [k, this]
    · have : ¬ HangE N G := fun x => k (h.2 x)
      simp [k, this])
  go_enter Try.func14, Try.ntmps14
  go_wp2_with (go_at_call 54; refine (rcomps_any N G gv w hN hg hs).mono ?_; rintro e w1 ⟨v, rfl, hp, hb⟩; have Hp := Lib.hid hp.rows; have Hb := Lib.hid hb; clear hp hb)
  obtain ⟨a, cap, bb, o, rfl, hcap, hmax, hadr, -, hrow⟩ := Hp.out
  rw [List.length_map] at hcap hadr
  rw [List.length_map]
  have Hrow := Lib.hid hrow
  have Hadr := Lib.hid hadr
  clear hrow hadr Hp hg hs
  generalize hmm : compsL N G = m at *
  clear hmm
  go_loopg [4, 5] m.length (fun g s4 s5 wr => ∃ k : Nat, k ≤ m.length ∧ g = m.length - k ∧ s5 = .int .i64 (k : Int) ∧ s4 = .int .i64 (longTo m k : Int) ∧ w1 = wr)
  case atStart => exact ⟨0, Nat.zero_le _, rfl, rfl, rfl, rfl⟩
  case round =>
    obtain ⟨k, hk, rfl, rfl, rfl, rfl⟩ := hrel
    have hle := longTo_le m k
    by_cases hlt : k < m.length
    · obtain rfl := Hadr.out (by omega)
      obtain ⟨r, hr, a', c', t1, -⟩ := rows_at Hrow.out (Below.refl _ _) (k := k) (by rw [List.length_map]; exact hlt)
      have hrl : r.length = (m.getD k []).length := by
        rw [← hr.out, List.getD, List.getD, List.getElem?_map, List.getElem?_eq_getElem hlt]
        simp [ints]
      have Hs := Lib.hid (longTo_succ m hlt)
      rw [hrl] at t1
      clear hrl hr
      generalize (m.getD k []).length = d at *
      generalize hx : longTo m k = x at *
      clear hx
      by_cases hd : 1 < d
      · have H1 := Lib.hid (show longTo m (k + 1) = x + 1 by rw [Hs.out, if_pos hd])
        have hw : IntKind.i64.wrap ((x : Int) + 1) = ((x + 1 : Nat) : Int) := by rw [show (x : Int) + 1 = ((x + 1 : Nat) : Int) by omega, wrap_midF (by omega) (by omega)]
        go_wp2
        go_roundg (m.length - (k + 1))
        case measure => go_light; omega
        case rel => exact ⟨k + 1, by omega, rfl, by go_num, by rw [H1.out]; push_cast; rfl, rfl⟩
      · have H1 := Lib.hid (show longTo m (k + 1) = x by rw [Hs.out, if_neg hd]; rfl)
        go_wp2
        go_roundg (m.length - (k + 1))
        case measure => go_light; omega
        case rel => exact ⟨k + 1, by omega, rfl, by go_num, by rw [H1.out], rfl⟩
    · obtain rfl : m.length = k := by omega
      have hx : decide ((longTo m m.length : Int) < 2) = decide (longTo m m.length < 2) := by congr 1; apply propext; omega
      go_wp2
      exact bodyPost_ret (v := .bool (hangB N G)) (by simp [results, Try.results14, go_sem, Hj.out]) rfl ⟨rfl, Hb.out⟩

end Go.Proofs.Ytnmljgjegodkaaa
