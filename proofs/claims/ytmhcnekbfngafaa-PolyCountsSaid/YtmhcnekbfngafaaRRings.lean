/- arborref.rings, arborref.Rings. -/
import Derived.Test.YtmhcnekbfngafaaPB
import Derived.Test.YtmhcnekbfngafaaHasGrid
import Derived.Test.YtmhcnekbfngafaaHas2
import Derived.Deep.Light
import Derived.Deep.Modes
namespace Go.Proofs.Ytmhcnekbfngafaa
open Go Go.RowKit

/-- What has been gone through. -/
def visL (L : List Nat) (u : Nat) : Bool := L.contains u
theorem visL_add (L : List Nat) (v : Nat) : visL (L ++ [v]) = addV (visL L) v := by
  funext u
  unfold visL addV
  rw [Bool.eq_iff_iff]
  simp
/-- The first of the sum is nought: 0 has been visited. -/
def rsum (N : Nat) (G : Nat → Nat → Bool) (V : Nat → Bool) (d last v : Nat) : Int := sumI (fun w => b2i (G last w && !V w) * rngN N G (addV V w) d w) v
theorem rsum_one {N : Nat} {G : Nat → Nat → Bool} {V : Nat → Bool} {d last : Nat} (h0 : V 0 = true) : rsum N G V d last 1 = 0 := by
  unfold rsum
  simp [sumI, h0, b2i]

theorem last_at {L : List Nat} {k last : Nat} (hk : L.length = k + 1) (h : L.getLast? = some last) : (ints L).getD k 0 = (last : Int) := by
  rw [List.getLast?_eq_getElem?, hk, Nat.add_sub_cancel] at h
  unfold ints
  rw [List.getD, List.getElem?_map, h]; rfl
theorem ints_push (L : List Nat) (v : Nat) : (ints L).map (Value.int .i64) ++ [.int .i64 (v : Int)] = (ints (L ++ [v])).map (Value.int .i64) := by simp [ints]

theorem ints_one (w : World) (a : Int) (t : TypeId) : IsInts (w.alloc (.cells #[.int .i64 a] t)) (.slice (some ⟨w.heap.size, 0, none⟩) 1 1) [a] := by
  refine ⟨_, 1, w.heap.size, 0, rfl, Nat.le_refl _, by omega, fun _ => rfl, by simp, fun j hj => ?_⟩
  have hj2 : j < 1 := hj
  match j, hj2 with
  | 0, _ => rw [World.cell?_alloc_at _ _ _ _ rfl]; rfl

set_option maxHeartbeats 3200000 in
set_option maxRecDepth 100000 in
theorem rrings_any {N : Nat} {G : Nat → Nat → Bool} (hN : N ≤ 100) : ∀ (d : Nat) (L : List Nat) (last : Nat) (gv lv : Value) (w : World), L.length + d = N → (∀ x ∈ L, x < N) → 0 ∈ L → L.getLast? = some last → HasGrid w gv N G → IsInts w lv (ints L) →
    Calls Try.prog 58 #[gv, lv] w fun e w' => e = .returned (.int .i64 (wI (rngN N G (visL L) d last))) ∧ Below w.heap.size w w' := by
  intro d
  induction d with
  | zero =>
    intro L last gv lv w hlen hL h0 hlast hg hi
    obtain ⟨k, hk⟩ : ∃ k, L.length = k + 1 := ⟨L.length - 1, by have := List.length_pos_of_mem h0; omega⟩
    have hll := hL last (List.mem_of_getLast? hlast)
    obtain ⟨B, ga, gc, gb, go, R, rfl, -, hga, hgr⟩ := hg
    obtain ⟨la, lc, lb, lo, rfl, -, -, hla, -, hlc⟩ := hi
    have hil : (ints L).length = k + 1 := by rw [ints_length, hk]
    rw [hil] at hla hlc ⊢
    obtain rfl := hla (by omega)
    obtain rfl := (hga (by omega)).1
    have t1 := hlc k (by omega)
    rw [last_at hk hlast] at t1
    have t2 := hgr.head last hll
    have t3 := hgr.cell hll (show 0 < N by omega)
    have q1 : ((k : Int) + 1 == (N : Int)) = true := by simp; omega
    clear hlc hla hga hgr hL h0
    rw [show rngN N G (visL L) 0 last = b2i (G last 0) from rfl]
    go_enter Try.func58, Try.ntmps58
    cases hgv : G last 0
    · rw [hgv] at t3
      clear hgv
      rw [show wI (b2i false) = 0 by rfl]
      go_wp2
      go_ret
      exact ⟨rfl, Below.refl _ _⟩
    · rw [hgv] at t3
      clear hgv
      rw [show wI (b2i true) = 1 by rfl]
      go_wp2
      go_ret
      exact ⟨rfl, Below.refl _ _⟩
  | succ d ih =>
    intro L last gv lv w hlen hL h0 hlast hg hi
    obtain ⟨k, hk⟩ : ∃ k, L.length = k + 1 := ⟨L.length - 1, by have := List.length_pos_of_mem h0; omega⟩
    have hll := hL last (List.mem_of_getLast? hlast)
    have Hg := Lib.hid hg; have Hi := Lib.hid hi; have IH := Lib.hid ih; have HL := Lib.hid hL; have H0 := Lib.hid h0
    obtain ⟨B, ga, gc, gb, go, R, rfl, -, hga, hgr⟩ := hg
    obtain ⟨la, lc, lb, lo, rfl, -, -, hla, -, hlc⟩ := hi
    have hil : (ints L).length = k + 1 := by rw [ints_length, hk]
    rw [hil] at hla hlc Hi ⊢
    obtain rfl := hla (by omega)
    obtain rfl := (hga (by omega)).1
    have t1 := hlc k (by omega)
    rw [last_at hk hlast] at t1
    have q1 : ((k : Int) + 1 == (N : Int)) = false := by simp; omega
    have hr1 := rsum_one (N := N) (G := G) (V := visL L) (d := d) (last := last) (by unfold visL; simpa using h0)
    have Hr1 := Lib.hid hr1; have Hgr := Lib.hid hgr; have Hil := Lib.hid hil
    clear hlc hla hga hgr hL h0 ih hr1 hil
    rw [show rngN N G (visL L) (d + 1) last = rsum N G (visL L) d last N from rfl]
    go_enter Try.func58, Try.ntmps58
    go_wp2
    clear t1
    go_loopg [6, 7] (N - 1) (fun g s6 s7 wr => ∃ (v : Nat) (x : Int), 1 ≤ v ∧ v ≤ N ∧ g = N - v ∧ s7 = .int .i64 (v : Int) ∧ s6 = .int .i64 x ∧ x = wI (rsum N G (visL L) d last v) ∧ Below w.heap.size w wr)
    case atStart => exact ⟨1, 0, Nat.le_refl _, by omega, rfl, rfl, rfl, by rw [Hr1.out]; rfl, Below.refl _ _⟩
    case round =>
      obtain ⟨v, x, hv1, hv, rfl, rfl, rfl, hx, hb⟩ := hrel
      have Hx := Lib.hid hx; have Hb := Lib.hid hb
      clear hx hb
      by_cases hvN : v < N
      · have t2 := below_cell Hb.out (Hgr.out.head last hll)
        have t3 := below_cell Hb.out (Hgr.out.cell hll hvN)
        have Hnx := Lib.hid (show rsum N G (visL L) d last (v + 1) = rsum N G (visL L) d last v + b2i (G last v && !visL L v) * rngN N G (addV (visL L) v) d v from rfl)
        cases hgv : G last v
        · rw [hgv] at t3 Hnx
          have Hn2 := Lib.hid (show rsum N G (visL L) d last (v + 1) = rsum N G (visL L) d last v by rw [Hnx.out]; simp [b2i])
          clear hgv
          go_wp2
          go_roundg (N - (v + 1))
          case measure => go_light; omega
          case rel => exact ⟨v + 1, x, by omega, by omega, rfl, by go_num, rfl, by rw [Hn2.out]; exact Hx.out, Hb.out⟩
        · rw [hgv] at t3 Hnx
          clear hgv
          have hh := has2_any L _ v wr (Hi.out.below Hb.out)
          have Hh := Lib.hid hh
          clear hh
          go_wp2_with fail
          refine Hh.out.mono ?_
          rintro e w2 ⟨rfl, rfl⟩
          cases hvs : L.contains v
          · have hvs' : visL L v = false := hvs
            rw [hvs'] at Hnx
            clear hvs
            have hcl := (Hi.out.below Hb.out).cells
            rw [Hil.out] at hcl
            have Hcl := Lib.hid hcl
            clear hcl
            have hsz := Hb.out.size
            go_wp2_with (first
              | (at_builtin; refine wpList_append_has rfl (.const (.slice none 0 0)) (.tmp 46) 39 rfl w.heap.size 3 (.int .i64 0) 8 Try.underlying39 info3 rfl _ 0 [] rfl (World.ownsRow_nil _ _ _ _) _ (k + 1) ((ints L).map (Value.int .i64)) rfl Hcl.out (by omega) (by omega) (by omega) ?_; intro a1 c1 w1 hown1 hg1; simp only [Nat.zero_add, List.nil_append] at hown1; have hsz1 := hg1.size)
              | (at_builtin; refine wpList_append_has rfl (.tmp 47) (.tmp 49) 39 rfl w.heap.size 3 (.int .i64 0) 8 Try.underlying39 info3 rfl _ (k + 1) ((ints L).map (Value.int .i64)) rfl (hown1.alloc _) _ 1 [.int .i64 (v : Int)] rfl (HasCells.one _ _ _ rfl) (by omega) (by omega) (by simp; omega) ?_; intro a2 c2 w3 hown2 hg2)
              | fail)
            have hbw1 := (Hb.out.trans ((below_grown0 hg1).mono Hb.out.size)).alloc (by omega) (Obj.cells #[Value.int .i64 (v : Int)] 3)
            have hb2 := hbw1.grown hg2 (by rw [World.size_alloc]; omega) (fun g e => (hown1.lt g e).1)
            have hi2 : IsInts w3 (.slice a2 (k + 1 + 1) c2) (ints (L ++ [v])) := IsInts.owned (base := w.heap.size) (e := 3) (n := k + 1 + 1) (by rw [← ints_push]; exact hown2)
            have Hb4 := Lib.hid hb2
            have Hi2 := Lib.hid hi2
            clear hbw1 hb2 hi2 hown1 hown2 hg1 hg2 hsz1
            have HL2 := Lib.hid (show ∀ y ∈ L ++ [v], y < N by
              intro y hy
              rcases List.mem_append.1 hy with h | h
              · exact HL.out y h
              · rw [List.mem_singleton.1 h]; exact hvN)
            refine (IH.out (L ++ [v]) v _ _ w3 (by simp; omega) HL2.out (List.mem_append_left _ H0.out) (by simp) (Hg.out.below Hb4.out) Hi2.out).mono ?_
            rintro e w4 ⟨rfl, hb3⟩
            have Hb5 := Lib.hid (Hb4.out.trans (hb3.mono Hb4.out.size))
            have Hsum := Lib.hid (show wrap64 (x + wI (rngN N G (visL (L ++ [v])) d v)) = wI (rsum N G (visL L) d last (v + 1)) by
              rw [← wI_64, Hx.out, wI_add, Hnx.out, visL_add]; simp [b2i])
            generalize wI (rngN N G (visL (L ++ [v])) d v) = vR at *
            clear hb3
            go_wp2
            go_roundg (N - (v + 1))
            case measure => go_light; omega
            case rel => exact ⟨v + 1, wrap64 (x + vR), by omega, by omega, rfl, by go_num, rfl, Hsum.out, Hb5.out⟩
          · have hvs' : visL L v = true := hvs
            rw [hvs'] at Hnx
            have Hn2 := Lib.hid (show rsum N G (visL L) d last (v + 1) = rsum N G (visL L) d last v by rw [Hnx.out]; simp [b2i])
            clear hvs hvs'
            go_wp2
            go_roundg (N - (v + 1))
            case measure => go_light; omega
            case rel => exact ⟨v + 1, x, by omega, by omega, rfl, by go_num, rfl, by rw [Hn2.out]; exact Hx.out, Hb.out⟩
      · obtain rfl : v = N := by omega
        go_wp2
        go_ret
        exact ⟨ret_int Hx.out, Hb.out⟩

set_option maxHeartbeats 400000 in
theorem rringsTop_any (N : Nat) (G : Nat → Nat → Bool) (hN : N ≤ 100) (gv : Value) (w : World) (hg : HasGrid w gv N G) :
    Calls Try.prog 26 #[gv] w fun e w' => e = .returned (.int .i64 (if N < 3 then 0 else wrap64 (Int.tdiv (wI (rngN N G (visL [0]) (N - 1) 0)) 2))) ∧ Below w.heap.size w w' := by
  have Hg := Lib.hid hg
  obtain ⟨B, ga, gc, gb, go, R, rfl, -, hga, hgr⟩ := hg
  clear hga hgr
  go_enter Try.func26, Try.ntmps26
  by_cases h3 : N < 3
  · rw [if_pos h3]
    go_wp2
    go_ret
    exact ⟨rfl, Below.refl _ _⟩
  · rw [if_neg h3]
    have hi := ints_one w 0 3
    have Hi := Lib.hid hi
    clear hi
    go_wp2_with fail
    refine (rrings_any hN (N - 1) [0] 0 _ _ _ (by simp; omega) (by simp; omega) (by simp) rfl (Hg.out.below (below1 _ _)) Hi.out).mono ?_
    rintro e w1 ⟨rfl, hb⟩
    have Hb := Lib.hid (show Below w.heap.size w w1 from (below1 w _).trans (hb.mono (below1 w _).size))
    clear hb
    generalize hx : wI (rngN N G (visL [0]) (N - 1) 0) = x at *
    have Hx := Lib.hid hx
    clear hx
    go_wp2
    go_ret
    exact ⟨by rw [Hx.out]; rfl, Hb.out⟩

end Go.Proofs.Ytmhcnekbfngafaa
