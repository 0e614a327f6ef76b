/- colour.edger: free, first, set. -/
import Derived.Test.YtnhhohhhpaejmaaDoorPC
import Derived.BigQuiet
import Derived.Deep.LoopGhost
import Derived.Deep.Light
import Derived.Deep.RegionHeld3
namespace Go.Proofs.YtnhhohhhpaejmaaDoor
open Go Go.RowKit

section
variable {N D XB b : Nat} {R : Nat → Nat} {C : Nat → Nat → Nat} {w : World}
/-- What free answers. -/
def FreePost (N : Nat) (C : Nat → Nat → Nat) (v c : Nat) (w : World) (e : Ending) (w' : World) : Prop :=
  ∃ bb : Bool, e = .returned (.bool bb) ∧ (bb = true → FreeC N C v c) ∧ (bb = false → ¬ FreeC N C v c) ∧ w' = w

set_option maxHeartbeats 1600000 in
set_option maxRecDepth 100000 in
theorem efree_any (hN : N ≤ 100) {v c : Nat} (hv : v < N) (h : EdI w XB b N R C) :
    Calls Tryd.prog 39 #[.pointer (some ⟨XB, 0, none⟩), .int .i64 (v : Int), .int .i64 (c : Int)] w (FreePost N C v c w) := by
  have cx := h.cx
  have hd := h.head v hv
  have Hc := Lib.hid (fun j (hj : j < N) => h.cell hv hj)
  clear h
  go_enter Tryd.func39, Tryd.ntmps39
  go_wp2
  go_loopg [17] N (fun g s17 wr => ∃ j : Nat, j ≤ N ∧ g = N - j ∧ s17 = .int .i64 (j : Int) ∧ wr = w ∧ ∀ u, u < j → C v u ≠ c)
  case atStart => exact ⟨0, Nat.zero_le _, rfl, rfl, rfl, fun u hu => absurd hu (Nat.not_lt_zero _)⟩
  case round =>
    obtain ⟨j, hj, rfl, rfl, rfl, hno⟩ := hrel
    have Hno := Lib.hid hno
    clear hno
    by_cases hjl : j < N
    · have cj := Hc.out j hjl
      by_cases he : C v j = c
      · have q : ((C v j : Int) == (c : Int)) = true := by simp [he]
        have He := Lib.hid (show ¬ FreeC N C v c from fun hf => hf j hjl he)
        clear he
        generalize C v j = k at *
        go_wp2
        go_ret
        exact ⟨false, rfl, (fun h => by cases h), (fun _ => He.out), rfl⟩
      · have q : ((C v j : Int) == (c : Int)) = false := by simp; omega
        have He := Lib.hid (show ∀ u, u < j + 1 → C v u ≠ c from fun u hu => by
          by_cases e : u = j
          · rw [e]; exact he
          · exact Hno.out u (by omega))
        clear he
        generalize C v j = k at *
        go_wp2
        go_roundg (N - (j + 1))
        case measure => go_light; omega
        case rel => exact ⟨j + 1, by omega, rfl, by go_num, rfl, He.out⟩
    · obtain rfl : j = N := by omega
      go_wp2
      go_ret
      exact ⟨true, rfl, fun _ => Hno.out, (fun h => by cases h), rfl⟩
theorem efree_is (hN : N ≤ 100) {v c : Nat} (hv : v < N) (h : EdI w XB b N R C) (bb : Bool) (hb : if bb then FreeC N C v c else ¬ FreeC N C v c) :
    Calls Tryd.prog 39 #[.pointer (some ⟨XB, 0, none⟩), .int .i64 (v : Int), .int .i64 (c : Int)] w fun e w' => e = .returned (.bool bb) ∧ w' = w :=
  (efree_any hN hv h).mono fun e w' ⟨b2, he, hyes, hnot, hww⟩ => by
    refine ⟨?_, hww⟩
    cases bb <;> cases b2
    · exact he
    · exact absurd (hyes rfl) hb
    · exact absurd hb (hnot rfl)
    · exact he

set_option maxHeartbeats 1600000 in
set_option maxRecDepth 100000 in
theorem efirst_any (hN : N ≤ 100) {v : Nat} (hv : v < N) (h : EdI w XB b N R C) :
    Calls Tryd.prog 40 #[.pointer (some ⟨XB, 0, none⟩), .int .i64 (v : Int)] w fun e w' => ∃ c : Nat, e = .returned (.int .i64 (c : Int)) ∧ FirstC N C v c ∧ w' = w := by
  have H := Lib.hid h
  clear h
  go_enter Tryd.func40, Tryd.ntmps40
  go_wp2
  go_loopg [5] (N + 1) (fun g s5 wr => ∃ c : Nat, 1 ≤ c ∧ c ≤ N + 1 ∧ g = N + 2 - c ∧ s5 = .int .i64 (c : Int) ∧ wr = w ∧ ∀ k, 1 ≤ k → k < c → ¬ FreeC N C v k)
  case atStart => exact ⟨1, Nat.le_refl _, by omega, rfl, rfl, rfl, fun k h1 h2 => by omega⟩
  case round =>
    obtain ⟨c, hc1, hc2, rfl, rfl, rfl, hno⟩ := hrel
    have Hno := Lib.hid hno
    clear hno
    by_cases hf : FreeC N C v c
    · have Hf := Lib.hid hf
      have Hcall := Lib.hid (efree_is hN hv H.out true hf)
      clear hf
      go_wp2_with (go_at_call 39; refine Hcall.out.mono ?_; rintro e w' ⟨rfl, hww⟩; rw [hww]; clear hww)
      go_ret
      exact ⟨c, rfl, ⟨hc1, Hf.out, Hno.out⟩, rfl⟩
    · have Hf := Lib.hid hf
      have Hcall := Lib.hid (efree_is hN hv H.out false hf)
      have hle : c + 1 ≤ N + 1 := by
        have h1 := used_le (C := C) (N := N) (v := v) (c := c + 1) (fun k hk1 hk2 => by
          by_cases e : k = c
          · rw [e]; exact hf
          · exact Hno.out k hk1 (by omega))
        have h2 := cnt_le (fun u => decide (C v u ≠ 0 ∧ C v u < c + 1)) N
        omega
      clear hf
      go_wp2_with (go_at_call 39; refine Hcall.out.mono ?_; rintro e w' ⟨rfl, hww⟩; rw [hww]; clear hww)
      go_roundg (N + 2 - (c + 1))
      case measure => go_light; omega
      case rel => exact ⟨c + 1, by omega, hle, rfl, by go_num, rfl, fun k hk1 hk2 => by
        by_cases e : k = c
        · rw [e]; exact Hf.out
        · exact Hno.out k hk1 (by omega)⟩

set_option maxHeartbeats 1600000 in
set_option maxRecDepth 100000 in
theorem eset_any (hN : N ≤ 100) {x y k : Nat} (hx : x < N) (hy : y < N) (hxy : x ≠ y) (h : EdI w XB b N R C) :
    Calls Tryd.prog 42 #[.pointer (some ⟨XB, 0, none⟩), .int .i64 (x : Int), .int .i64 (y : Int), .int .i64 (k : Int)] w fun e w' => e = .returned (.tuple #[]) ∧ EdI w' XB b N R (setC C x y k) ∧ Chg (RowB R N) w w' := by
  have h1 : EdI w.drew XB b N R C := h.below (Below.refl _ _).drew
  have h2 : EdI (w.setCell ⟨R x, y, none⟩ (.int .i64 (k : Int))).drew XB b N R _ := (h.set1 hx y k).below (Below.refl _ _).drew
  have cx := h1.cx
  have hdx := h1.head x hx
  have hdy := h1.head y hy
  have ca := h1.cell hx hy
  have fa := (h1.row x hx).frozen y
  have cb := h2.cell hy hx
  simp only [if_neg (show ¬ (y = x ∧ x = y) from fun e => hxy e.2)] at cb
  have fb := (h2.row y hy).frozen x
  have hne : R x ≠ R y := fun e => hxy (h.inj x y hx hy e)
  have n1 := h1.offX x hx
  have n2 := h1.offB x hx
  have n3 := h1.offX y hy
  have n4 := h1.offB y hy
  have H3 := Lib.hid (show EdI ((w.setCell ⟨R x, y, none⟩ (.int .i64 (k : Int))).setCell ⟨R y, x, none⟩ (.int .i64 (k : Int))).drew XB b N R _ from (h.put hx hy k).below (Below.refl _ _).drew)
  have Hch := Lib.hid ((chg_put (R := R) (N := N) w hx hy (.int .i64 (k : Int)) (.int .i64 (k : Int)) y x).drew)
  have H2 := Lib.hid h2
  have H1 := Lib.hid h1
  clear h h1 h2
  go_enter Tryd.func42, Tryd.ntmps42
  go_region_held3 (fun w' => w'.cell? ⟨XB, 0, none⟩ = some (.slice (some ⟨b, 0, none⟩) N N) ∧ w'.cell? ⟨b, x, none⟩ = some (.slice (some ⟨R x, 0, none⟩) N N) ∧ w'.cell? ⟨b, y, none⟩ = some (.slice (some ⟨R y, 0, none⟩) N N))
    (first | with_reducible exact ⟨H1.out.cx, H1.out.head x hx, H1.out.head y hy⟩ | with_reducible exact ⟨H2.out.cx, H2.out.head x hx, H2.out.head y hy⟩ | with_reducible exact ⟨H3.out.cx, H3.out.head x hx, H3.out.head y hy⟩ | fail) (fail)
  all_goals
    go_wp2
    go_end0
    exact ⟨rfl, H3.out, Hch.out⟩
end
end Go.Proofs.YtnhhohhhpaejmaaDoor
