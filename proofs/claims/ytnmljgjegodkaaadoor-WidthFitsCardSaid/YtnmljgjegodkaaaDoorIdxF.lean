/- slices.IndexFunc, slices.ContainsFunc at rows of bools; the function literal of width.Fits. -/
import Derived.Test.YtnmljgjegodkaaaDoorFitsM
import Derived.Shelf.Abstract
import Derived.Deep.Draws
namespace Go.Proofs.YtnmljgjegodkaaaDoor
open Go Go.RowKit

/-- Where a function value answers yes. -/
def IdxPost (f : Nat → Bool) (M : Nat) (w : World) (e : Ending) (w' : World) : Prop := ∃ z : Int, e = .returned (.int .i64 z) ∧ (0 ≤ z ↔ anyN f M = true) ∧ ∃ n, w' = w.drewN n
set_option maxHeartbeats 1600000 in
set_option maxRecDepth 100000 in
theorem idxf_any {M D : Nat} (f : Nat → Bool) (row : Nat → Value) (g : Nat) (lb : Array Value) (w : World) (eg : ∀ args w, (callFunc g args).run Tryd.prog w = .ok (.enter g args) w) (hM : M ≤ 100) (hh : ∀ q, q < M → w.cell? ⟨D, q, none⟩ = some (row q))
    (hp : ∀ q n, q < M → Calls Tryd.prog g (#[row q] ++ lb) (w.drewN n) fun e w' => e = .returned (.bool (f q)) ∧ ∃ k, w' = (w.drewN n).drewN k) :
    Calls Tryd.prog 57 #[.slice (some ⟨D, 0, none⟩) M M, .func (.func g) #[] lb] w (IdxPost f M w) := by
  have Hh := Lib.hid hh; have Hp := Lib.hid hp
  clear hh hp
  go_enter Tryd.func57, Tryd.ntmps57
  go_upto_region 2 with fail
  go_loopg [8] M (fun gm s8 wr => ∃ q n : Nat, q ≤ M ∧ gm = M - q ∧ s8 = .int .i64 (q : Int) ∧ wr = w.drewN n ∧ anyN f q = false)
  case atStart => exact ⟨0, 0, Nat.zero_le _, rfl, rfl, rfl, rfl⟩
  case round =>
    obtain ⟨q, n, hq, rfl, rfl, rfl, hno⟩ := hrel
    have Hno := Lib.hid hno
    clear hno
    by_cases hlt : q < M
    · have cr : w.cell? ⟨D, q, none⟩ = some (row q) := Hh.out q hlt
      have hcall := Hp.out q n hlt
      have Hs := Lib.hid (show anyN f (q + 1) = (anyN f q || f q) from rfl)
      generalize row q = r at *
      cases hf : f q with
      | true =>
        rw [hf] at hcall
        have Hyes := Lib.hid (show anyN f M = true from anyN_iff.2 ⟨q, hlt, hf⟩)
        clear hf
        go_wp2_with (go_at_fn g; refine hcall.mono ?_; rintro e w' ⟨rfl, q', rfl⟩)
        go_ret
        exact ⟨_, rfl, ⟨fun _ => Hyes.out, fun _ => by omega⟩, _, rfl⟩
      | false =>
        rw [hf] at hcall
        have Hst := Lib.hid (show anyN f (q + 1) = false by rw [Hs.out, Hno.out, hf]; rfl)
        clear hf
        go_wp2_with (go_at_fn g; refine hcall.mono ?_; rintro e w' ⟨rfl, q', rfl⟩)
        go_roundg (M - (q + 1))
        case measure => go_light; omega
        case rel => exact ⟨q + 1, _, by omega, rfl, by go_num, rfl, Hst.out⟩
    · obtain rfl : q = M := by omega
      go_wp2
      go_ret
      exact ⟨_, rfl, ⟨fun h => absurd h (by omega), fun h => by rw [Hno.out] at h; cases h⟩, _, rfl⟩
set_option maxRecDepth 100000 in
theorem hasf_any {M D : Nat} (f : Nat → Bool) (row : Nat → Value) (g : Nat) (lb : Array Value) (w : World) (eg : ∀ args w, (callFunc g args).run Tryd.prog w = .ok (.enter g args) w) (hM : M ≤ 100) (hh : ∀ q, q < M → w.cell? ⟨D, q, none⟩ = some (row q))
    (hp : ∀ q n, q < M → Calls Tryd.prog g (#[row q] ++ lb) (w.drewN n) fun e w' => e = .returned (.bool (f q)) ∧ ∃ k, w' = (w.drewN n).drewN k) :
    Calls Tryd.prog 41 #[.slice (some ⟨D, 0, none⟩) M M, .func (.func g) #[] lb] w fun e w' => e = .returned (.bool (anyN f M)) ∧ ∃ n, w' = w.drewN n := by
  have Hc := Lib.hid (idxf_any f row g lb w eg hM hh hp)
  clear hh hp eg
  go_enter Tryd.func41, Tryd.ntmps41
  go_wp2_with fail
  apply Calls.mono Hc.out
  rintro e w' ⟨z, rfl, hz, n, rfl⟩
  have Hz := Lib.hid hz
  clear hz
  go_wp2
  go_ret
  refine ⟨?_, n, rfl⟩
  have e : decide (0 ≤ z) = anyN f M := by rw [Bool.eq_iff_iff, decide_eq_true_eq]; exact Hz.out
  rw [← e]
  first | rfl | simp

set_option maxRecDepth 100000 in
/-- The function literal: are both ends in a bag? -/
theorem fits1_any {N X Y : Nat} (f : Nat → Bool) (r E : Nat) (w : World) (hX : X < N) (hY : Y < N) (hr : ∀ j, j < N → w.cell? ⟨r, j, none⟩ = some (.bool (f j))) (h0 : w.cell? ⟨E, 0, none⟩ = some (.int .i64 (X : Int))) (h1 : w.cell? ⟨E, 1, none⟩ = some (.int .i64 (Y : Int))) :
    Calls Tryd.prog 42 #[.slice (some ⟨r, 0, none⟩) N N, .pointer (some ⟨E, 0, none⟩)] w fun e w' => e = .returned (.bool (f X && f Y)) ∧ ∃ q, w' = w.drewN q := by
  have cx := hr X hX
  have cy := hr Y hY
  clear hr
  generalize f X = a at *
  generalize f Y = b at *
  cases a with
  | true =>
    go_enter Tryd.func42, Tryd.ntmps42
    go_wp2
    go_ret
    exact ⟨by simp, 0, rfl⟩
  | false =>
    go_enter Tryd.func42, Tryd.ntmps42
    go_wp2
    go_ret
    exact ⟨by simp, 0, rfl⟩
theorem cell_drewN (w : World) (n : Nat) (a : Addr) : (w.drewN n).cell? a = w.cell? a := rfl
/-- Is there a bag with both ends? -/
theorem has_both {M N X Y D E : Nat} (f : Nat → Nat → Bool) (w : World) (hX : X < N) (hY : Y < N) (hM : M ≤ 100) (h : InR w D M N f) (h0 : w.cell? ⟨E, 0, none⟩ = some (.int .i64 (X : Int))) (h1 : w.cell? ⟨E, 1, none⟩ = some (.int .i64 (Y : Int))) :
    Calls Tryd.prog 41 #[.slice (some ⟨D, 0, none⟩) M M, .func (.func 42) #[] #[.pointer (some ⟨E, 0, none⟩)]] w
      fun e w' => e = .returned (.bool (anyN (fun q => f q X && f q Y) M)) ∧ ∃ q, w' = w.drewN q := by
  have eg : ∀ args w, (callFunc 42 args).run Tryd.prog w = .ok (.enter 42 args) w := enters_of Tryd.func42 (by kernel_rfl) rfl
  exact hasf_any (fun q => f q X && f q Y) (fun q => .slice (some ⟨D + 1 + q, 0, none⟩) N N) _ _ w eg hM h.head fun q n hq => fits1_any (f q) (D + 1 + q) E (w.drewN n) hX hY (fun j hj => h.cell q j hq hj) h0 h1
end Go.Proofs.YtnmljgjegodkaaaDoor
