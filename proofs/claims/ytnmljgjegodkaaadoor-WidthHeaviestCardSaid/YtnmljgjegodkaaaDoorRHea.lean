/- arborref.Heaviest: the heaviest set of nodes without edges, of all sets. -/
import Derived.Test.YtnmljgjegodkaaaDoorPS
import Derived.Test.YtnmljgjegodkaaaDoorFitF
import Derived.Test.YtnmljgjegodkaaaDoorPA
namespace Go.Proofs.YtnmljgjegodkaaaDoor
open Go Go.RowKit

/-- A set without edges, by its number. -/
def FreeM (G : Nat → Nat → Bool) (N s : Nat) : Prop := ∀ v x, v < N → x < v → ¬ (s.testBit v = true ∧ s.testBit x = true ∧ G v x = true)
def wtM (W : Nat → Int) (N s : Nat) : Int := sumI (fun v => if s.testBit v = true then W v else 0) N
/-- The greatest of the first k sets. -/
def HvI (G : Nat → Nat → Bool) (W : Nat → Int) (N k : Nat) (b : Int) : Prop := 0 ≤ b ∧ (b = 0 ∨ ∃ s, s < k ∧ FreeM G N s ∧ wtM W N s = b) ∧ ∀ s, s < k → FreeM G N s → wtM W N s ≤ b
def OkV (G : Nat → Nat → Bool) (s v : Nat) (ok : Bool) : Prop := ok = true ↔ ∀ v' x, v' < v → x < v' → ¬ (s.testBit v' = true ∧ s.testBit x = true ∧ G v' x = true)
def OkX (G : Nat → Nat → Bool) (s v x : Nat) (ok : Bool) : Prop := ok = true ↔ ∀ x', x' < x → ¬ (s.testBit x' = true ∧ G v x' = true)
theorem sumI_bound14 {f : Nat → Int} : ∀ {n : Nat}, (∀ j, j < n → -1000000 ≤ f j ∧ f j ≤ 1000000) → -((n : Int) * 1000000) ≤ sumI f n ∧ sumI f n ≤ (n : Int) * 1000000
  | 0, _ => by simp [sumI]
  | n + 1, h => by
    have h1 := sumI_bound14 (n := n) fun j hj => h j (by omega)
    have h2 := h n (by omega)
    rw [sumI]
    omega
set_option maxHeartbeats 3200000 in
set_option maxRecDepth 100000 in
theorem rheaviest_any {N : Nat} {G : Nat → Nat → Bool} (ws : List Int) (tv wv : Value) (w : World) (hN : N ≤ 14) (ht : HasGrid w tv N G) (hw : IsInts w wv ws) (hwl : ws.length = N) (hW : ∀ v, v < N → -1000000 ≤ ws.getD v 0 ∧ ws.getD v 0 ≤ 1000000) :
    Calls Tryd.prog 23 #[tv, wv] w fun e w' => (∃ b, e = .returned (.int .i64 b) ∧ HvI G (fun v => ws.getD v 0) N (2 ^ N) b) ∧ Below w.heap.size w w' := by
  obtain ⟨ta, tc, rfl⟩ : ∃ a c, tv = .slice a N c := by
    obtain ⟨B, a, c, _, _, _, rfl, _⟩ := ht
    exact ⟨a, c, rfl⟩
  obtain ⟨aw, cw, rfl⟩ : ∃ a c, wv = .slice a N c := by
    obtain ⟨a, c, _, _, e, _⟩ := hw
    rw [hwl] at e
    exact ⟨a, c, e⟩
  have Ht := Lib.hid ht; have Hw := Lib.hid hw; have Hwl := Lib.hid hwl; have HW := Lib.hid hW
  have esh := op_shl (show N < 62 by omega)
  have hP : pow2 N ≤ 16384 := by
    have h1 : pow2 N ≤ 2 ^ 14 := Nat.pow_le_pow_right (by omega) hN
    exact h1
  have HP := Lib.hid (show pow2 N = 2 ^ N from rfl)
  clear ht hw hwl hW
  generalize pow2 N = P at *
  go_enter Tryd.func23, Tryd.ntmps23
  go_upto_region 3 with fail
  go_loopg [5, 6] P (fun g s5 s6 wr => ∃ (s : Nat) (b : Int), s ≤ P ∧ g = P - s ∧ s6 = .int .i64 (s : Int) ∧ s5 = .int .i64 b ∧ HvI G (fun v => ws.getD v 0) N s b ∧ Below w.heap.size w wr)
  case atStart => exact ⟨0, 0, Nat.zero_le _, rfl, rfl, rfl, ⟨Int.le_refl _, .inl rfl, fun s hs => absurd hs (Nat.not_lt_zero _)⟩, Below.refl _ _⟩
  case round =>
    obtain ⟨s, b, hs, rfl, rfl, rfl, hhv, hb⟩ := hrel
    have Hhv := Lib.hid hhv; have Hb := Lib.hid hb
    clear hhv hb
    by_cases hsP : s < P
    · have hSf : Few s := by rw [Few, few_two]; omega
      go_upto_region 8 with fail
      obtain ⟨F, hF⟩ : ∃ F : Nat → Int, F = fun v => if s.testBit v = true then ws.getD v 0 else 0 := ⟨_, rfl⟩
      have HF := Lib.hid hF
      have HbF := Lib.hid (show ∀ j, j ≤ N → -((j : Int) * 1000000) ≤ sumI F j ∧ sumI F j ≤ (j : Int) * 1000000 from fun j hj => sumI_bound14 fun v hv => by
        have h1 := HW.out v (by omega)
        rw [hF]
        show _ ≤ (if s.testBit v = true then ws.getD v 0 else 0) ∧ (if s.testBit v = true then ws.getD v 0 else 0) ≤ _
        split <;> omega)
      clear hF
      go_loopg [7, 8, 9] N (fun g s7 s8 s9 wx => ∃ (v : Nat) (ok : Bool), v ≤ N ∧ g = N - v ∧ s9 = .int .i64 (v : Int) ∧ s8 = .bool ok ∧ OkV G s v ok ∧ (ok = true → s7 = .int .i64 (sumI F v)) ∧ (∃ z, s7 = .int .i64 z) ∧ Below w.heap.size w wx)
      case atStart => exact ⟨0, true, Nat.zero_le _, rfl, rfl, rfl, ⟨fun _ v' x h => absurd h (Nat.not_lt_zero _), fun _ => rfl⟩, fun _ => rfl, ⟨0, rfl⟩, Hb.out⟩
      case round =>
        obtain ⟨v, ok, hv, rfl, rfl, rfl, hok, hsum, ⟨z, rfl⟩, hb⟩ := hrel
        have Hok := Lib.hid hok; have Hb2 := Lib.hid hb
        cases ok with
        | false =>
          have Hst := Lib.hid (show HvI G (fun v => ws.getD v 0) N (s + 1) b from by
            obtain ⟨h1, h2, h3⟩ := Hhv.out
            refine ⟨h1, h2.imp id fun ⟨s', a, c, e⟩ => ⟨s', by omega, c, e⟩, fun s' hs' hf => ?_⟩
            by_cases e : s' = s
            · subst e
              have := Hok.out.2 fun v' x hv' hx => hf v' x (by omega) hx
              cases this
            · exact h3 s' (by omega) hf)
          clear hok hsum hb
          by_cases hvN : v < N
          · go_wp2
            go_roundg (P - (s + 1))
            case measure => go_light; omega
            case rel => exact ⟨s + 1, b, by omega, rfl, by go_num, rfl, Hst.out, Hb2.out⟩
          · go_wp2
            go_roundg (P - (s + 1))
            case measure => go_light; omega
            case rel => exact ⟨s + 1, b, by omega, rfl, by go_num, rfl, Hst.out, Hb2.out⟩
        | true =>
          have hz : z = sumI F v := by have h1 := hsum rfl; simp only [Value.int.injEq, true_and] at h1; exact h1
          have hbo := HbF.out v hv
          rw [← hz] at hbo
          have Hz := Lib.hid hz
          clear hok hsum hb hz
          by_cases hvN : v < N
          · have Hs1 := Lib.hid (show sumI F (v + 1) = z + F v from by rw [sumI, Hz.out])
            have HFv := Lib.hid (show F v = if s.testBit v = true then ws.getD v 0 else 0 from by rw [HF.out])
            have e3 := op_shr s v
            cases h1 : s.testBit v with
            | false =>
              have e4 : bits .and .i64 (shr s v : Int) 1 = 0 := by rw [op_bit hSf, bit_zero h1]; rfl
              have Hs2 := Lib.hid (show sumI F (v + 1) = z from by rw [Hs1.out, HFv.out, h1, if_neg (by decide), Int.add_zero])
              have Hok2 := Lib.hid (show OkV G s (v + 1) true from ⟨fun _ v' x hv' hx hh => by
                by_cases e : v' = v
                · subst e; rw [h1] at hh; cases hh.1
                · exact Hok.out.1 rfl v' x (by omega) hx hh, fun _ => rfl⟩)
              clear h1
              go_wp2
              go_roundg (N - (v + 1))
              case measure => go_light; omega
              case rel => exact ⟨v + 1, true, by omega, rfl, by go_num, rfl, Hok2.out, fun _ => by rw [Hs2.out], ⟨_, rfl⟩, Hb2.out⟩
            | true =>
              have e4 : bits .and .i64 (shr s v : Int) 1 = 1 := by rw [op_bit hSf, bit_one h1]; rfl
              have Hs2 := Lib.hid (show sumI F (v + 1) = z + ws.getD v 0 from by rw [Hs1.out, HFv.out, h1, if_pos rfl])
              obtain ⟨b4, o4, haw, cwv⟩ := (Hw.out.below Hb2.out).atF (show v < ws.length by rw [Hwl.out]; exact hvN)
              subst haw
              have hWv := HW.out v hvN
              generalize ws.getD v 0 = y at *
              have hwr : IntKind.i64.wrap (z + y) = z + y := by simp [IntKind.wrap, IntKind.bits, IntKind.signed]; omega
              have Hbit := Lib.hid h1
              clear h1
              go_upto_region 13 with fail
              clear cwv hwr e4
              go_loopg [8, 10] v (fun g s8 s10 wy => ∃ (x : Nat) (okx : Bool), x ≤ v ∧ g = v - x ∧ s10 = .int .i64 (x : Int) ∧ s8 = .bool okx ∧ OkX G s v x okx ∧ wy = wr)
              case atStart => exact ⟨0, true, Nat.zero_le _, rfl, rfl, rfl, ⟨fun _ x' h => absurd h (Nat.not_lt_zero _), fun _ => rfl⟩, rfl⟩
              case round =>
                obtain ⟨x, okx, hx, rfl, rfl, rfl, hokx, rfl⟩ := hrel
                have Hokx := Lib.hid hokx
                clear hokx
                by_cases hxv : x < v
                · cases okx with
                  | false =>
                    have Hok3 := Lib.hid (show OkX G s v (x + 1) false from ⟨fun h => (by cases h), fun h => Hokx.out.2 fun x' hx' => h x' (by omega)⟩)
                    go_wp2
                    go_roundg (v - (x + 1))
                    case measure => go_light; omega
                    case rel => exact ⟨x + 1, false, by omega, rfl, by go_num, rfl, Hok3.out, rfl⟩
                  | true =>
                    have e5 := op_shr s x
                    have Hok3 := Lib.hid (fun (c : Bool) (hc : c = true ↔ ¬ (s.testBit x = true ∧ G v x = true)) => show OkX G s v (x + 1) c from ⟨fun h x' hx' => by
                      by_cases e : x' = x
                      · subst e; exact hc.1 h
                      · exact Hokx.out.1 rfl x' (by omega), fun h => hc.2 (h x (by omega))⟩)
                    cases h2 : s.testBit x with
                    | false =>
                      have e6 : bits .and .i64 (shr s x : Int) 1 = 0 := by rw [op_bit hSf, bit_zero h2]; rfl
                      have Hok4 := Lib.hid (Hok3.out true ⟨fun _ h => (by rw [h2] at h; cases h.1), fun _ => rfl⟩)
                      clear h2
                      go_wp2
                      go_roundg (v - (x + 1))
                      case measure => go_light; omega
                      case rel => exact ⟨x + 1, true, by omega, rfl, by go_num, rfl, Hok4.out, rfl⟩
                    | true =>
                      have e6 : bits .and .i64 (shr s x : Int) 1 = 1 := by rw [op_bit hSf, bit_one h2]; rfl
                      obtain ⟨bt, ot, kt, rt, hte, ch, cv⟩ := (Ht.out.below Hb2.out).entry hvN (show x < N by omega)
                      simp only [Value.slice.injEq, true_and] at hte
                      obtain ⟨rfl, rfl⟩ := hte
                      have Hok4 := Lib.hid (Hok3.out (!G v x) (by rw [h2]; cases G v x <;> simp))
                      generalize G v x = gvx at *
                      clear h2
                      cases gvx with
                      | true =>
                        go_wp2
                        go_roundg (v - (x + 1))
                        case measure => go_light; omega
                        case rel => exact ⟨x + 1, false, by omega, rfl, by go_num, rfl, Hok4.out, rfl⟩
                      | false =>
                        go_wp2
                        go_roundg (v - (x + 1))
                        case measure => go_light; omega
                        case rel => exact ⟨x + 1, true, by omega, rfl, by go_num, rfl, Hok4.out, rfl⟩
                · obtain rfl : x = v := by omega
                  have Hok5 := Lib.hid (show OkV G s (x + 1) okx from ⟨fun h v' x' hv' hx' hh => by
                    by_cases e : v' = x
                    · subst e; exact Hokx.out.1 h x' hx' hh.2
                    · exact Hok.out.1 rfl v' x' (by omega) hx' hh, fun h => Hokx.out.2 fun x' hx' hh => h x x' (by omega) hx' ⟨Hbit.out, hh⟩⟩)
                  go_wp2
                  go_roundg (N - (x + 1))
                  case measure => go_light; omega
                  case rel => exact ⟨x + 1, okx, by omega, rfl, by go_num, rfl, Hok5.out, fun _ => by rw [Hs2.out], ⟨_, rfl⟩, Hb2.out⟩
          · obtain rfl : v = N := by omega
            have Hfree := Lib.hid (show FreeM G v s from fun v' x hv' hx => Hok.out.1 rfl v' x hv' hx)
            have Hwt := Lib.hid (show wtM (fun v => ws.getD v 0) v s = z from by rw [Hz.out, HF.out]; rfl)
            by_cases hbz : b < z
            · have Hst := Lib.hid (show HvI G (fun v => ws.getD v 0) v (s + 1) z from by
                obtain ⟨h1, h2, h3⟩ := Hhv.out
                refine ⟨by omega, .inr ⟨s, by omega, Hfree.out, Hwt.out⟩, fun s' hs' hf => ?_⟩
                by_cases e : s' = s
                · subst e; rw [Hwt.out]; exact Int.le_refl _
                · have := h3 s' (by omega) hf
                  omega)
              go_wp2
              go_roundg (P - (s + 1))
              case measure => go_light; omega
              case rel => exact ⟨s + 1, z, by omega, rfl, by go_num, rfl, Hst.out, Hb2.out⟩
            · have Hst := Lib.hid (show HvI G (fun v => ws.getD v 0) v (s + 1) b from by
                obtain ⟨h1, h2, h3⟩ := Hhv.out
                refine ⟨h1, h2.imp id fun ⟨s', a, c, e⟩ => ⟨s', by omega, c, e⟩, fun s' hs' hf => ?_⟩
                by_cases e : s' = s
                · subst e; rw [Hwt.out]; omega
                · exact h3 s' (by omega) hf)
              go_wp2
              go_roundg (P - (s + 1))
              case measure => go_light; omega
              case rel => exact ⟨s + 1, b, by omega, rfl, by go_num, rfl, Hst.out, Hb2.out⟩
    · obtain rfl : s = P := by omega
      have Hfin := Lib.hid (show HvI G (fun v => ws.getD v 0) N (2 ^ N) b from by rw [← HP.out]; exact Hhv.out)
      go_wp2
      go_ret
      exact ⟨⟨_, rfl, Hfin.out⟩, Hb.out⟩
end Go.Proofs.YtnmljgjegodkaaaDoor
