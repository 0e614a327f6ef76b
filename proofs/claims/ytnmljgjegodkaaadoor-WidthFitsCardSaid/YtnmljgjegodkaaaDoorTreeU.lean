/- width.tree: does one come out from everywhere, by one root? -/
import Derived.Test.YtnmljgjegodkaaaDoorPJ
import Derived.BigQuiet
namespace Go.Proofs.YtnmljgjegodkaaaDoor
open Go.RowKit

def TreeT (u : List Int) : Prop := (∀ i, i < u.length → ClimbOk u i) ∧ rootsN u u.length = min 1 u.length
def TreePost (u : List Int) (w : World) (e : Ending) (w' : World) : Prop := ∃ b : Bool, (b = true ↔ TreeT u) ∧ e = .returned (.bool b) ∧ Below w.heap.size w w'
theorem TreePost.no {u : List Int} {w w' : World} (h : ¬ TreeT u) (hb : Below w.heap.size w w') : TreePost u w (.returned (.bool false)) w' := ⟨false, ⟨fun h => (by cases h), fun k => absurd k h⟩, rfl, hb⟩

set_option maxHeartbeats 1600000 in
set_option maxRecDepth 100000 in
theorem tree_any (u : List Int) (uv : Value) (w : World) (hu : IsInts w uv u) (hM : u.length ≤ 100) :
    Calls Tryd.prog 40 #[uv] w (TreePost u w) := by
  obtain ⟨au, cu, rfl⟩ : ∃ au cu, uv = .slice au u.length cu := by
    obtain ⟨a, c, _, _, rfl, _⟩ := hu
    exact ⟨a, c, rfl⟩
  have Hu := Lib.hid hu
  clear hu
  obtain ⟨M, hMe⟩ : ∃ M, u.length = M := ⟨_, rfl⟩
  have HM := Lib.hid hMe
  rw [hMe] at hM
  rw [hMe]
  clear hMe
  go_enter Tryd.func40, Tryd.ntmps40
  go_upto_region 3 with fail
  go_loopg [3, 9] M (fun g s3 s9 wr => ∃ i : Nat, i ≤ M ∧ g = M - i ∧ s9 = .int .i64 (i : Int) ∧ s3 = .int .i64 (rootsN u i : Int) ∧ (∀ j, j < i → ClimbOk u j) ∧ Below w.heap.size w wr)
  case atStart => exact ⟨0, Nat.zero_le _, rfl, rfl, rfl, fun j hj => absurd hj (Nat.not_lt_zero _), Below.refl _ _⟩
  case round =>
    obtain ⟨i, hi, rfl, rfl, rfl, hall, hb⟩ := hrel
    have Hall := Lib.hid hall; have Hb := Lib.hid hb
    have hr1 := roots_le u i
    by_cases hlt : i < M
    · obtain ⟨b2, o2, rfl, cx⟩ := (Hu.out.below hb).atF (show i < u.length by rw [HM.out]; exact hlt)
      obtain ⟨r1, hr⟩ : ∃ r1, rootsN u (i + 1) = r1 := ⟨_, rfl⟩
      have Hr := Lib.hid hr
      rw [rootsN] at hr
      generalize rootsN u i = r at *
      generalize u.getD i 0 = x at *
      obtain ⟨wo, rfl⟩ : ∃ wo : World, wo = wr := ⟨_, rfl⟩
      clear hall hb
      go_upto_if 16 with fail
      go_cut [3] from 17 to 18 (fun s3 wx => s3 = .int .i64 (r1 : Int) ∧ wx = wo)
      case first =>
        by_cases hx : x = -1
        · rw [if_pos hx] at hr
          subst hx
          go_wp2
          go_meet
          exact ⟨by simp only [Value.int.injEq, true_and]; omega, rfl⟩
        · rw [if_neg hx] at hr
          have hxb : (x == -1) = false := by simp [hx]
          go_wp2
          go_meet
          exact ⟨by simp only [Value.int.injEq, true_and]; omega, rfl⟩
      case rest =>
      obtain ⟨rfl, rfl⟩ := hcut
      clear cx hr hr1
      go_upto_region 8 with fail
      go_loopg [5, 6] (M + 2) (fun g s5 s6 wi => ∃ s : Nat, s ≤ M + 1 ∧ g = M + 2 - s ∧ s5 = .int .i64 (itU u (i : Int) s) ∧ s6 = .int .i64 (s : Int) ∧ (∀ r, r < s → InU u (itU u (i : Int) r)) ∧ Below w.heap.size w wi)
      case atStart => exact ⟨0, Nat.zero_le _, rfl, rfl, rfl, fun j hj => absurd hj (Nat.not_lt_zero _), Hb.out⟩
      case round =>
        obtain ⟨s, hs, rfl, rfl, rfl, hin, hb⟩ := hrel
        have Hin := Lib.hid hin; have Hb2 := Lib.hid hb
        obtain ⟨z, hz⟩ : ∃ z, itU u (i : Int) s = z := ⟨_, rfl⟩
        have Hz := Lib.hid hz
        rw [hz]
        clear hin hz
        by_cases hz1 : z = -1
        · subst hz1
          have Hst := Lib.hid (show ∀ j, j < i + 1 → ClimbOk u j from fun j hj => by
            by_cases e : j = i
            · subst e; exact ⟨s, by rw [HM.out]; exact hs, Hz.out, Hin.out⟩
            · exact Hall.out j (by omega))
          clear hb
          go_wp2
          go_roundg (M - (i + 1))
          case measure => go_light; omega
          case rel => exact ⟨i + 1, by omega, rfl, by go_num, by rw [Hr.out], Hst.out, Hb2.out⟩
        · have hzb : (z != -1) = true := by simp [hz1]
          by_cases hbad : z < 0 ∨ (M : Int) ≤ z ∨ (M : Int) < (s : Int)
          · have Hno := Lib.hid (show ¬ TreeT u from fun h => climb_no Hin.out (by rw [Hz.out]; exact hz1) (by
              rw [Hz.out, HM.out]
              rcases hbad with h | h | h
              · exact .inl fun k => by have := k.1; omega
              · exact .inl fun k => by have := k.2; rw [HM.out] at this; omega
              · exact .inr (by omega)) (h.1 i (by rw [HM.out]; exact hlt)))
            clear hb
            by_cases h1 : z < 0
            · go_wp2
              exact bodyPost_ret (v := .bool false) (by simp [results, Tryd.results40, go_sem]) rfl (TreePost.no Hno.out Hb2.out)
            · by_cases h2 : (M : Int) ≤ z
              · go_wp2
                exact bodyPost_ret (v := .bool false) (by simp [results, Tryd.results40, go_sem]) rfl (TreePost.no Hno.out Hb2.out)
              · have h3 : (M : Int) < (s : Int) := by omega
                go_wp2
                exact bodyPost_ret (v := .bool false) (by simp [results, Tryd.results40, go_sem]) rfl (TreePost.no Hno.out Hb2.out)
          · have h1 : ¬ z < 0 := fun h => hbad (.inl h)
            have h2 : ¬ (M : Int) ≤ z := fun h => hbad (.inr (.inl h))
            have h3 : ¬ (M : Int) < (s : Int) := fun h => hbad (.inr (.inr h))
            obtain ⟨Z, rfl⟩ := Int.eq_ofNat_of_zero_le (show 0 ≤ z by omega)
            obtain ⟨b3, o3, e3, cx⟩ := (Hu.out.below hb).atF (show Z < u.length by rw [HM.out]; omega)
            simp only [Option.some.injEq, Addr.mk.injEq, and_true] at e3
            obtain ⟨rfl, rfl⟩ := e3
            have Hst := Lib.hid (show itU u (i : Int) (s + 1) = u.getD Z 0 from by rw [itU, Hz.out, Int.toNat_natCast])
            have Hin2 := Lib.hid (show ∀ r, r < s + 1 → InU u (itU u (i : Int) r) from fun r hr => by
              by_cases e : r = s
              · subst e; rw [Hz.out]; exact ⟨by omega, by rw [HM.out]; omega⟩
              · exact Hin.out r (by omega))
            clear hb hbad
            go_wp2
            go_roundg (M + 2 - (s + 1))
            case measure => go_light; omega
            case rel => exact ⟨s + 1, by omega, rfl, by rw [Hst.out]; rfl, by go_num, Hin2.out, Hb2.out⟩
    · obtain rfl : i = M := by omega
      have hfin : (rootsN u i = min 1 i) ↔ TreeT u := by
        unfold TreeT
        rw [HM.out]
        exact ⟨fun h => ⟨Hall.out, h⟩, fun h => h.2⟩
      have Hfin := Lib.hid hfin
      have Hroot := roots_le u i
      generalize rootsN u i = r at *
      clear hall hb hfin
      go_wp2
      all_goals first
        | exact bodyPost_ret (v := .bool ((r : Int) == (i : Int))) (by simp [results, Tryd.results40, go_sem]) rfl ⟨_, by rw [← Hfin.out, beq_iff_eq]; omega, rfl, Hb.out⟩
        | exact bodyPost_ret (v := .bool ((r : Int) == 1)) (by simp [results, Tryd.results40, go_sem]) rfl ⟨_, by rw [← Hfin.out, beq_iff_eq]; omega, rfl, Hb.out⟩
end Go.Proofs.YtnmljgjegodkaaaDoor
