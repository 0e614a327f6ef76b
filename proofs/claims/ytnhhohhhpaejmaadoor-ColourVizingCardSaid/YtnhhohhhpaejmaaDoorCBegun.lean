/- arborlaw.colourBegun answers true. -/
import Derived.Test.YtnhhohhhpaejmaaDoorBase
import Derived.Test.YtnhhohhhpaejmaaDoorFive
import Derived.Test.YtnhhohhhpaejmaaDoorPolW
namespace Go.Proofs.YtnhhohhhpaejmaaDoor
open Go Go.RowKit

theorem five_spec : SmallSpec 5 fiveL 12 0 0 := Or.inr ⟨Or.inr ⟨by unfold TooBig; simp [fiveL], Or.inr ⟨fun j hj => by
  have hj5 : j < 5 := hj
  match j, hj5 with
  | 0, _ => exact ⟨by unfold EndsOk; simp [List.getD, fiveL], by simp [List.getD, fiveL], by decide⟩
  | 1, _ => exact ⟨by unfold EndsOk; simp [List.getD, fiveL], by simp [List.getD, fiveL], by decide⟩
  | 2, _ => exact ⟨by unfold EndsOk; simp [List.getD, fiveL], by simp [List.getD, fiveL], by decide⟩
  | 3, _ => exact ⟨by unfold EndsOk; simp [List.getD, fiveL], by simp [List.getD, fiveL], by decide⟩
  | 4, _ => exact ⟨by unfold EndsOk; simp [List.getD, fiveL], by simp [List.getD, fiveL], by decide⟩, rfl, rfl⟩⟩, Or.inr ⟨by omega, rfl, rfl⟩⟩

set_option maxHeartbeats 1600000 in
set_option maxRecDepth 100000 in
theorem colourBegun_any (w : World) (hT : TabAt 1 Lib.deBruijn64tab w) : Calls Tryd.prog 8 #[] w fun e w' => e = .returned (.bool true) ∧ Below w.heap.size w w' := by
  have HT := Lib.hid hT
  clear hT
  go_enter Tryd.func8, Tryd.ntmps8
  go_wp2_with fail
  refine (five_any _).mono ?_
  rintro e w1 ⟨v, rfl, hE, hb1⟩
  have HE := Lib.hid hE; have Hb1 := Lib.hid hb1
  clear hE hb1
  go_wp2_with fail
  refine (poly_any 5 fiveL v w1 HE.out (TabAt.below (g := 1) HT.out Hb1.out)).mono ?_
  rintro e w2 ⟨c, a, v2, rfl, hsp, hb2, hres⟩
  obtain ⟨h1, h2⟩ := SmallSpec.uniq hsp five_spec
  subst h1
  subst h2
  have hi : IsInts w2 v2 [0, 4, -10, 10, -5, 1] := by
    rcases hres with ⟨h, _⟩ | ⟨_, _, N, hN, hi⟩
    · exact absurd rfl h
    · obtain rfl : N = 5 := by omega
      have e := five_poly
      rw [← show pow2 5 = 32 from rfl] at e
      rw [← e]
      exact hi
  have hb3 := below1 w2 (Obj.cells #[.int .i64 0, .int .i64 0] 27)
  have e3 := two_cells w2 (.int .i64 0) (.int .i64 0) 27
  have f0 := e3.1
  have Hi := Lib.hid (hi.below hb3)
  have Hb3 := Lib.hid (upc Hb1.out (upc hb2 hb3))
  clear hsp hres hi hb2 hb3 e3
  go_upto_region 2 with fail
  generalize w2.alloc (Obj.cells #[.int .i64 0, .int .i64 0] 27) = w3 at *
  go_wp2_with fail
  have hb4 := below1 w3 (Obj.cells #[.int .i64 0, .int .i64 4, .int .i64 (-10), .int .i64 10, .int .i64 (-5), .int .i64 1] 3)
  have hl : IsInts (w3.alloc (Obj.cells #[.int .i64 0, .int .i64 4, .int .i64 (-10), .int .i64 10, .int .i64 (-5), .int .i64 1] 3)) (.slice (some ⟨w3.heap.size, 0, none⟩) 6 6) [0, 4, -10, 10, -5, 1] := by
    refine ⟨_, 6, w3.heap.size, 0, rfl, Nat.le_refl _, by omega, fun _ => rfl, by simp, fun j hj => ?_⟩
    have hj6 : j < 6 := hj
    match j, hj6 with
    | 0, _ => rw [World.cell?_alloc_at _ _ _ _ rfl]; rfl
    | 1, _ => rw [World.cell?_alloc_at _ _ _ _ rfl]; rfl
    | 2, _ => rw [World.cell?_alloc_at _ _ _ _ rfl]; rfl
    | 3, _ => rw [World.cell?_alloc_at _ _ _ _ rfl]; rfl
    | 4, _ => rw [World.cell?_alloc_at _ _ _ _ rfl]; rfl
    | 5, _ => rw [World.cell?_alloc_at _ _ _ _ rfl]; rfl
  refine (ints_any _ _ _ _ _ (Hi.out.below hb4) hl).mono ?_
  rintro e w5 ⟨rfl, hd⟩
  rw [decide_eq_true rfl]
  have Hb5 := Lib.hid (upc Hb3.out (upc hb4 hd.below))
  clear hb4 hl hd
  go_wp2
  go_ret
  exact ⟨rfl, Hb5.out⟩

end Go.Proofs.YtnhhohhhpaejmaaDoor
