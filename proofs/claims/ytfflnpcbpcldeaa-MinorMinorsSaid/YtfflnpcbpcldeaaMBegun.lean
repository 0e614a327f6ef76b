/- arborlaw.minorBegun. -/
import Derived.Test.YtfflnpcbpcldeaaFull
import Derived.Test.YtfflnpcbpcldeaaMinor
import Derived.Test.YtfflnpcbpcldeaaMinorLaw
import Derived.Test.YtfflnpcbpcldeaaWithin
namespace Go.Proofs.Ytfflnpcbpcldeaa
open Go.RowKit

theorem full3 : fullE 3 = [(0, 1), (0, 2), (1, 2)] := by decide
theorem five_good : GoodGraph 5 fiveE := ⟨by omega, by omega, by decide, fun j hj => by
  match j, hj with
  | 0, _ | 1, _ | 2, _ | 3, _ | 4, _ => exact ⟨by unfold EndsOk; decide, by decide, by decide⟩⟩
theorem full3_good : GoodGraph 3 (fullE 3) := ⟨by omega, by omega, by decide, fun j hj => by
  have hj' : j < 3 := by rw [full3] at hj; simpa using hj
  rw [full3]
  match j, hj' with
  | 0, _ | 1, _ | 2, _ => exact ⟨by unfold EndsOk; decide, by decide, by decide⟩⟩
theorem begun_few : FewSpec ((5 : Nat) : Int) fiveE ((3 : Nat) : Int) (fullE 3) 0 0 := Or.inr (Or.inr (Or.inr ⟨five_good, full3_good, by omega, by omega, rfl, rfl⟩))
theorem begun_within : tryF 5 (adj fiveE) (adj (fullE 3)) 3 [] = none := by rw [full3]; decide

theorem whole_one (m : Nat → Nat) (v : Nat) : Whole m (pow2 v) := by
  have e : ∀ u, (pow2 v).testBit u = true → u = v := fun u hu => by rw [pow2_bit] at hu; simpa using (of_decide_eq_true hu).symm
  refine ⟨fun h => ?_, fun a b ha hb => ?_⟩
  · have : (pow2 v).testBit v = true := by rw [pow2_bit]; simp
    rw [h] at this; simp at this
  · rw [e a ha, e b hb]; exact .refl
theorem whole_three : Whole (near fiveE 5) 28 := by
  have e : ∀ u, (28 : Nat).testBit u = true → u = 2 ∨ u = 3 ∨ u = 4 := fun u hu => by
    have hu5 : u < 5 := bits_lt (s := 28) (n := 5) (by decide) hu
    match u, hu5 with
    | 0, _ => revert hu; decide
    | 1, _ => revert hu; decide
    | 2, _ | 3, _ | 4, _ => omega
  have c23 : Conn (near fiveE 5) 28 2 3 := Conn.one (by decide) (by decide)
  have c34 : Conn (near fiveE 5) 28 3 4 := Conn.one (by decide) (by decide)
  have c43 : Conn (near fiveE 5) 28 4 3 := Conn.one (by decide) (by decide)
  have c32 : Conn (near fiveE 5) 28 3 2 := Conn.one (by decide) (by decide)
  refine ⟨by decide, fun a b ha hb => ?_⟩
  rcases e a ha with rfl | rfl | rfl <;> rcases e b hb with rfl | rfl | rfl
  · exact .refl
  · exact c23
  · exact c23.trans c34
  · exact c32
  · exact .refl
  · exact c34
  · exact c43.trans c32
  · exact c43
  · exact .refl

theorem begun_minor : ∃ S, minorF 5 3 fiveE (fullE 3) = some S := by
  cases h : minorF 5 3 fiveE (fullE 3) with
  | some S => exact ⟨S, rfl⟩
  | none =>
    exfalso
    refine tryS_not (T := [1, 2, 28]) h rfl rfl ⟨fun j _ hj => ?_, fun i j _ hij hj b hb => ?_, fun i j hij _ hj hb => ?_⟩
    · match j, hj with
      | 0, _ => exact ⟨by decide, wholeB_iff.2 (whole_one _ 0), fun i hi => by
          have : i < 1 := bits_lt (s := 1) (n := 1) (by decide) hi
          obtain rfl : i = 0 := by omega
          decide⟩
      | 1, _ => exact ⟨by decide, wholeB_iff.2 (whole_one _ 1), fun i hi => by
          have : i < 2 := bits_lt (s := 2) (n := 2) (by decide) hi
          match i, this with
          | 0, _ => revert hi; decide
          | 1, _ => decide⟩
      | 2, _ => exact ⟨by decide, wholeB_iff.2 whole_three, fun i hi => by
          have : i < 5 := bits_lt (s := 28) (n := 5) (by decide) hi
          match i, this with
          | 0, _ | 1, _ | 2, _ | 3, _ | 4, _ => decide⟩
    · have hb5 : b < 5 := bits_lt (n := 5) (by
        match i, (show i < 3 from Nat.lt_trans hij hj) with
        | 0, _ | 1, _ | 2, _ => decide) hb
      have hi3 : i < 3 := Nat.lt_trans hij hj
      have hj3 : j < 3 := hj
      rcases (show (i = 0 ∧ j = 1) ∨ (i = 0 ∧ j = 2) ∨ (i = 1 ∧ j = 2) by omega) with ⟨rfl, rfl⟩ | ⟨rfl, rfl⟩ | ⟨rfl, rfl⟩
      all_goals
        revert hb
        match b, hb5 with
        | 0, _ | 1, _ | 2, _ | 3, _ | 4, _ => decide
    · have hi3 : i < 3 := Nat.lt_trans hij hj
      have hj3 : j < 3 := hj
      rcases (show (i = 0 ∧ j = 1) ∨ (i = 0 ∧ j = 2) ∨ (i = 1 ∧ j = 2) by omega) with ⟨rfl, rfl⟩ | ⟨rfl, rfl⟩ | ⟨rfl, rfl⟩
      all_goals decide

theorem IsRows.form {w : World} {v : Value} {m : List (List Int)} (h : IsRows w v m) : ∃ a c, v = .slice a m.length c := by
  obtain ⟨a, c, b, o, rfl, _⟩ := h
  exact ⟨a, c, rfl⟩

set_option maxHeartbeats 3200000 in
set_option maxRecDepth 100000 in
theorem minorBegun_any (w : World) : Calls Try.prog 35 #[] w fun e w' => e = .returned (.bool true) ∧ Below w.heap.size w w' := by
  obtain ⟨S, hS⟩ := begun_minor
  have HS := Lib.hid hS
  clear hS
  go_enter Try.func35, Try.ntmps35
  go_wp2_with fail
  refine (five_any w).mono ?_
  rintro e w1 ⟨v1, rfl, he1, hb1⟩
  obtain ⟨a1, c1, rfl⟩ := he1.form
  have He1 := Lib.hid he1
  have B1 := Lib.hid hb1
  clear he1 hb1
  go_wp2_with fail
  refine (full_any 3 w1 (by omega)).mono ?_
  rintro e w2 ⟨v2, rfl, he2, hb2⟩
  obtain ⟨a2, c2, rfl⟩ := he2.form
  have He1 := Lib.hid (He1.out.below hb2)
  have He2 := Lib.hid he2
  have B2 := Lib.hid (upb B1.out hb2)
  clear he2 hb2
  go_wp2_with fail
  refine (minor_ok (N := 5) (M := 3) begun_few _ _ w2 He1.out He2.out).mono ?_
  rintro e w3 ⟨hb3, hr3⟩
  rw [HS.out] at hr3
  rcases hr3 with ⟨S3, v3, hS3, rfl, hi3⟩ | ⟨h, -⟩
  · obtain ⟨a3, c3, rfl⟩ := hi3.form
    have B3 := Lib.hid (upb B2.out hb3)
    have F4 := Lib.hid (VarF.new w3 0 0 27)
    have B4 := Lib.hid (upb B3.out (below1 w3 (Obj.cells #[.int .i64 0, .int .i64 0] 27)))
    clear hi3 hb3 hS3
    go_upto_region 2 with fail
    generalize w3.heap.size = F at *
    generalize w3.alloc (Obj.cells #[.int .i64 0, .int .i64 0] 27) = w4 at *
    go_wp2_with fail
    refine (five_any w4).mono ?_
    rintro e w5 ⟨v5, rfl, he5, hb5⟩
    obtain ⟨a5, c5, rfl⟩ := he5.form
    have He5 := Lib.hid he5
    have B5 := Lib.hid hb5
    clear he5 hb5
    go_wp2_with fail
    refine (full_any 3 w5 (by omega)).mono ?_
    rintro e w6 ⟨v6, rfl, he6, hb6⟩
    obtain ⟨a6, c6, rfl⟩ := he6.form
    have He5 := Lib.hid (He5.out.below hb6)
    have He6 := Lib.hid he6
    have B6 := Lib.hid (upb B5.out hb6)
    clear he6 hb6
    go_wp2_with fail
    refine (within_ok (N := 5) (M := 3) begun_few _ _ w6 He5.out He6.out).mono ?_
    rintro e w7 ⟨hb7, hr7⟩
    rw [begun_within] at hr7
    rcases hr7 with ⟨_, _, h, -⟩ | ⟨-, rfl⟩
    · cases h
    have F7 := F4.out.below (upb B6.out hb7)
    have f0 := F7.c0
    have f1 := F7.c1
    have hlF := F7.lt
    have B7 := Lib.hid (upb B4.out (upb B6.out hb7))
    have B8 := Lib.hid (upb B7.out (below1 w7 (Obj.cells #[.int .i64 0, .int .i64 0] 27)))
    clear F7 hb7
    go_wp2
    go_ret
    exact ⟨rfl, B8.out⟩
  · cases h

end Go.Proofs.Ytfflnpcbpcldeaa
