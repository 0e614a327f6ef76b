/- The function literal inside colour.Clique: with a node, and without it. -/
import Derived.Test.YtfflnpcbpcldeaaDoorPopW
import Derived.Test.YtfflnpcbpcldeaaDoorCliqP
import Derived.Test.YtfflnpcbpcldeaaDoorLoose
import Derived.StillTailTactics
namespace Go.Proofs.YtfflnpcbpcldeaaDoor
open Go Go.RowKit

/-- The best one so far, as a number. -/
def bvI : Option Nat → Int
  | none => -1
  | some m => (m : Int)
/-- What the function literal finds, and leaves. -/
structure CEnv (w0 : World) (BB TT NN R N : Nat) (M : Nat → Nat) : Prop where
  ct : w0.cell? ⟨TT, 0, none⟩ = some (.func (.func 32) #[] #[.pointer (some ⟨BB, 0, none⟩), .pointer (some ⟨TT, 0, none⟩), .pointer (some ⟨NN, 0, none⟩)])
  cn : w0.cell? ⟨NN, 0, none⟩ = some (.slice (some ⟨R, 0, none⟩) N N)
  row : w0.rowIs R 3 N (rn M)
  tab : TabAt 1 Lib.deBruijn64tab w0
  dt : TT ≠ BB
  dn : NN ≠ BB
  dr : R ≠ BB
  d1 : 1 ≠ BB
structure CW (w0 w : World) (BB : Nat) (b : Option Nat) : Prop where
  ch : Chg (· = BB) w0 w
  cb : w.rowIs BB 3 1 (ri fun _ => bvI b)
theorem CW.facts {w0 w : World} {BB TT NN R N : Nat} {M : Nat → Nat} {b : Option Nat} (h : CW w0 w BB b) (e : CEnv w0 BB TT NN R N M) :
    w.cell? ⟨TT, 0, none⟩ = some (.func (.func 32) #[] #[.pointer (some ⟨BB, 0, none⟩), .pointer (some ⟨TT, 0, none⟩), .pointer (some ⟨NN, 0, none⟩)]) ∧
    w.cell? ⟨NN, 0, none⟩ = some (.slice (some ⟨R, 0, none⟩) N N) ∧ w.rowIs R 3 N (rn M) ∧ TabAt 1 Lib.deBruijn64tab w ∧ w.cell? ⟨BB, 0, none⟩ = some (.int .i64 (bvI b)) ∧ w.frozen? ⟨BB, 0, none⟩ = false :=
  ⟨h.ch.cell e.ct e.dt, h.ch.cell e.cn e.dn, h.ch.rowIs e.row e.dr, fun j hj => h.ch.cell (e.tab j hj) e.d1, h.cb.cell (show 0 < 1 by omega), h.cb.frozen 0⟩
theorem CW.drew {w0 w : World} {BB : Nat} {b : Option Nat} (h : CW w0 w BB b) : CW w0 w.drew BB b := ⟨h.ch.drew, h.cb⟩
theorem CW.drewN {w0 w : World} {BB : Nat} {b : Option Nat} (h : CW w0 w BB b) (n : Nat) : CW w0 (w.drewN n) BB b := ⟨h.ch.drewN n, h.cb⟩
theorem CW.put {w0 w : World} {BB : Nat} {b : Option Nat} (h : CW w0 w BB b) (m : Nat) : CW w0 (w.setCell ⟨BB, 0, none⟩ (.int .i64 (m : Int))) BB (some m) :=
  ⟨h.ch.setCell (p := ⟨BB, 0, none⟩) (fun _ => rfl) _, row_ri (row_set_ri h.cb 0 (m : Int)) fun k hk => by rw [if_pos (by omega)]; rfl⟩

theorem few_24 {a : Nat} (h : a < 16777216) : Few a := by unfold Few; omega
theorem ctz_first {s i : Nat} (h0 : s ≠ 0) (hs : Few s) (hi : i < Lib.ctz 64 s) : s.testBit i = false := by
  have e : Lib.ctz 64 s = Lib.ctzFrom 64 s := by simp [Lib.ctz, h0]
  rw [e] at hi
  obtain ⟨m, hm, -⟩ := Lib.ctzFrom_spec 64 s (by omega) (Nat.lt_trans hs (by decide))
  generalize Lib.ctzFrom 64 s = c at *
  rw [hm, Nat.testBit_two_pow_mul]
  simp; omega
theorem lor_ltN {a b N : Nat} (ha : a < 2 ^ N) (hb : b < 2 ^ N) : lor a b < 2 ^ N := mask_lt fun i hi => by
  rw [lor_bit, Bool.or_eq_true] at hi
  exact hi.elim (bit_ltN ha) (bit_ltN hb)
theorem land_ltN {a b N : Nat} (ha : a < 2 ^ N) : land a b < 2 ^ N := Nat.lt_of_le_of_lt Nat.and_le_left ha
theorem less_ltN {a b N : Nat} (ha : a < 2 ^ N) : less a b < 2 ^ N := mask_lt fun i hi => by
  rw [less_bit, Bool.and_eq_true] at hi
  exact bit_ltN ha hi.1
/-- A set without one of its nodes is a lesser number. -/
theorem lt_sub {a b v : Nat} (h : Within a b) (hb : b.testBit v = true) (ha : a.testBit v = false) : a < b := by
  rcases Nat.lt_or_ge a b with e | e
  · exact e
  · have := h.le
    have : a = b := by omega
    subst this; rw [ha] at hb; cases hb

set_option maxHeartbeats 3200000 in
set_option maxRecDepth 100000 in
theorem clique1_any {N : Nat} {l : List (Int × Int)} (hN : N ≤ 24) (hsf : ∀ v, adj l v v = false) {w0 : World} {BB TT NN R : Nat} (henv : CEnv w0 BB TT NN R N (near l N)) : ∀ (k : Nat) (i left : Nat) (b : Option Nat) (w : World), left < k →
    InvA (adj l) i left → i < 2 ^ N → left < 2 ^ N → (∀ m, b = some m → m < 2 ^ N) → CW w0 w BB b →
    Calls Tryd.prog 32 #[.int .i64 (i : Int), .int .i64 (left : Int), .pointer (some ⟨BB, 0, none⟩), .pointer (some ⟨TT, 0, none⟩), .pointer (some ⟨NN, 0, none⟩)] w fun e w' =>
      e = .returned (.tuple #[]) ∧ ∃ b', CW w0 w' BB b' ∧ Res (card 24) b (FamA (adj l) i left) b' ∧ ∀ m, b' = some m → m < 2 ^ N := by
  intro k
  induction k with
  | zero => intro i left b w h; omega
  | succ k ih =>
    intro i left b w hk hinv hi hl hb hw
    have Ih := Lib.hid ih; have Hinv := Lib.hid hinv; have Hb := Lib.hid hb; have Hw := Lib.hid hw; have Hi := Lib.hid hi; have Hl := Lib.hid hl
    have hp : 2 ^ N ≤ 16777216 := Nat.pow_le_pow_right (n := 2) (by decide) hN
    have hi24 : i < 16777216 := by omega
    have hl24 : left < 16777216 := by omega
    obtain ⟨ct, cn, hrow, htab, cb, fb⟩ := hw.facts henv
    have Ct := Lib.hid ct; have Cn := Lib.hid cn; have Hrow := Lib.hid hrow; have Htab := Lib.hid htab
    have ui := u64_nat (n := i) (by omega)
    have ul := u64_nat (n := left) (by omega)
    have ci := card_le 24 i
    have cl := card_le 24 left
    clear ih hinv hb hw hi hl hp ct cn hrow htab
    by_cases hz : left = 0
    · subst hz
      clear ul
      cases b with
      | none =>
        have hm1 : decide ((-1 : Int) < 0) = true := by decide
        simp only [bvI] at cb
        go_enter Tryd.func32, Tryd.ntmps32
        go_wp2_with fail
        go_quiet (fail)
        go_wp2
        refine bodyPost_ret (v := .tuple #[]) (by simp [results, Tryd.results32, go_sem]) rfl ?_
        exact ⟨rfl, some i, (Hw.out.drewN _).put i, (Res.one (b := none) (fun B hB => by cases hB)).iff (famA_leaf Hinv.out.cl), fun m hm => by cases hm; exact Hi.out⟩
      | some B =>
        have hB := Hb.out B rfl
        have hp2 : 2 ^ N ≤ 16777216 := Nat.pow_le_pow_right (n := 2) (by decide) hN
        have hB24 : B < 16777216 := by omega
        have hm1 : decide ((B : Int) < 0) = false := decide_eq_false (by omega)
        have uB := u64_nat (n := B) (by omega)
        have cB := card_le 24 B
        have Pi := Lib.hid (fun W => pop_any i hi24 W)
        have PB := Lib.hid (fun W => pop_any B hB24 W)
        simp only [bvI] at cb
        clear hp2 hB
        go_enter Tryd.func32, Tryd.ntmps32
        go_wp2_with fail
        by_cases hlt : card 24 B < card 24 i
        · have Hr := Lib.hid ((Res.one (c := card 24) (b := some B) (m := i) (fun B' hB' => by cases hB'; exact hlt)).iff (famA_leaf Hinv.out.cl))
          generalize card 24 B = kB at *
          generalize card 24 i = ki at *
          go_quiet ((first | with_reducible exact Calls.quiet_of_same (Pi.out _) | with_reducible exact Calls.quiet_of_same (PB.out _)))
          go_wp2
          refine bodyPost_ret (v := .tuple #[]) (by simp [results, Tryd.results32, go_sem]) rfl ?_
          exact ⟨rfl, some i, (Hw.out.drewN _).put i, Hr.out, fun m hm => by cases hm; exact Hi.out⟩
        · have Hr := Lib.hid ((Res.keep (c := card 24) (B := B) (F := FamA (adj l) i 0) fun T hT => by rw [(famA_leaf Hinv.out.cl T).1 hT]; omega))
          generalize card 24 B = kB at *
          generalize card 24 i = ki at *
          go_quiet ((first | with_reducible exact Calls.quiet_of_same (Pi.out _) | with_reducible exact Calls.quiet_of_same (PB.out _)))
          go_wp2
          refine bodyPost_ret (v := .tuple #[]) (by simp [results, Tryd.results32, go_sem]) rfl ?_
          exact ⟨rfl, some B, Hw.out.drewN _, Hr.out, Hb.out⟩
    · have hzi : ((left : Int) == 0) = false := by simp; omega
      cases b with
      | none =>
        have hm1 : decide ((0 : Int) ≤ -1) = false := by decide
        simp only [bvI] at cb
        go_enter Tryd.func32, Tryd.ntmps32
        go_wp2_with fail
        go_quiet (fail)
        have Hw1 := Lib.hid (Hw.out.drewN nq)
        generalize w.drewN nq = w1 at *
        obtain ⟨ct, cn, hrow, htab, cb, fb⟩ := Hw1.out.facts henv
        have Tz := Lib.hid (tz_any left (by omega) hz w1 htab)
        obtain ⟨v1, -⟩ := ctz_low hz (few_24 hl24)
        have v2 := fun j => ctz_first (i := j) hz (few_24 hl24)
        have v3 := bit_ltN Hl.out v1
        clear ct cn hrow htab cb fb
        go_upto_region 5 with (go_at_call 34; refine Tz.out.mono ?_; rintro e w' ⟨rfl, hw'⟩; rw [hw'])
        generalize Lib.ctz 64 left = v at *
        have V1 := Lib.hid v1; have V2 := Lib.hid v2
        clear v1 v2 Tz
        refine region_tail 11 (by kernel_rfl) (by kernel_rfl) ?_
        have Hw2 := Lib.hid Hw1.out.drew
        generalize w1.drew = w2 at *
        obtain ⟨ct, cn, hrow, -, -, -⟩ := Hw2.out.facts henv
        have t1 := hrow.cell v3
        simp only [rn] at t1
        have e1 := op_shl (show v < 62 by omega)
        have e2 := op_or (few_24 hi24) (pow2_few (show v < 62 by omega))
        have e3 := op_and (few_24 hl24) (maskOf_few (adj l v) (show N ≤ 62 by omega))
        rw [show maskOf (adj l v) N = near l N v from rfl] at e3
        have hnb : ∀ j, (near l N v).testBit j = (decide (j < N) && adj l v j) := fun j => by unfold near; rw [maskOf_bit]
        have hself : (near l N v).testBit v = false := by rw [hnb, hsf]; simp
        have I1 := Lib.hid (Hinv.out.with (adj_sy l) V1.out hnb (hsf v))
        have I2 := Lib.hid (Hinv.out.without (v := v))
        have Sp := Lib.hid (famA_split Hinv.out Hl.out V1.out hnb)
        have Ah := Lib.hid (fun S T => famA_ahead (nb := near l N v) (S := S) (T := T) Hinv.out V1.out V2.out)
        have L1 := Lib.hid (show lor i (pow2 v) < 2 ^ N from lor_ltN Hi.out (Nat.pow_lt_pow_right (by decide) v3))
        have L2 := Lib.hid (show land left (near l N v) < 2 ^ N from land_ltN Hl.out)
        have L3 := Lib.hid (show less left (pow2 v) < 2 ^ N from less_ltN Hl.out)
        have k1 : land left (near l N v) < left := lt_sub (v := v) (fun j hj => by rw [land_bit, Bool.and_eq_true] at hj; exact hj.1) V1.out (by rw [land_bit, hself]; simp)
        have k2 : less left (pow2 v) < left := lt_sub (v := v) (fun j hj => by rw [less_bit, Bool.and_eq_true] at hj; exact hj.1) V1.out (by rw [less_bit, pow2_bit]; simp)
        have K1 := Lib.hid (show land left (near l N v) < k by omega)
        have K2 := Lib.hid (show less left (pow2 v) < k by omega)
        have E4 := Lib.hid (op_andNot (few_24 hl24) (pow2_few (show v < 62 by omega)))
        clear hrow hnb hself k1 k2
        simp only [List.take_succ_cons, List.take_zero, List.drop_succ_cons, List.drop_zero]
        repeat still_step
        refine wpStill_nil ?_
        go_upto_region 6 with (go_at_call 32; refine (Ih.out _ _ _ w2 K1.out I1.out L1.out L2.out Hb.out Hw2.out).mono ?_; rintro e w3 ⟨rfl, b3, h3, r3, m3⟩)
        have H3 := Lib.hid h3; have R3 := Lib.hid r3; have M3 := Lib.hid m3
        clear ct cn t1 e2 e3 h3 r3 m3
        refine region_tail 6 (by kernel_rfl) (by kernel_rfl) ?_
        have Hw4 := Lib.hid H3.out.drew
        generalize w3.drew = w4 at *
        obtain ⟨ct, -, -, -, -, -⟩ := Hw4.out.facts henv
        have e4 := E4.out
        simp only [List.take_succ_cons, List.take_zero, List.drop_succ_cons, List.drop_zero]
        repeat still_step
        refine wpStill_nil ?_
        go_wp2_with (go_at_call 32; refine (Ih.out _ _ _ w4 K2.out I2.out Hi.out L3.out M3.out Hw4.out).mono ?_; rintro e w5 ⟨rfl, b5, h5, r5, m5⟩)
        go_end0
        exact ⟨rfl, b5, h5, (R3.out.join r5 fun S T hS hT _ => Ah.out S T hS hT).iff Sp.out, m5⟩

      | some B =>
        have hB := Hb.out B rfl
        have hp2 : 2 ^ N ≤ 16777216 := Nat.pow_le_pow_right (n := 2) (by decide) hN
        have hB24 : B < 16777216 := by omega
        have hm1 : decide ((0 : Int) ≤ (B : Int)) = true := decide_eq_true (by omega)
        have uB := u64_nat (n := B) (by omega)
        have cB := card_le 24 B
        have Pi := Lib.hid (fun W => pop_any i hi24 W)
        have Pl := Lib.hid (fun W => pop_any left hl24 W)
        have PB := Lib.hid (fun W => pop_any B hB24 W)
        simp only [bvI] at cb
        clear hp2 hB
        go_enter Tryd.func32, Tryd.ntmps32
        go_wp2_with fail
        by_cases hle : card 24 i + card 24 left ≤ card 24 B
        · have Hr := Lib.hid (Res.keep (c := card 24) (B := B) (F := FamA (adj l) i left) fun T hT => famA_bound hle T hT)
          generalize card 24 B = kB at *
          generalize card 24 left = kl at *
          generalize card 24 i = ki at *
          go_quiet ((first | with_reducible exact Calls.quiet_of_same (Pi.out _) | with_reducible exact Calls.quiet_of_same (PB.out _) | with_reducible exact Calls.quiet_of_same (Pl.out _)))
          go_wp2
          refine bodyPost_ret (v := .tuple #[]) (by simp [results, Tryd.results32, go_sem]) rfl ?_
          exact ⟨rfl, some B, Hw.out.drewN _, Hr.out, Hb.out⟩
        · generalize card 24 B = kB at *
          generalize card 24 left = kl at *
          generalize card 24 i = ki at *
          go_quiet ((first | with_reducible exact Calls.quiet_of_same (Pi.out _) | with_reducible exact Calls.quiet_of_same (PB.out _) | with_reducible exact Calls.quiet_of_same (Pl.out _)))
          have Hw1 := Lib.hid (Hw.out.drewN nq)
          generalize w.drewN nq = w1 at *
          obtain ⟨ct, cn, hrow, htab, cb, fb⟩ := Hw1.out.facts henv
          have Tz := Lib.hid (tz_any left (by omega) hz w1 htab)
          obtain ⟨v1, -⟩ := ctz_low hz (few_24 hl24)
          have v2 := fun j => ctz_first (i := j) hz (few_24 hl24)
          have v3 := bit_ltN Hl.out v1
          clear ct cn hrow htab cb fb
          go_upto_region 5 with (go_at_call 34; refine Tz.out.mono ?_; rintro e w' ⟨rfl, hw'⟩; rw [hw'])
          generalize Lib.ctz 64 left = v at *
          have V1 := Lib.hid v1; have V2 := Lib.hid v2
          clear v1 v2 Tz
          refine region_tail 11 (by kernel_rfl) (by kernel_rfl) ?_
          have Hw2 := Lib.hid Hw1.out.drew
          generalize w1.drew = w2 at *
          obtain ⟨ct, cn, hrow, -, -, -⟩ := Hw2.out.facts henv
          have t1 := hrow.cell v3
          simp only [rn] at t1
          have e1 := op_shl (show v < 62 by omega)
          have e2 := op_or (few_24 hi24) (pow2_few (show v < 62 by omega))
          have e3 := op_and (few_24 hl24) (maskOf_few (adj l v) (show N ≤ 62 by omega))
          rw [show maskOf (adj l v) N = near l N v from rfl] at e3
          have hnb : ∀ j, (near l N v).testBit j = (decide (j < N) && adj l v j) := fun j => by unfold near; rw [maskOf_bit]
          have hself : (near l N v).testBit v = false := by rw [hnb, hsf]; simp
          have I1 := Lib.hid (Hinv.out.with (adj_sy l) V1.out hnb (hsf v))
          have I2 := Lib.hid (Hinv.out.without (v := v))
          have Sp := Lib.hid (famA_split Hinv.out Hl.out V1.out hnb)
          have Ah := Lib.hid (fun S T => famA_ahead (nb := near l N v) (S := S) (T := T) Hinv.out V1.out V2.out)
          have L1 := Lib.hid (show lor i (pow2 v) < 2 ^ N from lor_ltN Hi.out (Nat.pow_lt_pow_right (by decide) v3))
          have L2 := Lib.hid (show land left (near l N v) < 2 ^ N from land_ltN Hl.out)
          have L3 := Lib.hid (show less left (pow2 v) < 2 ^ N from less_ltN Hl.out)
          have k1 : land left (near l N v) < left := lt_sub (v := v) (fun j hj => by rw [land_bit, Bool.and_eq_true] at hj; exact hj.1) V1.out (by rw [land_bit, hself]; simp)
          have k2 : less left (pow2 v) < left := lt_sub (v := v) (fun j hj => by rw [less_bit, Bool.and_eq_true] at hj; exact hj.1) V1.out (by rw [less_bit, pow2_bit]; simp)
          have K1 := Lib.hid (show land left (near l N v) < k by omega)
          have K2 := Lib.hid (show less left (pow2 v) < k by omega)
          have E4 := Lib.hid (op_andNot (few_24 hl24) (pow2_few (show v < 62 by omega)))
          clear hrow hnb hself k1 k2
          simp only [List.take_succ_cons, List.take_zero, List.drop_succ_cons, List.drop_zero]
          repeat still_step
          refine wpStill_nil ?_
          go_upto_region 6 with (go_at_call 32; refine (Ih.out _ _ _ w2 K1.out I1.out L1.out L2.out Hb.out Hw2.out).mono ?_; rintro e w3 ⟨rfl, b3, h3, r3, m3⟩)
          have H3 := Lib.hid h3; have R3 := Lib.hid r3; have M3 := Lib.hid m3
          clear ct cn t1 e2 e3 h3 r3 m3
          refine region_tail 6 (by kernel_rfl) (by kernel_rfl) ?_
          have Hw4 := Lib.hid H3.out.drew
          generalize w3.drew = w4 at *
          obtain ⟨ct, -, -, -, -, -⟩ := Hw4.out.facts henv
          have e4 := E4.out
          simp only [List.take_succ_cons, List.take_zero, List.drop_succ_cons, List.drop_zero]
          repeat still_step
          refine wpStill_nil ?_
          go_wp2_with (go_at_call 32; refine (Ih.out _ _ _ w4 K2.out I2.out Hi.out L3.out M3.out Hw4.out).mono ?_; rintro e w5 ⟨rfl, b5, h5, r5, m5⟩)
          go_end0
          exact ⟨rfl, b5, h5, (R3.out.join r5 fun S T hS hT _ => Ah.out S T hS hT).iff Sp.out, m5⟩

end Go.Proofs.YtfflnpcbpcldeaaDoor
