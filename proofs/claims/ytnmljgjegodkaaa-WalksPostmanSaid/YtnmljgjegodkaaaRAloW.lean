/- arborref.Along: how often a walk goes along each edge. -/
import Derived.Test.YtnmljgjegodkaaaPC
import Derived.Test.YtnmljgjegodkaaaWFarW
import Derived.Test.YtnmljgjegodkaaaOf
import Derived.BigQuiet
namespace Go.Proofs.Ytnmljgjegodkaaa
open Go.RowKit

theorem alongC_succ (O : List Nat) (e : Int × Int) (k : Nat) : alongC O e (k + 1) = alongC O e k + if Meets e (O.getD k 0 : Nat) (O.getD (k + 1) 0 : Nat) then 1 else 0 := by
  unfold alongC
  rw [cntN_succ]
  by_cases h : Meets e (O.getD k 0 : Nat) (O.getD (k + 1) 0 : Nat) <;> simp [h]
theorem alongC_le (O : List Nat) (e : Int × Int) (k : Nat) : alongC O e k ≤ k := cntN_le _ _
/-- Behind the first j edges at step t. -/
def alF (O : List Nat) (E : List (Int × Int)) (t j : Nat) : Nat → Int := fun i => if i < j then (alongC O (E.getD i (0, 0)) (t + 1) : Nat) else (alongC O (E.getD i (0, 0)) t : Nat)
theorem alF_no {O : List Nat} {E : List (Int × Int)} {t j : Nat} (h : ¬ Meets (E.getD j (0, 0)) (O.getD t 0 : Nat) (O.getD (t + 1) 0 : Nat)) : alF O E t (j + 1) = alF O E t j := by
  funext i
  unfold alF
  by_cases e : i < j
  · simp [e, show i < j + 1 by omega]
  · by_cases e2 : i = j
    · subst e2
      rw [if_pos (by omega), if_neg (by omega), alongC_succ, if_neg h, Nat.add_zero]
    · simp [e, show ¬ i < j + 1 by omega]
theorem alF_yes {O : List Nat} {E : List (Int × Int)} {t j : Nat} (h : Meets (E.getD j (0, 0)) (O.getD t 0 : Nat) (O.getD (t + 1) 0 : Nat)) : alF O E t (j + 1) = fun i => if i = j then ((alongC O (E.getD j (0, 0)) t : Nat) : Int) + 1 else alF O E t j i := by
  funext i
  unfold alF
  by_cases e2 : i = j
  · subst e2
    rw [if_pos (by omega), if_pos rfl, alongC_succ, if_pos h]; push_cast; rfl
  · rw [if_neg e2]
    by_cases e : i < j
    · simp [e, show i < j + 1 by omega]
    · simp [e, show ¬ i < j + 1 by omega]
/-- What arborref.Along answers. -/
def AlongPost (O : List Nat) (E : List (Int × Int)) (w : World) (e : Ending) (w' : World) : Prop :=
  ∃ b, e = .returned (.slice (some ⟨b, 0, none⟩) E.length E.length) ∧ w.heap.size ≤ b ∧ w'.rowIs b 3 E.length (ri fun i => (alongC O (E.getD i (0, 0)) (O.length - 1) : Nat)) ∧ Below w.heap.size w w'

set_option maxHeartbeats 6400000 in
set_option maxRecDepth 100000 in
theorem ralong_any (N : Nat) (G : Nat → Nat → Bool) (O : List Nat) (gv lv : Value) (w : World) (hN : N ≤ 100) (hg : HasGrid w gv N G) (hl : IsInts w lv (ints O)) (hO : O.length ≤ 1000000) :
    Calls Try.prog 18 #[gv, lv] w (AlongPost O (prsTo N G N) w) := by
  have hplen : (prsTo N G N).length ≤ N * N := prsTo_length N G N
  obtain ⟨al, cl, rfl⟩ : ∃ al cl, lv = .slice al O.length cl := by
    obtain ⟨a, c, _, _, rfl, _⟩ := hl; exact ⟨a, c, by rw [ints_length]⟩
  have HL := Lib.hid hl
  have HG := Lib.hid hg
  have hNN : N * N ≤ 10000 := Nat.mul_le_mul hN hN
  clear hl hg
  go_enter Try.func18, Try.ntmps18
  go_upto_region 2 with (go_at_call 55; refine (of_any N G gv w hN HG.out).mono ?_; rintro e w2 ⟨ve, hoe, hb2, rfl⟩; obtain ⟨ae, ce, rfl⟩ := hoe.form; have Hoe := Lib.hid hoe; have Hb2 := Lib.hid hb2; clear hoe hb2; have hfe0 : (Instr.field 24 (.agg #[.int .i64 (N : Int), .slice ae (prsTo N G N).length ce]) 1).run Try.prog w2 = .ok (.slice ae (prsTo N G N).length ce) w2 := by kernel_rfl)
  clear hfe0
  generalize prsTo N G N = E at *
  generalize hm : E.length = m at *
  have Hm := Lib.hid hm
  clear hm
  have hmk := run_make_row' (P := Try.prog) 29 3 (.int .i64 0) 8 Try.underlying29 info3 rfl .i64 .i64 m (by omega) (by omega)
  have hr3 := (World.rowIs_made w2 (.int .i64 0) m 3).congr (g := ri fun _ => 0) fun _ _ => rfl
  have HL2 := Lib.hid (HL.out.below Hb2.out)
  have R3 := Lib.hid (RiSt.mk (below1 w2 (.cells (madeCells #[.int .i64 0] m) 3)) (Nat.le_refl _) hr3)
  clear hr3
  go_upto_region 4 with fail
  clear hmk
  generalize w2.alloc (.cells (madeCells #[.int .i64 0] m) 3) = w3 at *
  obtain ⟨ae', ce', be, oe, eE, -, -, hadE, -, hcE⟩ := Hoe.out.edges
  rw [Hm.out] at eE
  simp only [Value.slice.injEq] at eE
  obtain ⟨rfl, -, rfl⟩ := eE
  have HadE := Lib.hid hadE; have HcE := Lib.hid hcE
  clear hadE hcE
  go_loopg [7] O.length (fun g s7 wr => ∃ t : Nat, (t + 1 ≤ O.length ∨ t = 0) ∧ g = O.length - t ∧ s7 = .int .i64 ((t : Int) + 1) ∧ RiSt w2 wr w2.heap.size m (fun i => (alongC O (E.getD i (0, 0)) t : Nat)))
  case atStart => exact ⟨0, .inr rfl, rfl, rfl, R3.out.congr fun q _ => by simp [alongC, cntN_zero]⟩
  case round =>
    clear R3
    obtain ⟨t, ht, rfl, rfl, hst⟩ := hrel
    have Hst := Lib.hid hst
    by_cases hlt : t + 1 < O.length
    · clear hst
      have hti3 : (t : Int) + 1 < (O.length : Int) := by omega
      go_upto_region 7 with fail
      go_loopg [8] m (fun g s8 wi => ∃ j : Nat, j ≤ m ∧ g = m - j ∧ s8 = .int .i64 (j : Int) ∧ RiSt w2 wi w2.heap.size m (alF O E t j))
      case atStart => exact ⟨0, Nat.zero_le _, rfl, rfl, Hst.out.congr fun q _ => by simp [alF]⟩
      case round =>
        clear Hst
        obtain ⟨j, hj, rfl, rfl, hst⟩ := hrel
        have Hst := Lib.hid hst
        by_cases hjl : j < m
        · obtain rfl := HadE.out (by rw [Hm.out]; omega)
          obtain ⟨x, y, He, cx, cy⟩ := edges_at HcE.out hst.hb (show j < E.length by rw [Hm.out]; exact hjl)
          obtain ⟨bl, ol, rfl, cp⟩ := ints_at' HL2.out hst.hb (show t < O.length by omega)
          obtain ⟨bl', ol', eO, cq⟩ := ints_at' HL2.out hst.hb hlt
          simp only [Option.some.injEq, Addr.mk.injEq] at eO
          obtain ⟨rfl, rfl, -⟩ := eO
          have ci := hst.row.cell hjl
          have fi := hst.row.frozen j
          have li := hst.row.lt
          simp only [ri] at ci
          have hcj : alF O E t j j = (alongC O (E.getD j (0, 0)) t : Nat) := by unfold alF; rw [if_neg (Nat.lt_irrefl _)]
          rw [hcj] at ci
          have hle := alongC_le O (E.getD j (0, 0)) t
          have HN := Lib.hid (fun n h => (hst.below (Below.drewN' (Below.refl _ _) n)).congr (F' := alF O E t (j + 1)) fun q _ => by rw [alF_no h])
          have HY := Lib.hid (fun n h => ((hst.below (Below.drewN' (Below.refl _ _) n)).set j (((alongC O (E.getD j (0, 0)) t : Nat) : Int) + 1)).congr (F' := alF O E t (j + 1)) fun q _ => by rw [alF_yes h])
          clear hst hcj
          generalize alongC O (E.getD j (0, 0)) t = cc at *
          rw [He.out] at HN HY
          generalize O.getD t 0 = p at *
          generalize O.getD (t + 1) 0 = q at *
          have hwt2 : IntKind.i64.wrap (t : Int) = (t : Int) := wrap_midF (by omega) (by omega)
          have hwt3 : IntKind.i64.wrap ((t : Int) + 1 - 1) = (t : Int) := by rw [show (t : Int) + 1 - 1 = (t : Int) by omega, wrap_midF (by omega) (by omega)]
          have hwt : IntKind.i64.wrap (((t + 1 : Nat) : Int) - 1) = (t : Int) := by rw [show ((t + 1 : Nat) : Int) - 1 = (t : Int) by omega, wrap_midF (by omega) (by omega)]
          have hwc : IntKind.i64.wrap ((cc : Int) + 1) = (cc : Int) + 1 := wrap_midF (by omega) (by omega)
          have hti : (t : Int) < (O.length : Int) := by omega
          have hti2 : t < O.length := by omega
          have hti4 : (0 : Int) ≤ (t : Int) + 1 := by omega
          by_cases h1 : x = p
          · have q1 : (x == (p : Int)) = true := by rw [beq_iff_eq]; exact h1
            have H1 := Lib.hid h1
            clear h1
            by_cases h2 : y = q
            · have q2 : (y == (q : Int)) = true := by rw [beq_iff_eq]; exact h2
              have H2 := Lib.hid h2
              clear h2
              go_upto_region 9 with fail
              go_big_quiet (fail)
              clear cx cy cp cq
              go_wp2
              go_roundg (m - (j + 1))
              case measure => go_light; omega
              case rel => exact ⟨j + 1, by omega, rfl, by go_num, HY.out _ (by unfold Meets; simp only; have h1 := H1.out; have h2 := H2.out; omega)⟩
            · have q2 : (y == (q : Int)) = false := by rw [beq_eq_false_iff_ne]; exact h2
              have H2 := Lib.hid h2
              clear h2
              by_cases h3 : y = p
              · have q3 : (y == (p : Int)) = true := by rw [beq_iff_eq]; exact h3
                have H3 := Lib.hid h3
                clear h3
                by_cases h4 : x = q
                · have q4 : (x == (q : Int)) = true := by rw [beq_iff_eq]; exact h4
                  have H4 := Lib.hid h4
                  clear h4
                  go_upto_region 9 with fail
                  go_big_quiet (fail)
                  clear cx cy cp cq
                  go_wp2
                  go_roundg (m - (j + 1))
                  case measure => go_light; omega
                  case rel => exact ⟨j + 1, by omega, rfl, by go_num, HY.out _ (by unfold Meets; simp only; have h1 := H1.out; have h2 := H2.out; have h3 := H3.out; have h4 := H4.out; omega)⟩
                · have q4 : (x == (q : Int)) = false := by rw [beq_eq_false_iff_ne]; exact h4
                  have H4 := Lib.hid h4
                  clear h4
                  go_upto_region 9 with fail
                  go_big_quiet (fail)
                  clear cx cy cp cq
                  go_wp2
                  go_roundg (m - (j + 1))
                  case measure => go_light; omega
                  case rel => exact ⟨j + 1, by omega, rfl, by go_num, HN.out _ (by unfold Meets; simp only; have h1 := H1.out; have h2 := H2.out; have h3 := H3.out; have h4 := H4.out; omega)⟩
              · have q3 : (y == (p : Int)) = false := by rw [beq_eq_false_iff_ne]; exact h3
                have H3 := Lib.hid h3
                clear h3
                go_upto_region 9 with fail
                go_big_quiet (fail)
                clear cx cy cp cq
                go_wp2
                go_roundg (m - (j + 1))
                case measure => go_light; omega
                case rel => exact ⟨j + 1, by omega, rfl, by go_num, HN.out _ (by unfold Meets; simp only; have h1 := H1.out; have h2 := H2.out; have h3 := H3.out; omega)⟩
          · have q1 : (x == (p : Int)) = false := by rw [beq_eq_false_iff_ne]; exact h1
            have H1 := Lib.hid h1
            clear h1
            by_cases h3 : y = p
            · have q3 : (y == (p : Int)) = true := by rw [beq_iff_eq]; exact h3
              have H3 := Lib.hid h3
              clear h3
              by_cases h4 : x = q
              · have q4 : (x == (q : Int)) = true := by rw [beq_iff_eq]; exact h4
                have H4 := Lib.hid h4
                clear h4
                go_upto_region 9 with fail
                go_big_quiet (fail)
                clear cx cy cp cq
                go_wp2
                go_roundg (m - (j + 1))
                case measure => go_light; omega
                case rel => exact ⟨j + 1, by omega, rfl, by go_num, HY.out _ (by unfold Meets; simp only; have h1 := H1.out; have h3 := H3.out; have h4 := H4.out; omega)⟩
              · have q4 : (x == (q : Int)) = false := by rw [beq_eq_false_iff_ne]; exact h4
                have H4 := Lib.hid h4
                clear h4
                go_upto_region 9 with fail
                go_big_quiet (fail)
                clear cx cy cp cq
                go_wp2
                go_roundg (m - (j + 1))
                case measure => go_light; omega
                case rel => exact ⟨j + 1, by omega, rfl, by go_num, HN.out _ (by unfold Meets; simp only; have h1 := H1.out; have h3 := H3.out; have h4 := H4.out; omega)⟩
            · have q3 : (y == (p : Int)) = false := by rw [beq_eq_false_iff_ne]; exact h3
              have H3 := Lib.hid h3
              clear h3
              go_upto_region 9 with fail
              go_big_quiet (fail)
              clear cx cy cp cq
              go_wp2
              go_roundg (m - (j + 1))
              case measure => go_light; omega
              case rel => exact ⟨j + 1, by omega, rfl, by go_num, HN.out _ (by unfold Meets; simp only; have h1 := H1.out; have h3 := H3.out; omega)⟩
        · obtain rfl : j = m := by omega
          clear hst
          go_wp2
          go_roundg (O.length - (t + 1))
          case measure => go_light; omega
          case rel => exact ⟨t + 1, .inl (by omega), rfl, by go_num, Hst.out.congr fun q hq => by unfold alF; rw [if_pos hq]⟩
    · have htl : O.length - 1 = t := by omega
      clear hst
      go_wp2
      exact bodyPost_ret (v := .slice (some ⟨w2.heap.size, 0, none⟩) m m) (by simp [results, Try.results18, go_sem]) rfl ⟨w2.heap.size, by rw [Hm.out], Hb2.out.size, by rw [Hm.out, htl]; exact Hst.out.row, Hb2.out.trans (Hst.out.hb.mono Hb2.out.size)⟩

end Go.Proofs.Ytnmljgjegodkaaa
