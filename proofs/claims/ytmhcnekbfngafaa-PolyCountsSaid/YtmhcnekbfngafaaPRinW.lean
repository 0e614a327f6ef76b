/- poly.Rings: the walk. -/
import Derived.Test.YtmhcnekbfngafaaPB
import Derived.Test.YtmhcnekbfngafaaPSmall
import Derived.Test.YtmhcnekbfngafaaPE
import Derived.Test.YtmhcnekbfngafaaTable
import Derived.Test.YtmhcnekbfngafaaHasGrid
import Derived.Deep.LoopGhost
import Derived.Deep.Light
import Derived.Deep.Modes
namespace Go.Proofs.Ytmhcnekbfngafaa
open Go Go.RowKit

theorem ri_made (W : World) (M : Nat) : (W.alloc (.cells (madeCells #[.int .i64 0] M) 3)).rowIs W.heap.size 3 M (ri fun _ => 0) := (World.rowIs_made W (.int .i64 0) M 3).congr fun i _ => rfl
theorem or_odd {s : Nat} (h : s < 4096) : bits .or .i64 ((s : Int) * 2) 1 = ((2 * s + 1 : Nat) : Int) := by
  have h1 := op_or (a := 2 * s) (b := 1) (by show 2 * s < 4611686018427387904; omega) (by decide)
  have h2 : lor (2 * s) 1 = 2 * s + 1 := Nat.eq_of_testBit_eq fun i => by
    rw [lor_bit, inS_bit]
    unfold inS
    cases i with
    | zero => simp
    | succ i =>
      rw [if_neg (by omega), Nat.add_sub_cancel, Nat.testBit_succ, show 2 * s / 2 = s by omega]
      have : (1 : Nat).testBit (i + 1) = false := by rw [Nat.testBit_succ]; simp
      rw [this, Bool.or_false]
  rw [h2] at h1
  rw [← h1]
  congr 1
  omega

/-- poly.Rings comes back. -/
def RingPost (n : Int) (l : List (Int × Int)) (w : World) (e : Ending) (w' : World) : Prop :=
  ∃ (c a x : Int), e = .returned (.tuple #[.int .i64 x, .agg #[.int .i64 c, .int .i64 a]]) ∧ SmallSpec n l 12 c a ∧ Below w.heap.size w w' ∧
    ((c ≠ 0 ∧ x = 0) ∨ (c = 0 ∧ a = 0 ∧ ∃ N : Nat, n = N ∧ x = if N < 3 then 0 else wrap64 (Int.tdiv (wI (rngN N (adj l) (fun u => decide (u = 0)) (N - 1) 0)) 2)))

set_option maxHeartbeats 6400000 in
set_option maxRecDepth 100000 in
theorem prings_any (n : Int) (l : List (Int × Int)) (sv : Value) (w : World) (h : IsEdges w sv l) :
    Calls Try.prog 21 #[.agg #[.int .i64 n, sv]] w (RingPost n l w) := by
  have hsv := h
  obtain ⟨ad, cap, bb, o, rfl, hcap, hmax, hadr, -, hcell⟩ := h
  have hg := GRes.start w n (.slice ad l.length cap)
  have He := Lib.hid hsv; have Hg := Lib.hid hg; have Hcell := Lib.hid hcell; have Hadr := Lib.hid hadr
  have cn := hg.cn
  have cs := hg.cs
  clear hsv hg  hcell hadr
  go_enter Try.func21, Try.ntmps21
  go_upto_region 1 with fail
  generalize (w.alloc (Obj.cells #[.int .i64 n, .slice ad l.length cap] 24)).alloc (Obj.cells #[Value.int IntKind.i64 0, Value.int IntKind.i64 0] 27) = w1 at *
  go_upto_region 2 with (go_at_call 53; refine (psmall_any n l _ w1 (He.out.below Hg.out.hb)).mono ?_; rintro e w2 ⟨c, a, hsp, rfl, hb2⟩; have Hsp := Lib.hid hsp; have H3 := Lib.hid (Hg.out.below (upc hb2 (below1 w2 (Obj.cells #[.int .i64 c, .int .i64 a] 27)))); have F3 := Lib.hid (FV.new w2 c a); clear hsp hb2)
  generalize w2.alloc (Obj.cells #[.int .i64 c, .int .i64 a] 27) = w3 at *
  generalize w2.heap.size = F at *
  clear cn cs Hg
  have cn := H3.out.cn
  have cs := H3.out.cs
  have hAB := H3.out.hA
  obtain ⟨f0, f1, -, -, -⟩ := F3.out.facts
  by_cases hc : c = 0
  · subst hc
    obtain ⟨rfl, hn0, hn1, hl1, hok⟩ := small_good Hsp.out
    obtain ⟨N, rfl⟩ := Int.eq_ofNat_of_zero_le hn0
    have hN : N ≤ 12 := by omega
    have Hok := Lib.hid hok
    clear hok hn0 hn1
    by_cases h3 : N < 3
    · have h3i : (N : Int) < 3 := by omega
      have b0 := H3.out.hz.cell (show 0 < 2 by omega)
      have b1 := H3.out.hz.cell (show 1 < 2 by omega)
      have d0 := H3.out.hz.frozen 0
      have d1 := H3.out.hz.frozen 1
      have hBl := H3.out.hz.lt
      go_wp2
      obtain ⟨e0, e1, e2⟩ := H3.out.put (.int .i64 0) (.int .i64 0)
      exact bodyPost_ret (v := .tuple #[.int .i64 0, .agg #[.int .i64 0, .int .i64 0]]) (by simp [results, Try.results21, go_sem, e0, e1]) rfl ⟨0, 0, 0, rfl, Hsp.out, e2, Or.inr ⟨rfl, rfl, N, rfl, by rw [if_pos h3]⟩⟩
    · have h3i : ¬ (N : Int) < 3 := by omega
      go_upto_region 7 with (go_at_call 54; refine (table_any l N _ w3 (He.out.below H3.out.hb) (by omega) Hok.out).mono ?_; rintro e w4 ⟨v4, rfl, hg4, hb4⟩; have Hg4 := Lib.hid (show HasGrid w4 v4 N (adj l) from ⟨_, hg4⟩); have H4 := Lib.hid (H3.out.below hb4); obtain ⟨ga, gc, gb, go, R, rfl, -, hga, hgr⟩ := hg4; have Hgr := Lib.hid hgr; obtain rfl := (hga (by omega)).1; clear hga hgr hb4)
      clear f0 f1 F3 cn cs
      obtain ⟨M, hM⟩ : ∃ M, N = M + 1 := ⟨N - 1, by omega⟩
      have hNM1 : N ≤ M + 1 := by omega
      have hNM2 : M + 1 ≤ N := by omega
      have HN1 := Lib.hid hM
      clear hM
      have cn := H4.out.cn
      have hwM : IntKind.i64.wrap ((N : Int) - 1) = (M : Int) := by rw [show (N : Int) - 1 = (M : Int) by omega]; exact wrap_nat (by omega)
      have e1 := op_shl (show M < 62 by omega)
      have hP : pow2 M ≤ 4096 := by unfold pow2; exact Nat.pow_le_pow_right (n := 2) (by decide) (show M ≤ 12 by omega)
      have HPe := Lib.hid (show pow2 M = 2 ^ M from rfl)
      obtain ⟨K, hK⟩ : ∃ K, K = pow2 M := ⟨_, rfl⟩
      rw [← hK] at hP e1 HPe
      clear hK
      go_wp2
      go_loopg [6, 32] K (fun g s6 s32 wr => ∃ (s : Nat) (x : Int), s ≤ K ∧ g = K - s ∧ s32 = .int .i64 (s : Int) ∧ s6 = .int .i64 x ∧ x = wI (rgS M (adj l) s) ∧ Below w4.heap.size w4 wr)
      case atStart => exact ⟨0, 0, Nat.zero_le _, rfl, rfl, rfl, rfl, Below.refl _ _⟩
      case round =>
        obtain ⟨s, x, hs, rfl, rfl, rfl, hx, hb⟩ := hrel
        have Hx := Lib.hid hx; have Hb := Lib.hid hb
        have cn := (H4.out.below hb).cn
        clear hx hb
        by_cases hlt : s < K
        · obtain ⟨S, hS⟩ : ∃ S : Nat, S = 2 * s + 1 := ⟨_, rfl⟩
          have hor : bits .or .i64 ((s : Int) * 2) 1 = (S : Int) := by rw [hS]; exact or_odd (by omega)
          have hSf : Few S := by show S < 4611686018427387904; omega
          have HSb := Lib.hid (fun v => show S.testBit v = inS s v by rw [hS]; exact inS_bit s v)
          clear hS
          go_upto_region 12 with fail
          clear hwM e1 h3i
          have hmk := run_make_row' (P := Try.prog) 39 3 (.int .i64 0) 8 Try.underlying39 info3 rfl .i64 .i64 N (by omega) (by omega)
          go_upto_region 13 with fail
          have HW := Lib.hid (ri_made wr N)
          have Hb5 := Lib.hid (Hb.out.alloc Hb.out.size (.cells (madeCells #[Value.int .i64 0] N) 3))
          have hszr := Hb.out.size
          generalize hb9 : wr.heap.size = b9 at *
          generalize wr.alloc (.cells (madeCells #[.int .i64 0] N) 3) = w5 at *
          clear hb9 cn
          have t0 := HW.out.cell (show 0 < N by omega)
          have f0 := HW.out.frozen 0
          have m0 := HW.out.lt
          have HA0 := Lib.hid (row_ri (row_set_ri HW.out 0 1) (g' := fun w => wI (atR N (adj l) (inS s) 0 w)) (fun w _ => by
            by_cases e : w = 0
            · subst e; rfl
            · simp only [atR, if_neg e]; rfl))
          have Hb6 := Lib.hid (Hb5.out.setCell (p := ⟨b9, 0, none⟩) (by omega) (.int .i64 1))
          go_upto_region 14 with fail
          clear t0 f0 m0
          generalize w5.setCell ⟨b9, 0, none⟩ (.int .i64 1) = w6 at *
          have cn := (H4.out.below Hb6.out).cn
          clear hor
          go_wp2
          clear cn
          go_loopg [9, 45] N (fun g s9 s45 wr => ∃ k b9 : Nat, k ≤ N ∧ g = N - k ∧ s45 = .int .i64 (k : Int) ∧ s9 = .slice (some ⟨b9, 0, none⟩) N N ∧ wr.rowIs b9 3 N (ri fun w => wI (atR N (adj l) (inS s) k w)) ∧ w4.heap.size ≤ b9 ∧ Below w4.heap.size w4 wr)
          case atStart => exact ⟨0, b9, Nat.zero_le _, rfl, rfl, rfl, HA0.out, by omega, Hb6.out⟩
          case round =>
            obtain ⟨k, b9, hk, rfl, rfl, rfl, hr9, hl9, hb⟩ := hrel
            have Hr9 := Lib.hid hr9; have Hb9 := Lib.hid hb
            have cn := (H4.out.below hb).cn
            clear hb hr9
            by_cases hkN : k < N
            · have hmk := run_make_row' (P := Try.prog) 39 3 (.int .i64 0) 8 Try.underlying39 info3 rfl .i64 .i64 N (by omega) (by omega)
              obtain ⟨w9, rfl⟩ : ∃ w9 : World, w9 = wr := ⟨_, rfl⟩
              go_upto_region 17 with fail
              have HX := Lib.hid (row_ri (ri_made w9 N) (g' := fun q => wI (nxR N (adj l) (inS s) k 0 q)) (fun q _ => rfl))
              have hb91 := Hr9.out.lt
              have Hr10 := Lib.hid (Hr9.out.of_block ((below1 w9 (.cells (madeCells #[Value.int .i64 0] N) 3)).block _ hb91))
              have Hb10 := Lib.hid (Hb9.out.alloc Hb9.out.size (.cells (madeCells #[Value.int .i64 0] N) 3))
              have hsz10 := Hb9.out.size
              generalize w9.alloc (.cells (madeCells #[.int .i64 0] N) 3) = w10 at *
              generalize w9.heap.size = b10 at *
              clear cn hmk Hr9
              go_wp2
              go_loopg [52] N (fun g s52 wx => ∃ v : Nat, v ≤ N ∧ g = N - v ∧ s52 = .int .i64 (v : Int) ∧ wx.rowIs b10 3 N (ri fun q => wI (nxR N (adj l) (inS s) k v q)) ∧ Chg (· = b10) w10 wx)
              case atStart => exact ⟨0, Nat.zero_le _, rfl, rfl, HX.out, Chg.refl _ _⟩
              case round =>
                obtain ⟨v, hv, rfl, rfl, hro, hch⟩ := hrel
                have Hro := Lib.hid hro; have Hch := Lib.hid hch
                clear hro hch
                by_cases hvN : v < N
                · have t1 := (Chg.rowIs Hch.out Hr10.out (show ¬ b9 = b10 by omega)).cell hvN
                  simp only [ri] at t1
                  have Hat := Lib.hid (rfl : wI (atR N (adj l) (inS s) k v) = wI (atR N (adj l) (inS s) k v))
                  generalize hvx : wI (atR N (adj l) (inS s) k v) = vx at t1
                  have Hvx := Lib.hid hvx
                  clear hvx Hat
                  have Hbx := Lib.hid (Hb10.out.trans (Hch.out.toBelow (B := w4.heap.size) Hb10.out.size (fun q hq hs => by omega)))
                  have cn := (H4.out.below Hbx.out).cn
                  go_wp2
                  clear t1 cn
                  go_loopg [59] N (fun g s59 wy => ∃ u : Nat, u ≤ N ∧ g = N - u ∧ s59 = .int .i64 (u : Int) ∧ wy.rowIs b10 3 N (ri fun q => wI (nxR N (adj l) (inS s) k v q + if q < u then b2i (inS s q && adj l v q) * atR N (adj l) (inS s) k v else 0)) ∧ Chg (· = b10) w10 wy)
                  case atStart => exact ⟨0, Nat.zero_le _, rfl, rfl, row_ri Hro.out (fun q _ => by rw [if_neg (Nat.not_lt_zero q), Int.add_zero]), Hch.out⟩
                  case round =>
                    obtain ⟨u, hu, rfl, rfl, hro, hch⟩ := hrel
                    have Hro2 := Lib.hid hro; have Hch2 := Lib.hid hch
                    clear hro hch
                    by_cases huN : u < N
                    · have Hby := Lib.hid (Hb10.out.trans (Hch2.out.toBelow (B := w4.heap.size) Hb10.out.size (fun q hq hs => by omega)))
                      have t2 := below_cell Hby.out (Hgr.out.head v hvN)
                      have t3 := below_cell Hby.out (Hgr.out.cell hvN huN)
                      have e3 := op_shr S u
                      have HSu := Lib.hid (HSb.out u)
                      have Skip := Lib.hid (fun (h : wI (nxR N (adj l) (inS s) k v u + b2i (inS s u && adj l v u) * atR N (adj l) (inS s) k v) = wI (nxR N (adj l) (inS s) k v u)) => row_ri (g' := fun q => wI (nxR N (adj l) (inS s) k v q + if q < u + 1 then b2i (inS s q && adj l v q) * atR N (adj l) (inS s) k v else 0)) Hro2.out (fun q _ => by
                        by_cases e : q = u
                        · subst e
                          rw [if_neg (Nat.lt_irrefl q), if_pos (Nat.lt_succ_self q), Int.add_zero]; exact h.symm
                        · have : (q < u + 1) ↔ q < u := by omega
                          simp only [this]))
                      by_cases hx0 : vx = 0
                      · have Hx0 := Lib.hid hx0
                        subst hx0
                        have Hzz := Lib.hid (Skip.out (by
                          cases inS s u && adj l v u
                          · simp [b2i]
                          · rw [show b2i true = 1 from rfl, Int.one_mul, ← wI_addr, Hvx.out, Int.add_zero]))
                        clear t2 t3 e3
                        go_wp2
                        go_roundg (N - (u + 1))
                        case measure => go_light; omega
                        case rel => exact ⟨u + 1, by omega, rfl, by go_num, Hzz.out, Hch2.out⟩
                      · have hxb : (vx != 0) = true := by simp [hx0]
                        have Hx0 := Lib.hid hx0
                        clear hx0
                        cases hbit : S.testBit u with
                        | false =>
                          have e4 : bits .and .i64 (shr S u : Int) 1 = 0 := by rw [op_bit hSf, bit_zero hbit]; rfl
                          have Hzz := Lib.hid (Skip.out (by rw [← HSu.out, hbit]; simp [b2i]))
                          clear hbit
                          go_wp2
                          go_roundg (N - (u + 1))
                          case measure => go_light; omega
                          case rel => exact ⟨u + 1, by omega, rfl, by go_num, Hzz.out, Hch2.out⟩
                        | true =>
                          have e4 : bits .and .i64 (shr S u : Int) 1 = 1 := by rw [op_bit hSf, bit_one hbit]; rfl
                          have Hbit := Lib.hid (HSu.out.symm.trans hbit)
                          clear hbit
                          cases hG : adj l v u with
                          | false =>
                            rw [hG] at t3
                            have Hzz := Lib.hid (Skip.out (by rw [hG, Bool.and_false]; simp [b2i]))
                            clear hG
                            go_wp2
                            go_roundg (N - (u + 1))
                            case measure => go_light; omega
                            case rel => exact ⟨u + 1, by omega, rfl, by go_num, Hzz.out, Hch2.out⟩
                          | true =>
                            rw [hG] at t3
                            have HG := Lib.hid hG
                            have tO := Hro2.out.cell huN
                            have fO := Hro2.out.frozen u
                            have mO := Hro2.out.lt
                            simp only [ri, if_neg (Nat.lt_irrefl u), Int.add_zero] at tO
                            generalize hvO : wI (nxR N (adj l) (inS s) k v u) = vO at tO
                            have HvO := Lib.hid hvO
                            clear hG hvO
                            go_wp2
                            go_roundg (N - (u + 1))
                            case measure => go_light; omega
                            case rel => exact ⟨u + 1, by omega, rfl, by go_num, row_ri (row_set_ri Hro2.out u _) (fun q _ => by
                              by_cases e : q = u
                              · subst e
                                rw [if_pos rfl, if_pos (Nat.lt_succ_self q), Hbit.out, HG.out, Bool.and_self, show b2i true = 1 from rfl, Int.one_mul, ← wI_add, HvO.out, Hvx.out, wI_64]
                              · rw [if_neg e]
                                have : (q < u + 1) ↔ q < u := by omega
                                simp only [this]), Hch2.out.setCell (fun _ => rfl) _⟩
                    · obtain rfl : u = N := by omega
                      go_wp2
                      go_roundg (u - (v + 1))
                      case measure => go_light; omega
                      case rel => exact ⟨v + 1, by omega, rfl, by go_num, row_ri Hro2.out (fun q hq => by rw [if_pos hq, nxR_step]), Hch2.out⟩
                · obtain rfl : v = N := by omega
                  go_wp2
                  go_roundg (v - (k + 1))
                  case measure => go_light; omega
                  case rel => exact ⟨k + 1, b10, by omega, rfl, by go_num, rfl, Hro.out, hsz10, Hb10.out.trans (Hch.out.toBelow (B := w4.heap.size) Hb10.out.size (fun q hq hs => by omega))⟩
            · obtain rfl : k = N := by omega
              have t0 := Hr9.out.cell (show 0 < k by omega)
              simp only [ri] at t0
              generalize hvy : wI (atR k (adj l) (inS s) k 0) = vy at t0
              have Hvy := Lib.hid hvy
              clear hvy
              obtain ⟨w9, rfl⟩ : ∃ w9 : World, w9 = wr := ⟨_, rfl⟩
              go_wp2
              go_loopg [14, 15] M (fun g s14 s15 wy => ∃ v : Nat, v ≤ M ∧ g = M - v ∧ s15 = .int .i64 ((v + 1 : Nat) : Int) ∧ s14 = .int .i64 (zcR s v : Int) ∧ w9 = wy)
              case atStart => exact ⟨0, Nat.zero_le _, rfl, rfl, rfl, rfl⟩
              case round =>
                obtain ⟨v, hv, rfl, rfl, rfl, rfl⟩ := hrel
                have hzl := zcR_le s v
                by_cases hvM : v < M
                · have hvN : ((v + 1 : Nat) : Int) < (k : Int) := by omega
                  have e3 := op_shr S (v + 1)
                  have HSu := HSb.out (v + 1)
                  rw [show inS s (v + 1) = s.testBit v by unfold inS; rw [if_neg (by omega), Nat.add_sub_cancel]] at HSu
                  have Hzs := Lib.hid (show zcR s (v + 1) = zcR s v + if s.testBit v then 0 else 1 from rfl)
                  generalize zcR s v = z at *
                  generalize hv1 : v + 1 = v1 at *
                  cases hbit : s.testBit v with
                  | false =>
                    rw [hbit] at HSu
                    have e4 : bits .and .i64 (shr S v1 : Int) 1 = 0 := by rw [op_bit hSf, bit_zero HSu]; rfl
                    have Hz2 := Lib.hid (show zcR s v1 = z + 1 by rw [Hzs.out, hbit]; rfl)
                    have Hv1 := Lib.hid hv1
                    clear hbit HSu
                    go_wp2
                    go_roundg (M - v1)
                    case measure => go_light; omega
                    case rel => exact ⟨v1, by omega, rfl, by go_num, by rw [Hz2.out]; go_num, rfl⟩
                  | true =>
                    rw [hbit] at HSu
                    have e4 : bits .and .i64 (shr S v1 : Int) 1 = 1 := by rw [op_bit hSf, bit_one HSu]; rfl
                    have Hz2 := Lib.hid (show zcR s v1 = z by rw [Hzs.out, hbit]; rfl)
                    have Hv1 := Lib.hid hv1
                    clear hbit HSu
                    go_wp2
                    go_roundg (M - v1)
                    case measure => go_light; omega
                    case rel => exact ⟨v1, by omega, rfl, by go_num, by rw [Hz2.out], rfl⟩
                · obtain rfl : v = M := by omega
                  have hvN : ¬ ((v + 1 : Nat) : Int) < (k : Int) := by omega
                  by_cases hpar : zcR s v % 2 = 0
                  · have q3 : ((zcR s v : Nat) : Int).tmod 2 = 0 := by rw [Int.tmod_eq_emod_of_nonneg (by omega)]; omega
                    have q2 : (((zcR s v : Nat) : Int).tmod 2 == 0) = true := by rw [q3]; rfl
                    have Hst := Lib.hid (rgS_add (G := adj l) hpar)
                    generalize zcR s v = z at *
                    clear hpar
                    go_wp2
                    go_roundg (K - (s + 1))
                    case measure => go_light; omega
                    case rel => exact ⟨s + 1, wrap64 (x + vy), by omega, rfl, by go_num, rfl, by rw [← wI_64, Hx.out, ← Hvy.out, wI_add, Hst.out, HN1.out], Hb9.out⟩
                  · have q3 : ((zcR s v : Nat) : Int).tmod 2 = 1 := by rw [Int.tmod_eq_emod_of_nonneg (by omega)]; omega
                    have q2 : (((zcR s v : Nat) : Int).tmod 2 == 0) = false := by rw [q3]; rfl
                    have Hst := Lib.hid (rgS_sub (G := adj l) hpar)
                    generalize zcR s v = z at *
                    clear hpar
                    go_wp2
                    go_roundg (K - (s + 1))
                    case measure => go_light; omega
                    case rel => exact ⟨s + 1, wrap64 (x - vy), by omega, rfl, by go_num, rfl, by rw [← wI_64, Hx.out, ← Hvy.out, wI_sub2, Hst.out, HN1.out], Hb9.out⟩
        · obtain rfl : s = K := by omega
          have H9 := Lib.hid (H4.out.below Hb.out)
          have b0 := H9.out.hz.cell (show 0 < 2 by omega)
          have b1 := H9.out.hz.cell (show 1 < 2 by omega)
          have d0 := H9.out.hz.frozen 0
          have d1 := H9.out.hz.frozen 1
          have hBl := H9.out.hz.lt
          go_wp2
          obtain ⟨e0, e1, e2⟩ := H9.out.put (.int .i64 0) (.int .i64 0)
          exact bodyPost_ret (v := .tuple #[.int .i64 (wrap64 (Int.tdiv x 2)), .agg #[.int .i64 0, .int .i64 0]]) (by simp [results, Try.results21, go_sem, e0, e1]) rfl ⟨0, 0, _, rfl, Hsp.out, e2, Or.inr ⟨rfl, rfl, N, rfl, by
            have h1 : rgS M (adj l) s = rngN (M + 1) (adj l) (fun u => decide (u = 0)) M 0 := by rw [HPe.out]; exact rings_law (by omega)
            rw [if_neg h3, Hx.out, h1, show N - 1 = M by omega, HN1.out]⟩⟩
  · have q : (c != 0) = true := by simp [hc]
    have Hc := Lib.hid hc
    clear hc
    have b0 := H3.out.hz.cell (show 0 < 2 by omega)
    have b1 := H3.out.hz.cell (show 1 < 2 by omega)
    have d0 := H3.out.hz.frozen 0
    have d1 := H3.out.hz.frozen 1
    have hBl := H3.out.hz.lt
    go_wp2
    go_region
    all_goals
      obtain ⟨e0, e1, e2⟩ := H3.out.put (.int .i64 c) (.int .i64 a)
      go_wp2
      exact bodyPost_ret (v := .tuple #[.int .i64 0, .agg #[.int .i64 c, .int .i64 a]]) (by simp [results, Try.results21, go_sem, e0, e1]) rfl ⟨c, a, _, rfl, Hsp.out, e2.drew, Or.inl ⟨Hc.out, rfl⟩⟩

end Go.Proofs.Ytmhcnekbfngafaa
