/- poly.Tutte: the walk. -/
import Derived.Test.YtmhcnekbfngafaaTutteP
import Derived.Test.YtmhcnekbfngafaaFVar
import Derived.Deep.RegionHeld3
namespace Go.Proofs.Ytmhcnekbfngafaa
open Go Go.RowKit Go.Maps

theorem pfault_any (c a : Int) (w : World) :
    Calls Try.prog 48 #[.int .i64 c, .int .i64 a] w fun e w' => e = .returned (.agg #[.int .i64 c, .int .i64 a]) ∧ w.alloc (.cells #[.int .i64 c, .int .i64 a] 27) = w' := by
  go_enter Try.func48, Try.ntmps48
  go_wp2
  exact bodyPost_ret (v := .agg #[.int .i64 c, .int .i64 a]) (by simp [results, Try.results48, go_sem]) rfl ⟨rfl, rfl⟩
theorem upL_row {w : World} {U N : Nat} (h : w.rowIs U 3 N (rn id)) (hN : N ≤ 1000) : IsInts w (.slice (some ⟨U, 0, none⟩) N N) (upL N id) := IsInts.ofRow (f := fun i => ((id i : Nat) : Int)) h (by omega)

set_option maxHeartbeats 6400000 in
set_option maxRecDepth 100000 in
theorem tutteP_any (n : Int) (l : List (Int × Int)) (sv : Value) (w : World) (h : IsEdges w sv l) :
    Calls Try.prog 13 #[.agg #[.int .i64 n, sv]] w (TuttePost n l w) := by
  obtain ⟨ad, cap, rfl⟩ : ∃ ad cap, sv = .slice ad l.length cap := by
    obtain ⟨a, c, _, _, rfl, _⟩ := h
    exact ⟨a, c, rfl⟩
  have hg := GRes.start w n (.slice ad l.length cap)
  have He := Lib.hid h; have Hg := Lib.hid hg
  have cn := hg.cn
  have cs := hg.cs
  clear h hg
  go_enter Try.func13, Try.ntmps13
  go_upto_region 1 with fail
  generalize (w.alloc (Obj.cells #[.int .i64 n, .slice ad l.length cap] 24)).alloc (Obj.cells #[Value.int IntKind.i64 0, Value.int IntKind.i64 0] 27) = w1 at *
  go_upto_region 2 with (go_at_call 47; refine (gcheck_any l n _ w1 (He.out.below Hg.out.hb)).mono ?_; rintro e w2 ⟨c, a, hsp, rfl, hb2⟩; have Hsp := Lib.hid hsp; have H3 := Lib.hid (Hg.out.below (upp0 hb2 (below1 w2 (Obj.cells #[.int .i64 c, .int .i64 a] 27)))); have F3 := Lib.hid (FV.new w2 c a); clear hsp hb2)
  generalize w2.alloc (Obj.cells #[.int .i64 c, .int .i64 a] 27) = w3 at *
  generalize w2.heap.size = F at *
  clear cn cs Hg
  have cn := H3.out.cn
  have cs := H3.out.cs
  have hAB := H3.out.hA
  obtain ⟨f0, f1, -, -, -⟩ := F3.out.facts
  have b0 := H3.out.hz.cell (show 0 < 2 by omega)
  have b1 := H3.out.hz.cell (show 1 < 2 by omega)
  have d0 := H3.out.hz.frozen 0
  have d1 := H3.out.hz.frozen 1
  have hBl := H3.out.hz.lt
  by_cases hc : c = 0
  · subst hc
    obtain ⟨hgood, rfl⟩ := Hsp.out.good
    have hn0 := hgood.lo
    have hn1 := hgood.hi
    have hl1 := hgood.len
    obtain ⟨N, rfl⟩ := Int.eq_ofNat_of_zero_le hn0
    have HE := Lib.hid hgood.ends
    have hN : N ≤ 100 := by omega
    clear hgood hn0 hn1
    by_cases h12 : 12 < l.length
    · have q12 : (l.length : Int) > 12 := by omega
      go_wp2_with fail
      refine (pfault_any 2 0 w3).mono ?_
      rintro e w4 ⟨rfl, rfl⟩
      have H4 := Lib.hid (H3.out.alloc (.cells #[.int .i64 2, .int .i64 0] 27))
      clear b0 b1 d0 d1 hBl
      have b0 := H4.out.hz.cell (show 0 < 2 by omega)
      have b1 := H4.out.hz.cell (show 1 < 2 by omega)
      have d0 := H4.out.hz.frozen 0
      have d1 := H4.out.hz.frozen 1
      have hBl := H4.out.hz.lt
      go_wp2
      obtain ⟨e0, e1, e2⟩ := H4.out.put (.int .i64 2) (.int .i64 0)
      exact bodyPost_ret (v := .tuple #[.slice none 0 0, .agg #[.int .i64 2, .int .i64 0]]) (by simp [results, Try.results13, go_sem, e0, e1]) rfl ⟨2, 0, _, [], rfl, IsRows.nil _, Or.inr (Or.inl ⟨Hsp.out, h12, rfl, rfl, rfl⟩), e2⟩
    · have hmk := run_make_row' (P := Try.prog) 39 3 (.int .i64 0) 8 Try.underlying39 info3 rfl .i64 .i64 N (by omega) (by omega)
      have hl12 : l.length ≤ 12 := by omega
      have q12 : ¬ (l.length : Int) > 12 := by omega
      clear h12
      go_upto_region 7 with fail
      clear f0 f1 hmk q12 b0 b1 d0 d1 hBl
      have Hu := Lib.hid ((World.rowIs_made w3 (.int .i64 0) N 3).congr (g := rn fun _ => 0) fun _ _ => rfl)
      have H4 := Lib.hid (H3.out.alloc (.cells (madeCells #[.int .i64 0] N) 3))
      have hU4 : w3.heap.size < (w3.alloc (.cells (madeCells #[.int .i64 0] N) 3)).heap.size := by simp
      have hwU : w.heap.size + 1 < w3.heap.size := H3.out.hz.lt
      clear cn cs
      generalize w3.alloc (.cells (madeCells #[.int .i64 0] N) 3) = w4 at *
      generalize w3.heap.size = U at *
      go_wp2
      go_loopg [6, 31] N (fun g s6 s31 wr => ∃ k : Nat, k ≤ N ∧ g = N - k ∧ s31 = .int .i64 (k : Int) ∧ wr.rowIs U 3 N (rn fun v => if v < k then v else 0) ∧ Below U w4 wr)
      case atStart => exact ⟨0, Nat.zero_le _, rfl, rfl, row_rn Hu.out fun k _ => by simp, Below.refl _ _⟩
      case round =>
        obtain ⟨k, hk, rfl, rfl, hr, hb⟩ := hrel
        have Hr := Lib.hid hr; have Hb := Lib.hid hb
        by_cases hkN : k < N
        · have t1 := hr.cell hkN
          have f1 := hr.frozen k
          have l1 := hr.lt
          clear hr hb
          go_wp2
          go_roundg (N - (k + 1))
          case measure => go_light; omega
          case rel => exact ⟨k + 1, by omega, rfl, by go_num, row_rn (row_set_rn Hr.out k k) fun v _ => (by
            by_cases e : v = k
            · subst e; rw [if_pos rfl, if_pos (by omega)]
            · rw [if_neg e]
              by_cases e2 : v < k
              · rw [if_pos e2, if_pos (by omega)]
              · rw [if_neg e2, if_neg (by omega)]), Hb.out.setCell (p := ⟨U, k, none⟩) (Nat.le_refl _) _⟩
        · obtain rfl : N = k := by omega
          have B5 := Lib.hid (show Below w.heap.size w wr from H4.out.hb.trans (hb.mono (by omega)))
          have cs := below_cell' hb (show w.heap.size < U by omega) H4.out.cs
          have Hz := Lib.hid (H4.out.hz.of_block (hb.block _ (by omega)))
          have Hi := Lib.hid (upL_row (row_rn hr fun v hv => by rw [if_pos hv]; rfl) (by omega))
          clear hr hb Hr Hb
          obtain ⟨M, hM⟩ : ∃ M : Nat, M = 2 ^ l.length := ⟨_, rfl⟩
          have hltz := Hz.out.lt
          have hM1 : M ≤ 4096 := by rw [hM]; exact pow_few hl12
          have HM := Lib.hid hM
          clear hM
          go_wp2_with fail
          refine (tutte_any (N := N) hN l id id _ _ wr (Forest.start N) HE.out hl12 Hi.out (He.out.below B5.out)).mono ?_
          rintro e w6 ⟨b, rfl, hb, ht, hbw⟩
          have B6 := Lib.hid (upp0 B5.out hbw)
          have Hz := Lib.hid (Hz.out.of_block (hbw.block _ Hz.out.lt))
          have hbb : w.heap.size ≤ b := by have := B5.out.size; omega
          have hbz : b ≠ w.heap.size + 1 := by omega
          rw [← HM.out] at ht
          obtain ⟨DT, hown, hh⟩ := ht
          have hltb := hown.lt
          have HD := Lib.hid hh; have Hown := Lib.hid hown
          have Hfar := Lib.hid (fun i j => tut_farl id l i j)
          obtain ⟨T, hT⟩ : ∃ T, T = tutN id (elN l) := ⟨_, rfl⟩
          rw [← hT] at HD Hfar
          have HT := Lib.hid hT
          clear hbw hh hT cs Hi
          have hsz6 := B6.out.size
          go_upto_region 14 with fail
          go_wp2_with (at_range; refine wpList_range_own _ rfl _ 75 rfl 61 3 pairKeyed Try.underlying75 _ b M DT rfl hown ?_; intro w0 hrg0 hg0 hs0)
          go_frame
          go_loopw [8, 9] (fun s8 s9 wr => ∃ (left : Lit → Bool) (cnt R C : Nat), s8 = .int .i64 (R : Int) ∧ s9 = .int .i64 (C : Int) ∧ DimI T l.length left R C ∧ (∀ l, left l = true → Maps.has DT l = true) ∧ wr.ranges Try.prog 61 (plainElem Try.prog 3) b w6.heap.size M DT left cnt ∧ Below w6.heap.size w6 wr) (fun _ _ wr => wr.rangeLeft b w6.heap.size)
          case atStart => exact ⟨_, _, 0, 0, rfl, rfl, DimI.start HD.out Hfar.out (by omega), fun _ h => h, hrg0, ⟨hg0.os, hg0.tape, hg0.output, hg0.size, fun i hi => hg0.block i hi (by simp)⟩⟩
          case round =>
            obtain ⟨left, cnt, R, C, rfl, rfl, hdim, hhas, hrg, hb6⟩ := hrel
            have Hdim := Lib.hid hdim; have Hhas := Lib.hid hhas; have Hb6 := Lib.hid hb6; have Hrg := Lib.hid hrg
            have hfew := hdim.few
            clear hdim hhas hb6
            go_wp2_with (first
              | (at_next; refine wpList_next_ranges _ rfl _ rfl 61 pairKeyed _ (fun x : Int × Int => pairV x.1 x.2) (Value.int .i64) (fun key kl h => pair_inv h) (fun v y h => plain_inv v y h) b w6.heap.size M DT _ _ rfl hrg ?_ ?_)
              | go_in)
            · intro hc0 hl0
              have Hdims := Lib.hid (Hdim.out.dims hl0)
              have hownR := hrg.owns
              have hbR : b < wr.heap.size := hownR.lt
              have BR := Lib.hid (upp0 B6.out Hb6.out)
              have hzR := Hz.out.of_block (Hb6.out.block _ Hz.out.lt)
              have HzR := Lib.hid hzR; have HownR := Lib.hid hownR
              have hzl := hzR.lt
              have hmk := run_make_row' (P := Try.prog) 30 39 (.slice none 0 0) 24 Try.underlying30 infoS rfl .i64 .i64 R (by omega) (by omega)
              have hmk2 := run_make_row' (P := Try.prog) 39 3 (.int .i64 0) 8 Try.underlying39 info3 rfl .i64 .i64 C (by omega) (by omega)
              clear hrg hownR hzR
              go_upto_region 20 with fail
              have hrowO := World.rowIs_made wr (.slice none 0 0) R 39
              have OS := Lib.hid (show OutSt w6 (wr.alloc (.cells (madeCells #[.slice none 0 0] R) 39)) wr.heap.size R C 0 T (fun _ => 0) from ⟨upp0 Hb6.out (below1 wr _), hrowO.congr fun i _ => by simp, Hb6.out.size, fun i hi => by omega⟩)
              have hwO : wr.heap.size < (wr.alloc (.cells (madeCells #[.slice none 0 0] R) 39)).heap.size := by simp
              have BO := Lib.hid (show Below wr.heap.size wr (wr.alloc (.cells (madeCells #[.slice none 0 0] R) 39)) from below1 wr _)
              clear hrowO hmk
              generalize wr.alloc (.cells (madeCells #[.slice none 0 0] R) 39) = w9 at *
              obtain ⟨O, hO⟩ : ∃ O, O = wr.heap.size := ⟨_, rfl⟩
              rw [← hO] at OS BO hwO hbR hzl ⊢
              have HO := Lib.hid hO
              clear hO
              go_wp2
              obtain ⟨wx, rfl⟩ : ∃ wx : World, wx = wr := ⟨_, rfl⟩
              go_loopg [66] R (fun g s66 wr => ∃ (k : Nat) (Rb : Nat → Nat), k ≤ R ∧ g = R - k ∧ s66 = .int .i64 (k : Int) ∧ OutSt w6 wr O R C k T Rb ∧ Below O wx wr)
              case atStart => exact ⟨0, _, Nat.zero_le _, rfl, rfl, OS.out, BO.out⟩
              case round =>
                obtain ⟨k, Rb, hk, rfl, rfl, hst, hbO⟩ := hrel
                have Hst := Lib.hid hst; have HbO := Lib.hid hbO
                by_cases hkR : k < R
                · have t1 := (hst.row.cell hkR)
                  simp only [Nat.lt_irrefl, if_false] at t1
                  have f1 := hst.row.frozen k
                  have l1 := hst.row.lt
                  have t1a : (wr.alloc (.cells (madeCells #[.int .i64 0] C) 3)).cell? ⟨O, k, none⟩ = some (.slice none 0 0) := below_cell (below1 wr _) t1
                  have OQ0 := Lib.hid hst.begin
                  have hbq := ((hbO.trans ((below1 wr (.cells (madeCells #[.int .i64 0] C) 3)).mono (by omega))).setCell (p := ⟨O, k, none⟩) (Nat.le_refl _) (.slice (some ⟨wr.heap.size, 0, none⟩) C C))
                  rw [World.setCell_alloc_past (w := wr) _ O k _ l1] at hbq
                  have BQ0 := Lib.hid hbq
                  clear hbq
                  clear hst hbO
                  go_upto_region 24 with fail
                  clear t1 t1a f1
                  generalize (wr.setCell ⟨O, k, none⟩ (.slice (some ⟨wr.heap.size, 0, none⟩) C C)).alloc (.cells (madeCells #[.int .i64 0] C) 3) = w10 at *
                  generalize wr.heap.size = A at *
                  have tO := OQ0.out.row.cell hkR
                  simp only [Nat.lt_irrefl, if_false, if_true] at tO
                  go_wp2
                  clear tO
                  obtain ⟨wy, rfl⟩ : ∃ wy : World, wy = w10 := ⟨_, rfl⟩
                  go_loopg [79] C (fun g s79 wr => ∃ q : Nat, q ≤ C ∧ g = C - q ∧ s79 = .int .i64 (q : Int) ∧ OutQ w6 wr O R C k q T Rb A ∧ Below O wx wr)
                  case atStart => exact ⟨0, Nat.zero_le _, rfl, rfl, OQ0.out, BQ0.out⟩
                  case round =>
                    obtain ⟨q, hq, rfl, rfl, hoq, hbq⟩ := hrel
                    have Hoq := Lib.hid hoq; have Hbq := Lib.hid hbq
                    by_cases hqC : q < C
                    · have tO := hoq.row.cell hkR
                      simp only [Nat.lt_irrefl, if_false, if_true] at tO
                      have tO' : wr.drew.cell? ⟨O, k, none⟩ = some (.slice (some ⟨A, 0, none⟩) C C) := tO
                      have tA : wr.drew.cell? ⟨A, q, none⟩ = some (.int .i64 0) := by
                        have := hoq.ra.cell hqC
                        simp only [ri, Nat.lt_irrefl, if_false] at this
                        exact this
                      have fA : wr.drew.frozen? ⟨A, q, none⟩ = false := hoq.ra.frozen q
                      have lA : A < wr.drew.heap.size := hoq.ra.lt
                      have nAO : A ≠ O := hoq.la.2
                      have tO2 : (wr.drew.setCell ⟨A, q, none⟩ (.int .i64 (T k q))).cell? ⟨O, k, none⟩ = some (.slice (some ⟨A, 0, none⟩) C C) := by
                        rw [World.cell?_setCell_far _ _ _ _ (show A ≠ O from nAO)]; exact tO
                      obtain ⟨lk, hlk⟩ := key_ex (i := k) (j := q) (by omega) (by omega)
                      have hmapq : wr.drew.ownsMap Try.prog 61 (plainElem Try.prog 3) b M DT := (own_blk HownR.out (hbq.block b hbR)).drew
                      obtain ⟨c, hrun, hat, -⟩ := hmapq.lookup_int pairKeyed Try.underlying75 Try.underlying3 (zero_run _) (show keyOf _ _ _ = some lk from hlk)
                      rw [HD.out.at' k q lk hlk] at hat
                      simp only [DataW.lit.injEq, Lit.int.injEq, true_and] at hat
                      rw [← hat] at hrun
                      unfold pairV at hrun
                      have Hop := Lib.hid hoq.drew.put
                      have Hbp := Lib.hid (hbq.drew.setCell (p := ⟨A, q, none⟩) (show O ≤ A by omega) (.int .i64 (T k q)))
                      generalize T k q = x at *
                      clear hoq hbq hmapq hlk hat tO
                      go_upto_region 27 with fail
                      go_region_held3 (fun w' => w'.cell? ⟨O, k, none⟩ = some (.slice (some ⟨A, 0, none⟩) C C)) (first | exact tO' | exact tO2) (fail)
                      go_wp2
                      go_roundg (C - (q + 1))
                      case measure => go_light; omega
                      case rel => exact ⟨q + 1, by omega, rfl, by go_num, Hop.out, Hbp.out⟩
                    · obtain rfl : C = q := by omega
                      have Hos := Lib.hid hoq.done
                      clear hoq hbq
                      go_wp2
                      go_roundg (R - (k + 1))
                      case measure => go_light; omega
                      case rel => exact ⟨k + 1, _, by omega, rfl, by go_num, Hos.out, Hbq.out⟩
                · obtain rfl : R = k := by omega
                  have Hrows := Lib.hid (hst.set (by omega) (by omega) (show w.heap.size + 1 < w6.heap.size by omega) (.int .i64 0) (.int .i64 0))
                  have Bend := Lib.hid (((upp0 BR.out (show Below wx.heap.size wx wr by rw [← HO.out]; exact hbO)).setCell (p := ⟨w.heap.size + 1, 0, none⟩) (show w.heap.size ≤ w.heap.size + 1 by omega) (.int .i64 0)).setCell (p := ⟨w.heap.size + 1, 1, none⟩) (show w.heap.size ≤ w.heap.size + 1 by omega) (.int .i64 0))
                  have e0 := (((HzR.out.of_block (hbO.block _ hzl)).set 0 (.int .i64 0)).set 1 (.int .i64 0)).cell (show 0 < 2 by omega)
                  have e1 := (((HzR.out.of_block (hbO.block _ hzl)).set 0 (.int .i64 0)).set 1 (.int .i64 0)).cell (show 1 < 2 by omega)
                  have E := Lib.hid (And.intro e0 e1)
                  clear e0 e1
                  have hz := HzR.out.of_block (hbO.block _ hzl)
                  have c0 := hz.cell (show 0 < 2 by omega)
                  have c1 := hz.cell (show 1 < 2 by omega)
                  have d0 := hz.frozen 0
                  have d1 := hz.frozen 1
                  have hBl := hz.lt
                  clear hst hbO hz
                  go_wp2
                  obtain ⟨e0, e1⟩ := E.out
                  exact bodyPost_ret (v := .tuple #[.slice (some ⟨O, 0, none⟩) R R, .agg #[.int .i64 0, .int .i64 0]]) (by simp [results, Try.results13, go_sem, e0, e1]) rfl ⟨0, 0, _, _, rfl, Hrows.out, Or.inr (Or.inr ⟨Hsp.out, hl12, rfl, rfl, R, C, by rw [← HT.out]; exact Hdims.out, by rw [HT.out]⟩), Bend.out⟩
            · intro x1 x2 c kl y1 y2 w1' cnt1 hkey hlk hR hat hrg1 hlt1 hg1 hs1 hen
              obtain ⟨i, j, hi, hj, hkp, hx, hcU⟩ := met_key (x := (x1, x2)) (y := (y1, y2)) HD.out hkey (Hhas.out kl hlk) hR hat
              obtain ⟨rfl, rfl⟩ := Prod.mk.inj hx
              have Hen := Lib.hid hen; have Hrg1 := Lib.hid hrg1; have Hkp := Lib.hid hkp; have HcU := Lib.hid hcU; have Hlt1 := Lib.hid hlt1
              have cells := two_cells w1' (.int .i64 (i : Int)) (.int .i64 (j : Int)) 61
              have hnx : Below w6.heap.size w6 w1' := Hb6.out.grown hg1 Hb6.out.size (fun g e => by cases e; exact Nat.le_refl _)
              have Hnx := Lib.hid (hnx.trans ((below1 w1' (.cells #[.int .i64 (i : Int), .int .i64 (j : Int)] 61)).mono hnx.size))
              have Hrk := Lib.hid (Hrg1.out.alloc (.cells #[.int .i64 (i : Int), .int .i64 (j : Int)] 61))
              have Hhas2 := Lib.hid (show ∀ l, (left l && !l.sameKey kl) = true → Maps.has DT l = true from fun l hl => Hhas.out l (by simp only [Bool.and_eq_true] at hl; exact hl.1))
              clear hkey hR hat hrg1 hlt1 hg1 hkp hx hcU hrg hnx hen hs1
              have hen := Hen.out
              go_upto_region 17 with fail
              obtain ⟨cx, cy⟩ := cells
              generalize w1'.alloc (.cells #[.int .i64 (i : Int), .int .i64 (j : Int)] 61) = w8 at *
              generalize w1'.heap.size = A at *
              clear hen
              by_cases hc0 : c = 0
              · have q : (c != 0) = false := by simp [hc0]
                have H0 := Lib.hid (show T i j = 0 by rw [← HcU.out]; exact hc0)
                clear hc0
                go_wp2
                go_roundw
                case rel => exact ⟨_, cnt1, R, C, rfl, rfl, Hdim.out.none Hkp.out H0.out, Hhas2.out, Hrk.out, Hnx.out⟩
                case measure => rw [Hrk.out.left_eq, Hrg.out.left_eq]; exact Hlt1.out
              · have q : (c != 0) = true := by simp [hc0]
                have H0 := Lib.hid (show T i j ≠ 0 by rw [← HcU.out]; exact hc0)
                clear hc0
                go_wp2
                go_quiet (fail)
                go_wp2
                refine ⟨⟨_, cnt1, max R (i + 1), max C (j + 1), ?_, ?_, Hdim.out.more Hkp.out H0.out hi hj, Hhas2.out, Hrk.out, Below.drewN' Hnx.out nq⟩, ?_⟩
                · congr 1; split <;> omega
                · congr 1; split <;> omega
                · have h1 := Hrk.out.left_eq
                  have h2 : (w8.drewN nq).rangeLeft b w6.heap.size = w8.rangeLeft b w6.heap.size := rfl
                  rw [h2, h1, Hrg.out.left_eq]; exact Hlt1.out
  · have q : (c != 0) = true := by simp [hc]
    have Hc := Lib.hid hc
    clear hc
    go_wp2
    go_region
    all_goals
      obtain ⟨e0, e1, e2⟩ := H3.out.put (.int .i64 c) (.int .i64 a)
      go_wp2
      exact bodyPost_ret (v := .tuple #[.slice none 0 0, .agg #[.int .i64 c, .int .i64 a]]) (by simp [results, Try.results13, go_sem, e0, e1]) rfl ⟨c, a, _, [], rfl, IsRows.nil _, Or.inl ⟨Hsp.out, Hc.out, rfl⟩, e2.drew⟩

end Go.Proofs.Ytmhcnekbfngafaa
