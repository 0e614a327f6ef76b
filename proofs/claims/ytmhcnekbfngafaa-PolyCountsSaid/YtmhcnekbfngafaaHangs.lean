/- poly.hangs. -/
import Derived.Test.YtmhcnekbfngafaaTop
import Derived.Test.YtmhcnekbfngafaaBMap
import Derived.Deep.Light
import Derived.Deep.Modes
namespace Go.Proofs.Ytmhcnekbfngafaa
open Go Go.RowKit Go.Maps

theorem upp0 {a b c : World} (h : Below a.heap.size a b) (k : Below b.heap.size b c) : Below a.heap.size a c := h.trans (k.mono h.size)

set_option maxHeartbeats 6400000 in
set_option maxRecDepth 100000 in
theorem hangs_any {N : Nat} {u c : Nat → Nat} (hF : Forest N u c) (hN : N ≤ 100) {l : List (Int × Int)} (hL : EndsN N l) (hl : l.length ≤ 1000) {a b : Nat} (ha : a < N) (hb : b < N) (uv ev : Value) (w : World) (hu : IsInts w uv (upL N u)) (he : IsEdges w ev l) :
    Calls Try.prog 73 #[uv, ev, .int .i64 (a : Int), .int .i64 (b : Int)] w fun e w' => e = .returned (.bool (decide (Hang c (elN l) (a, b)))) ∧ Below w.heap.size w w' := by
  obtain ⟨ad, cap, bb, o, rfl, -, -, hadr, -, hcell⟩ := he
  have hmm := @run_makeMap Try.prog
  have hb1 := below1 w (.map #[] 0)
  have hm1 := BMap.made w
  have hs1 : (w.alloc (.map #[] 0)).heap.size = w.heap.size + 1 := by simp
  have ca := hF.can.lt a ha
  obtain ⟨w2, hput, hm2, hg2⟩ := hm1.put (v := c a) (by omega) (by omega) true
  have Hput := Lib.hid hput; have Hm2 := Lib.hid hm2; have HF := Lib.hid hF; have Hu := Lib.hid hu; have Hc := Lib.hid hcell; have Hadr := Lib.hid hadr; have HL := Lib.hid hL
  have Hb2 := Lib.hid (hb1.grown hg2 (by omega) (fun g e => by cases e; exact Nat.le_refl _))
  have Hb1 := Lib.hid hb1
  clear hput hm2 hF hu hcell hadr hL hb1 hm1 hg2
  go_enter Try.func73, Try.ntmps73
  go_wp2_with fail
  generalize hW1 : w.alloc (.map #[] 0) = w1 at *
  refine (top_any HF.out hN ha uv w1 (Hu.out.below Hb1.out)).mono ?_
  rintro e w1' ⟨rfl, rfl⟩
  have hput := Hput.out
  go_wp2
  clear hput
  have hst := HgP.init (L := elN l) HF.out.can ha
  have Hst := Lib.hid hst
  have hcan := HF.out.can
  have Hcan := Lib.hid hcan
  have Hel := Lib.hid HL.out.el
  clear hst hcan hmm
  generalize hBB : w.heap.size = B at *
  go_loopg [10] (2 * (N - cnt (fun v => decide (v = c a)) N) + 1) (fun g s10 wr => ∃ (ag : Bool) (n : Nat) (I : Nat → Bool), s10 = .bool ag ∧ g = 2 * (N - cnt I N) + ag.toNat ∧ n ≤ 1 + 2 * cnt I N ∧ BMap wr B n I ∧ HgP N c (elN l) a I I false (if ag then 0 else (elN l).length) ∧ Below B w wr)
  case atStart =>
    have hle := cnt_le (fun v => decide (v = c a)) N
    refine ⟨true, 1, fun v => decide (v = c a), rfl, rfl, by omega, Hm2.out.congr fun v => ?_, Hst.out, Hb2.out⟩
    by_cases e : v = c a
    · simp [e]
    · simp [e]
  case round =>
    obtain ⟨ag, n, I, rfl, rfl, hn, hm, hg, hbw⟩ := hrel
    have Hm := Lib.hid hm; have Hg := Lib.hid hg; have Hbw := Lib.hid hbw
    clear hm hg hbw
    have hcl := cnt_le I N
    cases ag
    · go_wp2_with fail
      refine (top_any HF.out hN hb uv wr (Hu.out.below (by rw [hBB]; exact Hbw.out))).mono ?_
      rintro e w3 ⟨rfl, rfl⟩
      have hlk := Hm.out.look (v := c b) (by have := Hcan.out.lt b hb; omega)
      have hfin := (show HgP N c (elN l) a I I false (elN l).length by simpa using Hg.out).fin Hcan.out hb
      have Hfin := Lib.hid hfin
      clear hfin
      go_wp2
      go_ret
      exact ⟨ret_bool Hfin.out, by rw [hBB]; exact Hbw.out⟩
    · go_wp2
      obtain ⟨w5, rfl⟩ : ∃ w5 : World, w5 = wr := ⟨_, rfl⟩
      go_loopg [10, 23] l.length (fun g s10 s23 wr => ∃ (k n2 : Nat) (ag2 : Bool) (I2 : Nat → Bool), k ≤ l.length ∧ g = l.length - k ∧ s10 = .bool ag2 ∧ s23 = .int .i64 (k : Int) ∧ n2 ≤ 1 + 2 * cnt I2 N ∧ BMap wr B n2 I2 ∧ HgP N c (elN l) a I I2 ag2 k ∧ Below B w wr)
      case atStart => exact ⟨0, n, false, I, Nat.zero_le _, rfl, rfl, rfl, hn, Hm.out, Hg.out, Hbw.out⟩
      case round =>
        obtain ⟨k, n2, ag2, I2, hk, rfl, rfl, rfl, hn2, hm2, hg2, hb2⟩ := hrel
        have Hm2 := Lib.hid hm2; have Hg2 := Lib.hid hg2; have Hb2 := Lib.hid hb2
        have hcl2 := cnt_le I2 N
        clear hm2 hg2 hb2
        by_cases hkl : k < l.length
        · obtain ⟨x, y, hxy, hx, hy⟩ := HL.out.at hkl
          have Hxy := Lib.hid (elN_getD hkl hxy)
          obtain rfl := Hadr.out (by omega)
          have c1 := (Hc.out k hkl).1
          have c2 := (Hc.out k hkl).2
          rw [hxy] at c1 c2
          have bw : Below w.heap.size w wr := by rw [hBB]; exact Hb2.out
          have c1 := below_cell bw c1
          have c2 := below_cell bw c2
          have cells := two_cells wr (.int .i64 (x : Int)) (.int .i64 (y : Int)) 61
          have lx := Hcan.out.lt x hx
          have ly := Hcan.out.lt y hy
          have B6 := Lib.hid (Hb2.out.trans ((below1 wr (.cells #[.int .i64 (x : Int), .int .i64 (y : Int)] 61)).mono (by have := Hb2.out.size; omega)))
          have M6 := Lib.hid (Hm2.out.below (below1 wr (.cells #[.int .i64 (x : Int), .int .i64 (y : Int)] 61)))
          have hnew : wr.heap.size < (wr.alloc (.cells #[.int .i64 (x : Int), .int .i64 (y : Int)] 61)).heap.size := by simp
          clear hxy bw
          go_upto_region 8 with fail
          generalize wr.alloc (.cells #[.int .i64 (x : Int), .int .i64 (y : Int)] 61) = w6 at *
          generalize wr.heap.size = A at *
          obtain ⟨cx, cy⟩ := cells
          have P1 := Lib.hid (fun n : Nat => top_any HF.out hN hx uv (w6.drewN n) ((Hu.out.below (by rw [hBB]; exact B6.out)).drewN n))
          have P2 := Lib.hid (fun n : Nat => top_any HF.out hN hy uv (w6.drewN n) ((Hu.out.below (by rw [hBB]; exact B6.out)).drewN n))
          clear c1 c2
          go_quiet ((first | with_reducible exact Calls.quiet_of_same (P1.out _) | with_reducible exact Calls.quiet_of_same (P2.out _)))
          have hnn : n2 ≤ 1000000 := by omega
          by_cases heq : I2 (c x) = I2 (c y)
          · have lk1 := fun n : Nat => (show BMap (w6.drewN n) B n2 I2 from M6.out).look (v := c x) (by omega)
            have lk2 := fun n : Nat => (show BMap (w6.drewN n) B n2 I2 from M6.out).look (v := c y) (by omega)
            have Hk := Lib.hid (Hg2.out.skip (by rw [Hxy.out]; exact heq))
            rw [← heq] at lk2
            clear heq
            generalize I2 (c x) = bx at *
            go_wp2
            go_roundg (l.length - (k + 1))
            case measure => go_light; omega
            case rel => exact ⟨k + 1, n2, ag2, I2, by omega, rfl, rfl, by go_num, hn2, M6.out, Hk.out, Below.drewN' B6.out _⟩
          · have lk1 := fun n : Nat => (show BMap (w6.drewN n) B n2 I2 from M6.out).look (v := c x) (by omega)
            have lk2 := fun n : Nat => (show BMap (w6.drewN n) B n2 I2 from M6.out).look (v := c y) (by omega)
            have Hk := Lib.hid (Hg2.out.add Hcan.out Hel.out (by rw [elN_length]; exact hkl) (by rw [Hxy.out]; exact heq))
            have Hup := Lib.hid (hg_up (I := I2) (x := (x, y)) lx ly heq)
            have Hxy2 := Lib.hid Hxy.out
            have hbb : I2 (c y) = !I2 (c x) := by cases h1 : I2 (c x) <;> cases h2 : I2 (c y) <;> simp_all
            rw [hbb] at lk2
            obtain ⟨bx, hbx⟩ : ∃ bx, I2 (c x) = bx := ⟨_, rfl⟩
            rw [hbx] at lk1 lk2
            clear heq hbb hbx
            cases bx
            · have lk2' := lk2
              clear lk2
              have lk2 : ∀ n : Nat, (Instr.lookup 115 (.map (some B)) (.int .i64 (c y : Int)) false).run Try.prog (w6.drewN n) = .ok (.bool true) (w6.drewN n) := lk2'
              clear lk2'
              go_wp2_with (first
                | (at_mapUpdate; refine wpList_put_bool rfl _ _ _ rfl (b := B) rfl Hm7.out (v := c y) (by omega) (by omega) rfl true rfl ?_; intro w8 hm8 hg8; have Hm8 := Lib.hid hm8; have Hg8 := Lib.hid hg8; clear hm8 hg8)
                | (at_mapUpdate; refine wpList_put_bool rfl _ _ _ rfl (b := B) rfl (show BMap (w6.drewN _) B n2 I2 from M6.out) (v := c x) (by omega) hnn rfl true rfl ?_; intro w7 hm7 hg7; have Hm7 := Lib.hid hm7; have Hg7 := Lib.hid hg7; clear hm7 hg7))
              go_roundg (l.length - (k + 1))
              case measure => go_light; omega
              case rel =>
                refine ⟨k + 1, n2 + 1 + 1, true, _, by omega, rfl, rfl, by go_num, ?_, Hm8.out.congr (J := fun v => if v = c x ∨ v = c y then true else I2 v) fun v => ?_, ?_, ?_⟩
                · have := Hup.out; omega
                · by_cases e1 : v = c y
                  · simp [e1]
                  · by_cases e2 : v = c x
                    · simp [e2]
                    · simp [e1, e2]
                · have := Hk.out; rw [Hxy2.out] at this; exact this
                · have h1 := (Below.drewN' B6.out _).grown Hg7.out (by have := B6.out.size; show B ≤ w6.heap.size; omega) (fun g e => by cases e; exact Nat.le_refl _)
                  exact h1.grown Hg8.out (by rw [← hBB]; exact h1.size) (fun g e => by cases e; exact Nat.le_refl _)
            · have lk2' := lk2
              clear lk2
              have lk2 : ∀ n : Nat, (Instr.lookup 115 (.map (some B)) (.int .i64 (c y : Int)) false).run Try.prog (w6.drewN n) = .ok (.bool false) (w6.drewN n) := lk2'
              clear lk2'
              go_wp2_with (first
                | (at_mapUpdate; refine wpList_put_bool rfl _ _ _ rfl (b := B) rfl Hm7.out (v := c y) (by omega) (by omega) rfl true rfl ?_; intro w8 hm8 hg8; have Hm8 := Lib.hid hm8; have Hg8 := Lib.hid hg8; clear hm8 hg8)
                | (at_mapUpdate; refine wpList_put_bool rfl _ _ _ rfl (b := B) rfl (show BMap (w6.drewN _) B n2 I2 from M6.out) (v := c x) (by omega) hnn rfl true rfl ?_; intro w7 hm7 hg7; have Hm7 := Lib.hid hm7; have Hg7 := Lib.hid hg7; clear hm7 hg7))
              go_roundg (l.length - (k + 1))
              case measure => go_light; omega
              case rel =>
                refine ⟨k + 1, n2 + 1 + 1, true, _, by omega, rfl, rfl, by go_num, ?_, Hm8.out.congr (J := fun v => if v = c x ∨ v = c y then true else I2 v) fun v => ?_, ?_, ?_⟩
                · have := Hup.out; omega
                · by_cases e1 : v = c y
                  · simp [e1]
                  · by_cases e2 : v = c x
                    · simp [e2]
                    · simp [e1, e2]
                · have := Hk.out; rw [Hxy2.out] at this; exact this
                · have h1 := (Below.drewN' B6.out _).grown Hg7.out (by have := B6.out.size; show B ≤ w6.heap.size; omega) (fun g e => by cases e; exact Nat.le_refl _)
                  exact h1.grown Hg8.out (by rw [← hBB]; exact h1.size) (fun g e => by cases e; exact Nat.le_refl _)
        · obtain rfl : l.length = k := by omega
          go_wp2
          cases ag2
          · go_roundg (2 * (N - cnt I2 N))
            case measure => have := Hg2.out.old; rw [Bool.toNat_true]; omega
            case rel => exact ⟨false, n2, I2, rfl, by simp, hn2, Hm2.out, by simpa [elN_length] using Hg2.out.shut, Hb2.out⟩
          · go_roundg (2 * (N - cnt I2 N) + 1)
            case measure => have := Hg2.out.more rfl; rw [Bool.toNat_true]; omega
            case rel => exact ⟨true, n2, I2, rfl, by simp, hn2, Hm2.out, by simpa using Hg2.out.again, Hb2.out⟩

end Go.Proofs.Ytmhcnekbfngafaa
