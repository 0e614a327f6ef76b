/- codec.Unpack: the walk. -/
import Derived.Test.YtokjcapheogkoaaDoorUnpM
import Derived.Test.YtokjcapheogkoaaDoorMake
namespace Go.Proofs.YtokjcapheogkoaaDoor
open Go Go.RowKit

set_option maxHeartbeats 6400000 in
set_option maxRecDepth 100000 in
theorem unpack_any (b : List UInt8) (w : World) :
    Calls Tryd.prog 14 #[.string (bA b)] w (UnpPost b w) := by
  have hmf : ∀ (fn : Fn) (first cap : Array Value) (w : World), (Instr.makeFunc fn first cap).run Tryd.prog w = .ok (.func fn first cap) w := fun _ _ _ _ => rfl
  have St := Lib.hid (US.start w (bA b))
  have hix := fun i => bA_at b i
  have Hix := Lib.hid hix
  have hsz := bA_size b
  have Bit := Lib.hid (bit_any b)
  have Emp := Lib.hid (bA_empty b)
  have hsz1 : (((w.alloc (Obj.cells #[.string (bA b)] 9)).alloc (Obj.cells #[.int .i64 0, .slice none 0 0] 24)).alloc (Obj.cells #[.int .i64 0, .int .i64 0] 27)).heap.size = w.heap.size + 3 := by simp
  obtain ⟨s, hs⟩ : ∃ s, s = bA b := ⟨_, rfl⟩
  rw [← hs] at hsz hsz1 St ⊢
  rw [← hs] at Bit
  rw [← hs] at Emp
  rw [← hs] at Hix
  have Hs := Lib.hid hs
  clear hix hs
  go_enter Tryd.func14, Tryd.ntmps14
  go_upto_region 2 with fail
  generalize ((w.alloc (Obj.cells #[.string s] 9)).alloc (Obj.cells #[.int .i64 0, .slice none 0 0] 24)).alloc (Obj.cells #[.int .i64 0, .int .i64 0] 27) = w1 at *
  obtain ⟨sb, -, sl⟩ := one_facts St.out.sb
  by_cases hl : b.length ≤ 20000
  · have Hl := Lib.hid hl
    go_wp2
    go_loopg [26, 5] b.length (fun g s26 s5 wr => ∃ i : Nat, i ≤ b.length ∧ g = b.length - i ∧ s26 = .int .i64 (i : Int) ∧ (∀ j, j < i → okB (bt b j)) ∧ w1 = wr)
    case atStart => exact ⟨0, Nat.zero_le _, rfl, rfl, fun j hj => absurd hj (Nat.not_lt_zero _), rfl⟩
    case round =>
      obtain ⟨i, hi, rfl, rfl, hok, rfl⟩ := hrel
      have Hok := Lib.hid hok
      clear hok
      by_cases hlt : i < b.length
      · have hix := Hix.out i hlt
        obtain ⟨x, hx⟩ : ∃ x, x = bt b i := ⟨_, rfl⟩
        rw [← hx] at hix
        have Hx := Lib.hid hx
        clear hx
        by_cases hlo : x < 63
        · have g1 : (x : Int) < 63 := by omega
          have hu := uG_byte hl (i := i) ⟨hlt, by rw [← Hx.out]; unfold okB; omega, Hok.out⟩
          have Hu := Lib.hid hu
          clear hu hlo
          go_wp2_with fail
          refine (ufail_any 1 (i : Int) w1).mono ?_
          rintro e wz ⟨rfl, hbz⟩
          have ST := Lib.hid ((St.out).below hbz)
          clear hbz
          obtain ⟨z0, z1, f0, f1, l0⟩ := row_facts ST.out.r0
          obtain ⟨y0, y1, g0, g1, l1⟩ := row_facts ST.out.r1
          go_wp2
          obtain ⟨c0, c1, c2, c3⟩ := four_set ST.out.r0 ST.out.r1 (show w.heap.size + 1 ≠ w.heap.size + 1 + 1 by omega) (.int .i64 0) (.slice none 0 0) (.int .i64 1) (.int .i64 (i : Int))
          have hfin := four_below ST.out.hb (show w.heap.size ≤ w.heap.size + 1 by omega) (show w.heap.size ≤ w.heap.size + 1 + 1 by omega) (.int .i64 0) (.slice none 0 0) (.int .i64 1) (.int .i64 (i : Int))
          exact bodyPost_ret (v := .tuple #[.agg #[.int .i64 0, .slice none 0 0], .agg #[.int .i64 1, .int .i64 (i : Int)]]) (by simp [results, Tryd.results14, go_sem, c0, c1, c2, c3]) rfl ⟨0, [], 1, (i : Int), Hu.out, _, OwnE.nil _ _, hfin, rfl⟩
        · have g1 : ¬ (x : Int) < 63 := by omega
          by_cases hhi : 126 < x
          · have g2 : (126 : Int) < (x : Int) := by omega
            have hu := uG_byte hl (i := i) ⟨hlt, by rw [← Hx.out]; unfold okB; omega, Hok.out⟩
            have Hu := Lib.hid hu
            clear hu hlo hhi
            go_wp2_with fail
            refine (ufail_any 1 (i : Int) w1).mono ?_
            rintro e wz ⟨rfl, hbz⟩
            have ST := Lib.hid ((St.out).below hbz)
            clear hbz
            obtain ⟨z0, z1, f0, f1, l0⟩ := row_facts ST.out.r0
            obtain ⟨y0, y1, g0, g1, l1⟩ := row_facts ST.out.r1
            go_wp2
            obtain ⟨c0, c1, c2, c3⟩ := four_set ST.out.r0 ST.out.r1 (show w.heap.size + 1 ≠ w.heap.size + 1 + 1 by omega) (.int .i64 0) (.slice none 0 0) (.int .i64 1) (.int .i64 (i : Int))
            have hfin := four_below ST.out.hb (show w.heap.size ≤ w.heap.size + 1 by omega) (show w.heap.size ≤ w.heap.size + 1 + 1 by omega) (.int .i64 0) (.slice none 0 0) (.int .i64 1) (.int .i64 (i : Int))
            exact bodyPost_ret (v := .tuple #[.agg #[.int .i64 0, .slice none 0 0], .agg #[.int .i64 1, .int .i64 (i : Int)]]) (by simp [results, Tryd.results14, go_sem, c0, c1, c2, c3]) rfl ⟨0, [], 1, (i : Int), Hu.out, _, OwnE.nil _ _, hfin, rfl⟩
          · have g2 : ¬ (126 : Int) < (x : Int) := by omega
            have Hokx := Lib.hid (show okB (bt b i) by rw [← Hx.out]; unfold okB; omega)
            clear hlo hhi
            go_wp2
            go_roundg (b.length - (i + 1))
            case measure => go_light; omega
            case rel => exact ⟨i + 1, by omega, rfl, by go_num, fun j hj => by
              by_cases e : j = i
              · rw [e]; exact Hokx.out
              · exact Hok.out j (by omega), rfl⟩
      · obtain rfl : i = b.length := by omega
        have H1 := Lib.hid (U1.mk hl Hok.out)
        clear Hok
        go_upto_region 11 with fail
        have S2 := Lib.hid (show UH w (w1.alloc (Obj.cells #[.int .i64 1] 3)) s 1 from ⟨St.out.below (below1 _ _), by rw [← hsz1]; exact one_row w1 (.int .i64 1) 3⟩)
        generalize w1.alloc (Obj.cells #[.int .i64 1] 3) = w2 at *
        clear hsz1 St sb sl
        go_cut [51] from 45 to 51 (fun s51 wx => s51 = .bool (decide (hasB b 0 126)) ∧ w2 = wx)
        case first =>
          obtain ⟨sb, -, sl⟩ := one_facts S2.out.sb
          by_cases hlen : 0 < b.length
          · have hix0 : ∀ W : World, (Instr.index 9 (.string s) (.int .i64 0)).run Tryd.prog W = .ok (.int .u8 (bt b 0 : Nat)) W := fun W => Hix.out 0 hlen W
            have hne : s.toList.isEmpty = false := by
              rw [Emp.out]
              cases hb0 : b with
              | nil => rw [hb0] at hlen; simp at hlen
              | cons _ _ => rfl
            have Hd := Lib.hid (show ((bt b 0 : Int) == 126) = decide (hasB b 0 126) by
              unfold hasB
              by_cases e : bt b 0 = 126
              · simp [e, hlen]
              · simp [e]; omega)
            generalize bt b 0 = x at *
            go_wp2
            go_meet
            exact ⟨by rw [Hd.out], rfl⟩
          · have hne : s.toList.isEmpty = true := by
              rw [Emp.out]
              cases hb0 : b with
              | nil => rfl
              | cons _ _ => rw [hb0] at hlen; simp at hlen
            have Hd := Lib.hid (show false = decide (hasB b 0 126) by unfold hasB; simp [hlen])
            go_wp2
            go_meet
            exact ⟨by rw [← Hd.out], rfl⟩
        case rest =>
        obtain ⟨rfl, rfl⟩ := hcut
        obtain ⟨B, hB⟩ : ∃ B, B = decide (hasB b 0 126) := ⟨_, rfl⟩
        rw [← hB]
        have HB := Lib.hid hB
        clear hB
        obtain ⟨hbh, hfh, hlh⟩ := one_facts S2.out.hh
        go_upto_if 51 with fail
        go_cut [7] from 51 to 51 (fun s7 wx => UH w wx s (hdU b))
        case first =>
          cases B with
          | true =>
            have hd4 : hdU b = 4 := if_pos (of_decide_eq_true HB.out.symm)
            have S3 := Lib.hid (S2.out.put 4)
            rw [← hd4] at S3
            have Hd4 := Lib.hid hd4
            clear hd4
            go_wp2
            go_meet
            have := S3.out
            rw [Hd4.out] at this ⊢
            exact this
          | false =>
            have Hd1 := Lib.hid (show hdU b = 1 from if_neg (of_decide_eq_false HB.out.symm))
            go_wp2
            go_meet
            rw [Hd1.out]
            exact S2.out
        case rest =>
        have S3 := Lib.hid hcut
        clear hcut hbh hfh hlh S2
        obtain ⟨w3, rfl⟩ : ∃ w3 : World, w3 = wc := ⟨_, rfl⟩
        obtain ⟨hd, hhd⟩ : ∃ hd, hd = hdU b := ⟨_, rfl⟩
        rw [← hhd] at S3
        have hd14 : hd = 1 ∨ hd = 4 := by rw [hhd]; unfold hdU; split <;> simp
        have Hhd := Lib.hid hhd
        clear hhd
        obtain ⟨sb, -, sl⟩ := one_facts S3.out.sb
        obtain ⟨hh, hhf, hhl⟩ := one_facts S3.out.hh
        by_cases hsh : b.length < hd
        · have g4 : (b.length : Int) < (hd : Int) := by omega
          have Hu := Lib.hid (H1.out.short (by rw [← Hhd.out]; exact hsh))
          clear hsh
          go_wp2_with fail
          refine (ufail_any 1 (b.length : Int) w3).mono ?_
          rintro e wz ⟨rfl, hbz⟩
          have ST := Lib.hid ((S3.out.toUS).below hbz)
          clear hbz
          obtain ⟨z0, z1, f0, f1, l0⟩ := row_facts ST.out.r0
          obtain ⟨y0, y1, g0, g1, l1⟩ := row_facts ST.out.r1
          go_wp2
          obtain ⟨c0, c1, c2, c3⟩ := four_set ST.out.r0 ST.out.r1 (show w.heap.size + 1 ≠ w.heap.size + 1 + 1 by omega) (.int .i64 0) (.slice none 0 0) (.int .i64 1) (.int .i64 (b.length : Int))
          have hfin := four_below ST.out.hb (show w.heap.size ≤ w.heap.size + 1 by omega) (show w.heap.size ≤ w.heap.size + 1 + 1 by omega) (.int .i64 0) (.slice none 0 0) (.int .i64 1) (.int .i64 (b.length : Int))
          exact bodyPost_ret (v := .tuple #[.agg #[.int .i64 0, .slice none 0 0], .agg #[.int .i64 1, .int .i64 (b.length : Int)]]) (by simp [results, Tryd.results14, go_sem, c0, c1, c2, c3]) rfl ⟨0, [], 1, (b.length : Int), Hu.out, _, OwnE.nil _ _, hfin, rfl⟩
        · have g4 : ¬ (b.length : Int) < (hd : Int) := by omega
          have H2 := Lib.hid (U2.mk H1.out (by rw [← Hhd.out]; exact hsh))
          have hlen : 0 < b.length := by omega
          have hix0 : ∀ W : World, (Instr.index 9 (.string s) (.int .i64 0)).run Tryd.prog W = .ok (.int .u8 (bt b 0 : Nat)) W := fun W => Hix.out 0 hlen W
          have hok0 := H2.out.ok 0 hlen
          unfold okB at hok0
          obtain ⟨x, hx⟩ : ∃ x, x = bt b 0 := ⟨_, rfl⟩
          rw [← hx] at hix0 hok0
          have Hx := Lib.hid hx
          obtain ⟨x1, x2⟩ := hok0
          obtain ⟨n0, hn0⟩ : ∃ n0, n0 = x - 63 := ⟨_, rfl⟩
          have e0 : (x : Int) - 63 = (n0 : Int) := by omega
          have hn63 : n0 ≤ 63 := by omega
          have Hn0 := Lib.hid hn0
          clear hx hn0 hlen
          go_upto_if 67 with fail
          go_cut [7] from 67 to 88 (fun s7 wx => s7 = .int .i64 (nU b : Int) ∧ UH w wx s hd ∧ U3 b)
          case first =>
            by_cases h4 : hd = 4
            · have q4 : ((hd : Int) == 4) = true := by simp [h4]
              have h126 : hasB b 0 126 := by
                rcases Decidable.em (hasB b 0 126) with h | h
                · exact h
                · have := Hhd.out; unfold hdU at this; rw [if_neg h] at this; omega
              have hb4 : 4 ≤ b.length := by omega
              have hcut4 := bA_cut b hb4
              have hl3 : ((b.drop 1).take 3).length = 3 := by simp; omega
              obtain ⟨cap, w4, hcv, hbw, hcw⟩ := bytes_any ((b.drop 1).take 3) w3
              rw [hl3] at hcv hcw
              rw [← Hs.out] at hcut4
              obtain ⟨c1, hc1⟩ : ∃ c, c = bt b 1 - 63 := ⟨_, rfl⟩
              obtain ⟨c2, hc2⟩ : ∃ c, c = bt b 2 - 63 := ⟨_, rfl⟩
              obtain ⟨c3, hc3⟩ : ∃ c, c = bt b 3 - 63 := ⟨_, rfl⟩
              have o1 := H2.out.ok 1 (by omega); have o2 := H2.out.ok 2 (by omega); have o3 := H2.out.ok 3 (by omega)
              unfold okB at o1 o2 o3
              have Hn := Lib.hid (show nU b = (c1 * 64 + c2) * 64 + c3 by unfold nU; rw [if_pos h126, ← hc1, ← hc2, ← hc3]; omega)
              have hC : ∀ j, j < 3 → ∃ c : Nat, c < 64 ∧ w4.cell? ⟨w3.heap.size, j, none⟩ = some (.int .u8 ((c + 63 : Nat) : Int)) ∧ c = (if j = 0 then c1 else if j = 1 then c2 else c3) := fun j hj => by
                have h := hcw j hj
                rw [bt_cut hj] at h
                match j, hj with
                | 0, _ => exact ⟨c1, by omega, by rw [show c1 + 63 = bt b (1 + 0) from by rw [hc1]; show bt b 1 - 63 + 63 = bt b 1; omega]; exact h, rfl⟩
                | 1, _ => exact ⟨c2, by omega, by rw [show c2 + 63 = bt b (1 + 1) from by rw [hc2]; show bt b 2 - 63 + 63 = bt b 2; omega]; exact h, rfl⟩
                | 2, _ => exact ⟨c3, by omega, by rw [show c3 + 63 = bt b (1 + 2) from by rw [hc3]; show bt b 3 - 63 + 63 = bt b 3; omega]; exact h, rfl⟩
              have HC := Lib.hid hC
              have hc163 : c1 < 64 := by omega
              have hc263 : c2 < 64 := by omega
              have hc363 : c3 < 64 := by omega
              generalize bA ((b.drop 1).take 3) = t at *
              have S4 := Lib.hid (S3.out.below hbw)
              have hwsz := hbw.size
              have Hd4 := Lib.hid h4
              clear hcw hl3 hC o1 o2 o3 hc1 hc2 hc3 hbw h126 h4 hh hhf hhl hix0 e0
              go_wp2
              clear hcut4 hcv sb sl q4 g4
              obtain ⟨BB, hBB⟩ : ∃ BB, BB = w3.heap.size := ⟨_, rfl⟩
              rw [← hBB] at HC ⊢
              clear hBB hwsz
              go_loopg [72, 9, 7] 3 (fun g s72 s9 s7 wr => ∃ (j n : Nat), j ≤ 3 ∧ g = 3 - j ∧ s72 = .int .i64 (j : Int) ∧ s7 = .int .i64 (n : Int) ∧ n = (if j = 0 then 0 else if j = 1 then c1 else if j = 2 then c1 * 64 + c2 else (c1 * 64 + c2) * 64 + c3) ∧ w4 = wr)
              case atStart => exact ⟨0, 0, by omega, rfl, rfl, rfl, rfl, rfl⟩
              case round =>
                obtain ⟨j, n, hj, rfl, rfl, rfl, hn, rfl⟩ := hrel
                by_cases hj3 : j < 3
                · obtain ⟨c, hc64, hcc, hce⟩ := HC.out j hj3
                  have hn4 : n ≤ 4095 := by
                    rw [hn]
                    match j, hj3 with
                    | 0, _ => simp
                    | 1, _ => simp; omega
                    | 2, _ => simp; omega
                  have Hnx := Lib.hid (show n * 64 + c = (if j + 1 = 0 then 0 else if j + 1 = 1 then c1 else if j + 1 = 2 then c1 * 64 + c2 else (c1 * 64 + c2) * 64 + c3) by
                    rw [hn, hce]
                    match j, hj3 with
                    | 0, _ => simp
                    | 1, _ => simp
                    | 2, _ => simp)
                  obtain ⟨x2, hx2⟩ : ∃ x2, x2 = c + 63 := ⟨_, rfl⟩
                  rw [← hx2] at hcc
                  have hor := or_add hn4 hc64
                  have e4 : (x2 : Int) - 63 = (c : Int) := by omega
                  have e5 : IntKind.u8.wrap (c : Int) = (c : Int) := u8_wrap (by omega)
                  obtain ⟨n64, hn64⟩ : ∃ n64, n64 = n * 64 := ⟨_, rfl⟩
                  have e6 : (n : Int) * 64 = (n64 : Int) := by omega
                  have hn65 : n64 ≤ 262080 := by omega
                  rw [← hn64] at hor
                  have hx3 : x2 ≤ 126 := by omega
                  obtain ⟨n2, hn2⟩ : ∃ n2, n2 = n64 + c := ⟨_, rfl⟩
                  rw [← hn2] at hor
                  have Hn2 := Lib.hid (show n2 = n * 64 + c by omega)
                  clear hn hce hx2 hn64 hn2
                  go_wp2
                  go_roundg (3 - (j + 1))
                  case measure => go_light; omega
                  case rel => exact ⟨j + 1, n2, by omega, rfl, by go_num, rfl, by rw [Hn2.out]; exact Hnx.out, rfl⟩
                · obtain rfl : j = 3 := by omega
                  simp only [show ¬ (3 : Nat) = 0 by omega, show ¬ (3 : Nat) = 1 by omega, show ¬ (3 : Nat) = 2 by omega, if_false] at hn
                  have Hn3 := Lib.hid (show nU b = n by rw [Hn.out, hn])
                  have hn18 : n ≤ 262143 := by omega
                  clear hn
                  by_cases hf : n < 63
                  · have q5 : (n : Int) < 63 := by omega
                    have Hu := Lib.hid (H2.out.bad ⟨by rw [← Hhd.out]; exact Hd4.out, by rw [Hn3.out]; exact hf⟩)
                    clear hf
                    go_wp2_with fail
                    refine (ufail_any 7 0 w4).mono ?_
                    rintro e wz ⟨rfl, hbz⟩
                    have ST := Lib.hid ((S4.out.toUS).below hbz)
                    clear hbz
                    obtain ⟨z0, z1, f0, f1, l0⟩ := row_facts ST.out.r0
                    obtain ⟨y0, y1, g0, g1, l1⟩ := row_facts ST.out.r1
                    go_wp2
                    obtain ⟨c0, c1, c2, c3⟩ := four_set ST.out.r0 ST.out.r1 (show w.heap.size + 1 ≠ w.heap.size + 1 + 1 by omega) (.int .i64 0) (.slice none 0 0) (.int .i64 7) (.int .i64 0)
                    have hfin := four_below ST.out.hb (show w.heap.size ≤ w.heap.size + 1 by omega) (show w.heap.size ≤ w.heap.size + 1 + 1 by omega) (.int .i64 0) (.slice none 0 0) (.int .i64 7) (.int .i64 0)
                    exact bodyPost_ret (v := .tuple #[.agg #[.int .i64 0, .slice none 0 0], .agg #[.int .i64 7, .int .i64 0]]) (by simp [results, Tryd.results14, go_sem, c0, c1, c2, c3]) rfl ⟨0, [], 7, 0, Hu.out, _, OwnE.nil _ _, hfin, rfl⟩
                  · have q5 : ¬ (n : Int) < 63 := by omega
                    have H3 := Lib.hid (U3.mk H2.out (fun h => hf (by rw [← Hn3.out]; exact h.2)))
                    clear hf
                    go_wp2
                    go_meet
                    exact ⟨by rw [Hn3.out], S4.out, H3.out⟩
            · have q4 : ((hd : Int) == 4) = false := by simp; omega
              have hno : ¬ hasB b 0 126 := fun h => h4 (by rw [Hhd.out]; exact if_pos h)
              have Hn := Lib.hid (show nU b = n0 by unfold nU; rw [if_neg hno, Hn0.out, Hx.out])
              have H3 := Lib.hid (U3.mk H2.out (fun h => h4 (by rw [Hhd.out]; exact h.1)))
              clear hno h4
              go_wp2
              go_meet
              exact ⟨by rw [Hn.out], S3.out, H3.out⟩
          case rest =>
          obtain ⟨rfl, hs4, hu3⟩ := hcut
          obtain ⟨w4, rfl⟩ : ∃ w4 : World, w4 = wc := ⟨_, rfl⟩
          have S4 := Lib.hid hs4; have H3 := Lib.hid hu3
          clear hs4 hu3 hix0 e0 sb sl hh hhf hhl
          obtain ⟨N, hNN⟩ : ∃ N, N = nU b := ⟨_, rfl⟩
          rw [← hNN]
          have HNN := Lib.hid hNN
          clear hNN
          obtain ⟨sb, -, sl⟩ := one_facts S4.out.sb
          obtain ⟨hh, hhf, hhl⟩ := one_facts S4.out.hh
          by_cases hN : N ≤ 100
          · have q6 : ¬ (100 : Int) < (N : Int) := by omega
            have H4 := Lib.hid (U4.mk H3.out (by rw [← HNN.out]; omega))
            obtain ⟨P, hP⟩ : ∃ P, P = N * (N - 1) := ⟨_, rfl⟩
            obtain ⟨T, hT⟩ : ∃ T, T = triN N := ⟨_, rfl⟩
            have hT4 : T ≤ 4950 := by rw [hT]; exact triN_le hN
            have eP : (N : Int) * ((N : Int) - 1) = (P : Int) := by
              rw [hP]
              rcases Nat.eq_zero_or_pos N with e | e
              · subst e; rfl
              · rw [Int.natCast_mul, Int.natCast_sub (by omega)]; rfl
            have hTP : T = P / 2 := by rw [hT, hP]; rfl
            have hP9 : P ≤ 9901 := by omega
            have eT : (P : Int).tdiv 2 = (T : Int) := by rw [Int.tdiv_eq_ediv_of_nonneg (by omega)]; omega
            have eT' : (P : Int) / 2 = (T : Int) := by omega
            obtain ⟨Q, hQ⟩ : ∃ Q, Q = (T + 5) / 6 := ⟨_, rfl⟩
            have eQ : ((T : Int) + 5).tdiv 6 = (Q : Int) := by rw [Int.tdiv_eq_ediv_of_nonneg (by omega)]; omega
            have eQ' : ((T : Int) + 5) / 6 = (Q : Int) := by omega
            obtain ⟨Z, hZ⟩ : ∃ Z, Z = hd + Q := ⟨_, rfl⟩
            have eZ : (hd : Int) + (Q : Int) = (Z : Int) := by omega
            have hQ6 : T ≤ 6 * Q ∧ 6 * Q < T + 6 := by omega
            have hQl : Q ≤ 826 := by omega
            have hZl : Z ≤ 830 := by omega
            have HZ := Lib.hid (show szU b = Z by unfold szU; rw [← HNN.out, ← Hhd.out, ← hT, ← hQ, hZ])
            have HQ := Lib.hid (And.intro hQ6 hZ); have HT := Lib.hid hT; have HQ5 := Lib.hid hQ
            clear hP hT hTP hQ hZ hQ6
            by_cases hsize : b.length = Z
            · have q7 : ((b.length : Int) != (Z : Int)) = false := by simp [hsize]
              have H5 := Lib.hid (U5.mk H4.out (by rw [HZ.out]; exact hsize))
              have Hsize := Lib.hid hsize
              clear hsize
              go_upto_region 34 with fail
              have S5 := Lib.hid (show UL w ((w4.alloc (Obj.cells #[.int .i64 (N : Int), .slice none 0 0] 24)).alloc (Obj.cells #[.int .i64 0] 3)) s hd w4.heap.size (w4.heap.size + 1) 0 (N : Int) (.slice none 0 0) [] from
                ⟨S4.out.below (below2 _ _ _), (two_row w4 (.int .i64 (N : Int)) (.slice none 0 0) 24).alloc _, by
                  have := one_row (w4.alloc (Obj.cells #[.int .i64 (N : Int), .slice none 0 0] 24)) (.int .i64 0) 3
                  rw [World.size_alloc] at this
                  exact this, OwnE.nil _ _, S4.out.hh.lt, by omega⟩)
              generalize (w4.alloc (Obj.cells #[.int .i64 (N : Int), .slice none 0 0] 24)).alloc (Obj.cells #[.int .i64 0] 3) = w5 at *
              obtain ⟨G, hG⟩ : ∃ G, G = w4.heap.size := ⟨_, rfl⟩
              rw [← hG] at S5 ⊢
              obtain ⟨g, hg⟩ : ∃ g, g = gU b := ⟨_, rfl⟩
              have Hg := Lib.hid hg
              have Hbits := Lib.hid (show ∀ k, k < 6 * Q → hd + k / 6 < b.length ∧ okB (bt b (hd + k / 6)) from fun k hk => by
                have h1 : hd + k / 6 < b.length := by have := HQ.out.2; have := Hsize.out; omega
                exact ⟨h1, H1.out.ok _ h1⟩)
              clear hG hg sb sl hh hhf hhl q6 q7 eP eT eT' eQ eQ' eZ hn63 x1 x2
              go_wp2
              go_loopg [121, 15, 125, 16] N (fun gg s121 s15 s125 s16 wr => ∃ (j : Nat) (v : Value), j ≤ N ∧ gg = N - j ∧ s121 = .int .i64 (j : Int) ∧ UL w wr s hd G (G + 1) (triN j) (N : Int) v (preE g j))
              case atStart => exact ⟨0, _, Nat.zero_le _, rfl, rfl, S5.out⟩
              case round =>
                obtain ⟨j, v, hj, rfl, rfl, hst⟩ := hrel
                have Hst := Lib.hid hst
                clear hst
                by_cases hjn : j < N
                · have Hs0 := Lib.hid (show UL w wr s hd G (G + 1) (triN j + 0) (N : Int) v (preE g j ++ colE g j 0) by simpa [colE] using Hst.out)
                  obtain ⟨wo, rfl⟩ : ∃ wo : World, wo = wr := ⟨_, rfl⟩
                  go_wp2
                  go_loopg [125, 16] j (fun gg s125 s16 wr => ∃ (i : Nat) (v : Value), i ≤ j ∧ gg = j - i ∧ s125 = .int .i64 (i : Int) ∧ UL w wr s hd G (G + 1) (triN j + i) (N : Int) v (preE g j ++ colE g j i))
                  case atStart => exact ⟨0, v, Nat.zero_le _, rfl, rfl, Hs0.out⟩
                  case round =>
                    obtain ⟨i, v, hi, rfl, rfl, hst⟩ := hrel
                    by_cases hij : i < j
                    · have hkT : triN j + i < T := by rw [HT.out]; exact tri_lt hij hjn
                      have hk1 : triN (j + 1) = triN j + j := triN_succ j
                      have hll : (preE g j ++ colE g j i).length ≤ 5000 := by
                        have h1 := preE_length g j
                        have h2 := colE_length g j i
                        rw [List.length_append]; omega
                      obtain ⟨k, hk⟩ : ∃ k, k = triN j + i := ⟨_, rfl⟩
                      obtain ⟨Lc, hLc⟩ : ∃ Lc, Lc = preE g j ++ colE g j i := ⟨_, rfl⟩
                      rw [← hk, ← hLc] at hst
                      rw [← hk] at hkT
                      rw [← hLc] at hll
                      have Hgk := Lib.hid (show bitU b hd k = g i j by rw [Hg.out, hk, Hhd.out]; rfl)
                      have Hk := Lib.hid hk; have HLc := Lib.hid hLc
                      have Hst2 := Lib.hid hst
                      obtain ⟨hb1, hb2⟩ := Hbits.out k (by have := HQ.out.1; omega)
                      obtain ⟨sb, -, sl⟩ := one_facts hst.sb
                      obtain ⟨hh, hhf, hhl⟩ := one_facts hst.hh
                      obtain ⟨ha, haf, hal⟩ := one_facts hst.at_
                      clear hk hLc hst hk1
                      go_wp2_with fail
                      refine (Bit.out w.heap.size (w.heap.size + 3) (G + 1) hd k wr sb hh ha haf hl hb1 hb2).mono ?_
                      rintro e w6 ⟨rfl, rfl⟩
                      have S6 := Lib.hid (Hst2.out.bump (k + 1))
                      clear sb sl hh hhf hhl ha haf hal hb1 hb2
                      rw [Hgk.out]
                      generalize wr.setCell ⟨G + 1, 0, none⟩ (.int .i64 ((k + 1 : Nat) : Int)) = w6 at *
                      have hcol : preE g j ++ colE g j (i + 1) = Lc ++ if g i j then [((i : Int), (j : Int))] else [] := by
                        rw [HLc.out, colE, List.append_assoc]
                      have Hcol := Lib.hid hcol
                      clear hcol
                      cases hg : g i j with
                      | true =>
                        rw [hg, if_pos rfl] at Hcol
                        obtain ⟨a2, c2, rfl⟩ := S6.out.own.form
                        have co := S6.out.out.cell (show 1 < 2 by omega)
                        simp only [show ¬ (1 : Nat) = 0 by omega, if_false] at co
                        have M3 := Lib.hid (S6.out.below (below1 w6 (Obj.cells #[.int .i64 (i : Int), .int .i64 (j : Int)] 40)))
                        have hal := S6.out.at_.lt
                        have hOl := S6.out.out.lt
                        clear hg
                        go_wp2_with (at_builtin; refine wpList_append_edges rfl (.tmp 131) (.tmp 135) 22 rfl (G + 1 + 1) Tryd.underlying22 info2 _ Lc rfl M3.out.own _ [((i : Int), (j : Int))] rfl (edge_one _ _ _ _ rfl) _ rfl (by simp; omega) (by simp; omega) ?_; intro a5 c5 w7 ho5 hg5; have r5 := M3.out.after hg5; have co5 := r5.cell (show 1 < 2 by omega); have fo5 := r5.frozen 1; have lo5 := r5.lt; have Hn := Lib.hid (M3.out.put ho5 hg5); clear hg5 ho5 r5)
                        go_roundg (j - (i + 1))
                        case measure => go_light; omega
                        case rel => exact ⟨i + 1, .slice a5 (Lc.length + 1) c5, by omega, rfl, by go_num, by
                          have h9 := Hn.out
                          simp only [List.length_append, List.length_cons, List.length_nil, Nat.zero_add] at h9
                          rw [Hcol.out, ← Nat.add_assoc, ← Hk.out]; exact h9⟩
                      | false =>
                        rw [hg, if_neg (by simp), List.append_nil] at Hcol
                        clear hg
                        go_wp2
                        go_roundg (j - (i + 1))
                        case measure => go_light; omega
                        case rel => exact ⟨i + 1, _, by omega, rfl, by go_num, by rw [Hcol.out, ← Nat.add_assoc, ← Hk.out]; exact S6.out⟩
                    · obtain rfl : i = j := by omega
                      have Hn := Lib.hid (show UL w wr s hd G (G + 1) (triN (i + 1)) (N : Int) v (preE g (i + 1)) by rw [triN_succ, preE]; exact hst)
                      clear hst Hs0
                      go_wp2
                      go_roundg (N - (i + 1))
                      case measure => go_light; omega
                      case rel => exact ⟨i + 1, v, by omega, rfl, by go_num, Hn.out⟩
                · obtain rfl : j = N := by omega
                  have Hs1 := Lib.hid (show UL w wr s hd G (G + 1) T (j : Int) v (preE g j) by rw [HT.out]; exact Hst.out)
                  clear Hst
                  obtain ⟨M6, hM6⟩ : ∃ M6, M6 = 6 * Q := ⟨_, rfl⟩
                  obtain ⟨hq1, hq2⟩ := HQ.out.1
                  rw [← hM6] at Hbits hq1 hq2
                  have HM6 := Lib.hid hM6
                  have Hj := Lib.hid (And.intro HNN.out HT.out)
                  clear hM6
                  go_wp2
                  go_loopg [140] (M6 - T) (fun gg s140 wr => ∃ (k : Nat) (v : Value), T ≤ k ∧ k ≤ M6 ∧ gg = M6 - k ∧ (∀ m, T ≤ m → m < k → bitU b hd m = false) ∧ UL w wr s hd G (G + 1) k (j : Int) v (preE g j))
                  case atStart => exact ⟨T, v, by omega, by omega, rfl, fun m h1 h2 => by omega, Hs1.out⟩
                  case round =>
                    obtain ⟨k, v, hk1, hk2, rfl, hpad, hst⟩ := hrel
                    have Hst2 := Lib.hid hst; have Hpad := Lib.hid hpad
                    obtain ⟨ha, haf, hal⟩ := one_facts hst.at_
                    obtain ⟨r, hr⟩ : ∃ r, r = k % 6 := ⟨_, rfl⟩
                    have e2 : (k : Int).tmod 6 = (r : Int) := by rw [Int.tmod_eq_emod_of_nonneg (by omega)]; omega
                    have e2' : (k : Int) % 6 = (r : Int) := by omega
                    have Hr := Lib.hid hr
                    clear hr hst hpad
                    by_cases hr0 : r = 0
                    · have q8 : ((r : Int) != 0) = false := by simp [hr0]
                      have hk6 : k = M6 := by have := HM6.out; have := Hr.out; omega
                      have H6 := Lib.hid (U6.mk H5.out (fun ⟨m, h1, h2, h3⟩ => by
                        rw [← Hj.out.1, ← Hj.out.2] at h1 h2
                        rw [← Hhd.out] at h3
                        have := Hpad.out m h1 (by have := HM6.out; have := HQ5.out; omega)
                        rw [h3] at this
                        cases this))
                      have hlen := (preE_perm g j).length_eq
                      rw [Hg.out, HNN.out] at hlen
                      have hlen2 : (edgesU b).length = (preE (gU b) (nU b)).length := hlen
                      rw [← HNN.out, ← Hg.out] at hlen2
                      have hle := preE_length g j
                      rw [← HT.out] at hle
                      have Hlen := Lib.hid hlen2
                      clear hlen hlen2 hr0 hk6
                      obtain ⟨a2, c2, rfl⟩ := Hst2.out.own.form
                      have co0 := Hst2.out.out.cell (show 0 < 2 by omega)
                      have co1 := Hst2.out.out.cell (show 1 < 2 by omega)
                      simp only [show ¬ (1 : Nat) = 0 by omega, if_false, if_true] at co0 co1
                      obtain ⟨L, hL⟩ : ∃ L, L = preE g j := ⟨_, rfl⟩
                      have HL := Lib.hid hL
                      rw [← hL] at Hlen Hst2 co1 hle
                      clear hL
                      by_cases hmany : 1000 < L.length
                      · have q9 : (1000 : Int) < (L.length : Int) := by omega
                        have Hu := Lib.hid (H6.out.bad (by rw [Hlen.out]; exact hmany))
                        clear hmany
                        go_wp2_with fail
                        refine (ufail_any 2 0 wr).mono ?_
                        rintro e wz ⟨rfl, hbz⟩
                        have ST := Lib.hid ((Hst2.out.toUS).below hbz)
                        clear hbz
                        obtain ⟨z0, z1, f0, f1, l0⟩ := row_facts ST.out.r0
                        obtain ⟨y0, y1, g0, g1, l1⟩ := row_facts ST.out.r1
                        go_wp2
                        obtain ⟨c0, c1, c2, c3⟩ := four_set ST.out.r0 ST.out.r1 (show w.heap.size + 1 ≠ w.heap.size + 1 + 1 by omega) (.int .i64 0) (.slice none 0 0) (.int .i64 2) (.int .i64 0)
                        have hfin := four_below ST.out.hb (show w.heap.size ≤ w.heap.size + 1 by omega) (show w.heap.size ≤ w.heap.size + 1 + 1 by omega) (.int .i64 0) (.slice none 0 0) (.int .i64 2) (.int .i64 0)
                        exact bodyPost_ret (v := .tuple #[.agg #[.int .i64 0, .slice none 0 0], .agg #[.int .i64 2, .int .i64 0]]) (by simp [results, Tryd.results14, go_sem, c0, c1, c2, c3]) rfl ⟨0, [], 2, 0, Hu.out, _, OwnE.nil _ _, hfin, rfl⟩
                      · have q9 : ¬ (1000 : Int) < (L.length : Int) := by omega
                        have Hu := Lib.hid (H6.out.good (by rw [Hlen.out]; exact hmany))
                        go_wp2_with fail
                        refine (make_any L (j : Int) (.slice a2 L.length c2) wr Hst2.out.own.edges (by omega)).mono ?_
                        rintro e w7 ⟨v7, L7, ho7, hb7, rfl, hperm, hsort⟩
                        have ST := Lib.hid (Hst2.out.toUS.below hb7)
                        have hL7 := make_is (by rw [← HL.out]; exact hperm) hsort
                        have HL7 := Lib.hid (show L7 = edgesU b by rw [hL7, Hg.out, HNN.out]; rfl)
                        obtain ⟨a7, c7, rfl⟩ := ho7.form
                        have Ho7 := Lib.hid (ho7.low (show w.heap.size + 3 ≤ wr.heap.size by have := Hst2.out.hh.lt; omega))
                        clear ho7 hb7 hperm hsort hL7 co0 co1
                        obtain ⟨z0, z1, f0, f1, l0⟩ := row_facts ST.out.r0
                        obtain ⟨y0, y1, g0, g1, l1⟩ := row_facts ST.out.r1
                        obtain ⟨gl, hgl⟩ : ∃ gl, gl = L7.length := ⟨_, rfl⟩
                        rw [← hgl]
                        have Hgl := Lib.hid hgl
                        clear hgl
                        go_wp2
                        obtain ⟨k0, k1, k2, k3⟩ := four_set ST.out.r0 ST.out.r1 (show w.heap.size + 1 ≠ w.heap.size + 1 + 1 by omega) (.int .i64 (j : Int)) (.slice a7 gl c7) (.int .i64 0) (.int .i64 0)
                        have hfin := four_below ST.out.hb (show w.heap.size ≤ w.heap.size + 1 by omega) (show w.heap.size ≤ w.heap.size + 1 + 1 by omega) (.int .i64 (j : Int)) (.slice a7 gl c7) (.int .i64 0) (.int .i64 0)
                        have hown := ((((Ho7.out.set (show w.heap.size + 1 < w.heap.size + 3 by omega) 0 (.int .i64 (j : Int))).set (show w.heap.size + 1 < w.heap.size + 3 by omega) 1 (.slice a7 gl c7)).set (show w.heap.size + 1 + 1 < w.heap.size + 3 by omega) 0 (.int .i64 0)).set (show w.heap.size + 1 + 1 < w.heap.size + 3 by omega) 1 (.int .i64 0)).low (show w.heap.size ≤ w.heap.size + 3 by omega)
                        rw [← Hgl.out, HL7.out] at hown
                        exact bodyPost_ret (v := .tuple #[.agg #[.int .i64 (j : Int), .slice a7 gl c7], .agg #[.int .i64 0, .int .i64 0]]) (by simp [results, Tryd.results14, go_sem, k0, k1, k2, k3]) rfl
                          ⟨nU b, edgesU b, 0, 0, Hu.out, _, hown, hfin, by rw [← HNN.out]⟩
                    · have q8 : ((r : Int) != 0) = true := by simp; omega
                      have hk6 : k < M6 := by
                        have := HM6.out; have := Hr.out
                        omega
                      obtain ⟨hb1, hb2⟩ := Hbits.out k hk6
                      obtain ⟨sb, -, sl⟩ := one_facts Hst2.out.sb
                      obtain ⟨hh, hhf, hhl⟩ := one_facts Hst2.out.hh
                      clear hr0
                      go_wp2_with fail
                      refine (Bit.out w.heap.size (w.heap.size + 3) (G + 1) hd k wr sb hh ha haf hl hb1 hb2).mono ?_
                      rintro e w6 ⟨rfl, rfl⟩
                      have S6 := Lib.hid (Hst2.out.bump (k + 1))
                      clear sb sl hh hhf hhl ha haf hal hb1 hb2 e2 e2' q8
                      generalize wr.setCell ⟨G + 1, 0, none⟩ (.int .i64 ((k + 1 : Nat) : Int)) = w6 at *
                      cases hbv : bitU b hd k with
                      | true =>
                        obtain ⟨LM, hLM⟩ : ∃ LM, LM = b.length - 1 := ⟨_, rfl⟩
                        have hl0 : 0 < b.length := by have := Hsize.out; have := HQ.out.2; omega
                        have eLM : (b.length : Int) - 1 = (LM : Int) := by omega
                        have Hu := Lib.hid (H5.out.bad ⟨k, by rw [← Hj.out.1, ← Hj.out.2]; exact hk1, by rw [← Hj.out.1, ← Hj.out.2, ← HQ5.out, ← HM6.out]; exact hk6, by rw [← Hhd.out]; exact hbv⟩)
                        rw [← hLM] at Hu
                        obtain ⟨sb, -, sl⟩ := one_facts S6.out.sb
                        clear hbv hLM
                        go_wp2_with fail
                        refine (ufail_any 7 (LM : Int) w6).mono ?_
                        rintro e wz ⟨rfl, hbz⟩
                        have ST := Lib.hid ((S6.out.toUS).below hbz)
                        clear hbz
                        obtain ⟨z0, z1, f0, f1, l0⟩ := row_facts ST.out.r0
                        obtain ⟨y0, y1, g0, g1, l1⟩ := row_facts ST.out.r1
                        go_wp2
                        obtain ⟨c0, c1, c2, c3⟩ := four_set ST.out.r0 ST.out.r1 (show w.heap.size + 1 ≠ w.heap.size + 1 + 1 by omega) (.int .i64 0) (.slice none 0 0) (.int .i64 7) (.int .i64 (LM : Int))
                        have hfin := four_below ST.out.hb (show w.heap.size ≤ w.heap.size + 1 by omega) (show w.heap.size ≤ w.heap.size + 1 + 1 by omega) (.int .i64 0) (.slice none 0 0) (.int .i64 7) (.int .i64 (LM : Int))
                        exact bodyPost_ret (v := .tuple #[.agg #[.int .i64 0, .slice none 0 0], .agg #[.int .i64 7, .int .i64 (LM : Int)]]) (by simp [results, Tryd.results14, go_sem, c0, c1, c2, c3]) rfl ⟨0, [], 7, (LM : Int), Hu.out, _, OwnE.nil _ _, hfin, rfl⟩
                      | false =>
                        have Hbv := Lib.hid hbv
                        clear hbv
                        go_wp2
                        go_roundg (M6 - (k + 1))
                        case measure => go_light; omega
                        case rel => exact ⟨k + 1, v, by omega, by omega, rfl, fun m h1 h2 => by
                          by_cases e : m = k
                          · rw [e]; exact Hbv.out
                          · exact Hpad.out m h1 (by omega), S6.out⟩
            · have q7 : ((b.length : Int) != (Z : Int)) = true := by simp; omega
              obtain ⟨M, hM⟩ : ∃ M, M = min b.length Z := ⟨_, rfl⟩
              have eM : min (b.length : Int) (Z : Int) = (M : Int) := by omega
              have Hu := Lib.hid (H4.out.bad (by rw [HZ.out]; exact hsize))
              rw [HZ.out, ← hM] at Hu
              clear hsize hM
              go_wp2_with fail
              refine (ufail_any 1 (M : Int) w4).mono ?_
              rintro e wz ⟨rfl, hbz⟩
              have ST := Lib.hid ((S4.out.toUS).below hbz)
              clear hbz
              obtain ⟨z0, z1, f0, f1, l0⟩ := row_facts ST.out.r0
              obtain ⟨y0, y1, g0, g1, l1⟩ := row_facts ST.out.r1
              go_wp2
              obtain ⟨c0, c1, c2, c3⟩ := four_set ST.out.r0 ST.out.r1 (show w.heap.size + 1 ≠ w.heap.size + 1 + 1 by omega) (.int .i64 0) (.slice none 0 0) (.int .i64 1) (.int .i64 (M : Int))
              have hfin := four_below ST.out.hb (show w.heap.size ≤ w.heap.size + 1 by omega) (show w.heap.size ≤ w.heap.size + 1 + 1 by omega) (.int .i64 0) (.slice none 0 0) (.int .i64 1) (.int .i64 (M : Int))
              exact bodyPost_ret (v := .tuple #[.agg #[.int .i64 0, .slice none 0 0], .agg #[.int .i64 1, .int .i64 (M : Int)]]) (by simp [results, Tryd.results14, go_sem, c0, c1, c2, c3]) rfl ⟨0, [], 1, (M : Int), Hu.out, _, OwnE.nil _ _, hfin, rfl⟩
          · have q6 : (100 : Int) < (N : Int) := by omega
            have Hu := Lib.hid (H3.out.bad (by rw [← HNN.out]; omega))
            clear hN
            go_wp2_with fail
            refine (ufail_any 2 0 w4).mono ?_
            rintro e wz ⟨rfl, hbz⟩
            have ST := Lib.hid ((S4.out.toUS).below hbz)
            clear hbz
            obtain ⟨z0, z1, f0, f1, l0⟩ := row_facts ST.out.r0
            obtain ⟨y0, y1, g0, g1, l1⟩ := row_facts ST.out.r1
            go_wp2
            obtain ⟨c0, c1, c2, c3⟩ := four_set ST.out.r0 ST.out.r1 (show w.heap.size + 1 ≠ w.heap.size + 1 + 1 by omega) (.int .i64 0) (.slice none 0 0) (.int .i64 2) (.int .i64 0)
            have hfin := four_below ST.out.hb (show w.heap.size ≤ w.heap.size + 1 by omega) (show w.heap.size ≤ w.heap.size + 1 + 1 by omega) (.int .i64 0) (.slice none 0 0) (.int .i64 2) (.int .i64 0)
            exact bodyPost_ret (v := .tuple #[.agg #[.int .i64 0, .slice none 0 0], .agg #[.int .i64 2, .int .i64 0]]) (by simp [results, Tryd.results14, go_sem, c0, c1, c2, c3]) rfl ⟨0, [], 2, 0, Hu.out, _, OwnE.nil _ _, hfin, rfl⟩
  · have hl2 : (20000 : Int) < (b.length : Int) := by omega
    have Hu := Lib.hid (uG_many (b := b) (by omega))
    go_wp2_with fail
    refine (ufail_any 2 0 w1).mono ?_
    rintro e wz ⟨rfl, hbz⟩
    have ST := Lib.hid ((St.out).below hbz)
    clear hbz
    obtain ⟨z0, z1, f0, f1, l0⟩ := row_facts ST.out.r0
    obtain ⟨y0, y1, g0, g1, l1⟩ := row_facts ST.out.r1
    go_wp2
    obtain ⟨c0, c1, c2, c3⟩ := four_set ST.out.r0 ST.out.r1 (show w.heap.size + 1 ≠ w.heap.size + 1 + 1 by omega) (.int .i64 0) (.slice none 0 0) (.int .i64 2) (.int .i64 0)
    have hfin := four_below ST.out.hb (show w.heap.size ≤ w.heap.size + 1 by omega) (show w.heap.size ≤ w.heap.size + 1 + 1 by omega) (.int .i64 0) (.slice none 0 0) (.int .i64 2) (.int .i64 0)
    exact bodyPost_ret (v := .tuple #[.agg #[.int .i64 0, .slice none 0 0], .agg #[.int .i64 2, .int .i64 0]]) (by simp [results, Tryd.results14, go_sem, c0, c1, c2, c3]) rfl ⟨0, [], 2, 0, Hu.out, _, OwnE.nil _ _, hfin, rfl⟩

end Go.Proofs.YtokjcapheogkoaaDoor
