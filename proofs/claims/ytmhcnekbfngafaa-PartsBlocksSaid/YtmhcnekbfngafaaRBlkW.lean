/- arborref.Blocks: the classes of edges that no node keeps apart, in order. -/
import Derived.Test.YtmhcnekbfngafaaROneW
import Derived.Test.YtmhcnekbfngafaaRCompW
import Derived.Test.YtmhcnekbfngafaaDMem
namespace Go.Proofs.Ytmhcnekbfngafaa
open Go.RowKit Go.Maps

open Classical in
/-- No node keeps the edges at two places apart. -/
noncomputable def twP (N : Nat) (G : Nat → Nat → Bool) (i j : Nat) : Bool := decide (Twn (AG N G) (atE (edG N G) i) (atE (edG N G) j))
theorem twP_iff {N : Nat} {G : Nat → Nat → Bool} {i j : Nat} : twP N G i j = true ↔ Twn (AG N G) (atE (edG N G) i) (atE (edG N G) j) := by unfold twP; simp
theorem twP_pre {N : Nat} {G : Nat → Nat → Bool} (hG : Gr N G) : Pre (edG N G).length (twP N G) where
  rf v hv := twP_iff.2 (Twn.refl hG.nbs (edG_isE (atE_mem hv)))
  tr u v w _ hv _ h1 h2 := twP_iff.2 ((twP_iff.1 h1).trans hG.nbs (edG_isE (atE_mem hv)) (twP_iff.1 h2))
theorem twP_eqv {N : Nat} {G : Nat → Nat → Bool} (hG : Gr N G) (i j : Nat) : eqvB (twP N G) i j = twP N G i j := by
  unfold eqvB
  cases e : twP N G i j with
  | false => rfl
  | true => rw [Bool.true_and]; exact twP_iff.2 ((twP_iff.1 e).symm hG.nbs)
theorem atE_inj {N : Nat} {G : Nat → Nat → Bool} {i j : Nat} (hi : i < (edG N G).length) (hj : j < (edG N G).length) (h : atE (edG N G) i = atE (edG N G) j) : i = j := by
  have hr := prsTo_rise N G N
  rcases Nat.lt_trichotomy i j with k | k | k
  · have := atE_lt hr k hj; rw [h] at this; exact absurd this (LexLt.irr _)
  · exact k
  · have := atE_lt hr k hi; rw [h] at this; exact absurd this (LexLt.irr _)
theorem one_twP {N : Nat} {G : Nat → Nat → Bool} (hG : Gr N G) {i j : Nat} (hi : i < (edG N G).length) (hj : j < (edG N G).length) (hne : i ≠ j) : oneB N G (atE (edG N G) i) (atE (edG N G) j) = twP N G i j := by
  rw [Bool.eq_iff_iff, oneB_iff, twP_iff]
  exact oneRing_iff hG (atE_mem hi) (atE_mem hj) fun e => hne (atE_inj hi hj e)

/-- A place in the class of an earlier one is in no later one's. -/
theorem Pre.sep {N : Nat} {P : Nat → Nat → Bool} (h : Pre N P) {k i : Nat} (hk : k < N) (hi : i < N) (hl : ldB P k = true) (hin : inP P k i = true) : eqvB P k i = false := by
  cases e : eqvB P k i with
  | false => rfl
  | true =>
    unfold inP at hin
    obtain ⟨u, hu, he⟩ := List.any_eq_true.1 hin
    have hu := List.mem_range.1 hu
    have h1 := h.et (by omega) hi hk he (eqv_sy e)
    have h2 := h.ge hl hu
    rw [eqv_sy h1] at h2
    cases h2

set_option maxHeartbeats 6400000 in
set_option maxRecDepth 100000 in
theorem rblocks_any (N : Nat) (G : Nat → Nat → Bool) (gv : Value) (w : World) (hN : N ≤ 100) (hg : HasGrid w gv N G) (hG : Gr N G) :
    Calls Try.prog 29 #[gv] w fun e w' => ∃ x, e = .returned x ∧ Blks w' w.heap.size (.slice none 0 0) x (clsE (edG N G) (twP N G)) ∧ Below w.heap.size w w' := by
  have HG := Lib.hid hg
  have HGr := Lib.hid hG
  have HP := Lib.hid (twP_pre hG)
  have HE := Lib.hid (fun i j => twP_eqv hG i j)
  have H1 := Lib.hid (fun i j (hi : i < (edG N G).length) hj hne => one_twP hG (i := i) (j := j) hi hj hne)
  obtain ⟨Bg, ga, gc, gb, go', R0, rfl, -⟩ := hg
  clear hG
  go_enter Try.func29, Try.ntmps29
  go_wp2_with fail
  refine (of_any N G _ _ hN HG.out).mono ?_
  rintro e w2 ⟨v2, ho2, hb2, rfl⟩
  have hplen : (edG N G).length ≤ N * N := prsTo_length N G N
  have hlen : (edG N G).length ≤ 10000 := by
    have : N * N ≤ 100 * 100 := Nat.mul_le_mul hN hN
    omega
  obtain ⟨ad, cap, bb, o, e0, hcap, hmax, hadr, -, hcell⟩ := ho2.edges
  subst e0
  have Hc : ∀ j, j < (edG N G).length → w2.cell? ⟨bb, o + j * 2, none⟩ = some (.int .i64 (atE (edG N G) j).1) ∧ w2.cell? ⟨bb, o + j * 2 + 1, none⟩ = some (.int .i64 (atE (edG N G) j).2) := hcell
  have hme : ∀ j, j < (edG N G).length → ∃ a b : Nat, a < b ∧ b < N ∧ atE (edG N G) j = ((a : Int), (b : Int)) := fun j hj => by
    obtain ⟨a, b, h1, h2, h3⟩ := edG_iff.1 (atE_mem hj)
    exact ⟨a, b, h1, h2.2.1, h3⟩
  have hfe0 : (Instr.field 24 (.agg #[.int .i64 (N : Int), .slice ad (prsTo N G N).length cap]) 1).run Try.prog w2 = .ok (.slice ad (prsTo N G N).length cap) w2 := by kernel_rfl
  have hadr : 0 < (edG N G).length → ad = some ⟨bb, o, none⟩ := hadr
  have hcap : (edG N G).length ≤ cap := hcap
  have hfe : (Instr.field 24 (.agg #[.int .i64 (N : Int), .slice ad (edG N G).length cap]) 1).run Try.prog w2 = .ok (.slice ad (edG N G).length cap) w2 := hfe0
  obtain ⟨E, hE⟩ : ∃ E, edG N G = E := ⟨_, rfl⟩
  have HEq := Lib.hid hE
  have hE0 : prsTo N G N = E := hE
  rw [hE] at hlen hcap hadr hfe Hc HP H1 hme
  rw [hE0]
  obtain ⟨M, hM⟩ : ∃ M, E.length = M := ⟨_, rfl⟩
  have HM := Lib.hid hM
  rw [hM] at hlen hcap hadr hfe Hc HP H1 hme ⊢
  have HG2 := Lib.hid (HG.out.below hb2)
  have Hb2 := Lib.hid hb2
  have HC := Lib.hid Hc
  have Hme := Lib.hid hme
  have hmk2 := run_make_row' (P := Try.prog) 60 4 (.bool false) 1 Try.underlying60 info4 rfl .i64 .i64 M (by omega) (by omega)
  have hr5 := World.rowIs_made w2 (.bool false) M 4
  have hb5 := below1 w2 (.cells (madeCells #[.bool false] M) 4)
  have hz5 : (w2.alloc (.cells (madeCells #[.bool false] M) 4)).heap.size = w2.heap.size + 1 := World.size_alloc _ _
  have Hr5 := Lib.hid (hr5.congr (g := rb fun _ => false) fun _ _ => rfl)
  have Hb5 := Lib.hid hb5
  clear ho2 hb2 hr5 hb5 hE hE0 hM hfe0 hcell Hc hme hplen
  go_upto_region 3 with fail
  clear hmk2 hfe
  generalize w2.alloc (.cells (madeCells #[.bool false] M) 4) = w5 at *
  generalize hP0 : twP N G = P at *
  have HP0 := Lib.hid hP0
  clear hP0
  have hDz : w2.heap.size < w5.heap.size := by omega
  go_wp2
  go_loopg [5, 6] M (fun g s5 s6 wr => ∃ k : Nat, k ≤ M ∧ g = M - k ∧ s6 = .int .i64 k ∧ PaS w5 wr M w2.heap.size (inP P k) ∧ Blks wr w5.heap.size (.slice none 0 0) s5 ((lds P k).map fun i => (cls M P i).map (atE E)))
  case atStart => exact ⟨0, Nat.zero_le _, rfl, rfl, ⟨World.grownBy.refl _ _, row_rb Hr5.out fun q _ => by simp [inP]⟩, ⟨[], World.ownsRow_nil _ _ _ _, fun j hj => absurd hj (Nat.not_lt_zero _)⟩⟩
  case round =>
    obtain ⟨k, hk, rfl, rfl, hpa, hpr⟩ := hrel
    obtain ⟨wq, rfl⟩ : ∃ wq : World, wq = wr := ⟨_, rfl⟩
    have Hpa := Lib.hid hpa
    obtain ⟨vals, k1, k2⟩ := hpr
    obtain ⟨aO, cO, rfl⟩ := ownsRow_form k1
    rw [List.length_map] at k1
    rw [List.length_map]
    have hll := lds_len P k
    have K1 := Lib.hid k1; have K2 := Lib.hid k2
    have hzq := hpa.g.size
    clear k1 k2
    by_cases hlt : k < M
    · have cd := hpa.done.cell hlt
      simp only [rb] at cd
      have hls := lds_succ P k
      clear hpa
      cases hld : inP P k k with
      | true =>
        rw [hld] at cd
        have hl : ldB P k = false := by rw [ldB_inP, hld]; rfl
        rw [if_neg (by rw [hl]; simp), List.append_nil] at hls
        have Hls := Lib.hid hls; have Hl := Lib.hid hl
        clear hl hls hld
        go_wp2
        go_roundg (M - (k + 1))
        case measure => go_light; omega
        case rel => exact ⟨k + 1, by omega, rfl, by go_num, Hpa.out.congr fun q hq => (HP.out.other hlt Hl.out q hq).symm, by rw [Hls.out]; exact ⟨vals, by rw [List.length_map]; exact K1.out, K2.out⟩⟩
      | false =>
        rw [hld] at cd
        have hl : ldB P k = true := by rw [ldB_inP, hld]; rfl
        rw [if_pos hl] at hls
        have Hls := Lib.hid hls
        have hst := HP.out.clsTo_start hl
        have Hl := Lib.hid hl
        have hbw : Below w2.heap.size w2 wq := Hb5.out.grown Hpa.out.g Hb5.out.size (fun q e => by have := Option.some.inj e; omega)
        have HGq := Lib.hid (HG2.out.below hbw); have Hbw := Lib.hid hbw
        have Hst := Lib.hid hst
        clear hl hls hld hst hbw
        obtain rfl := hadr (by omega)
        go_upto_region 10 with fail
        clear cd
        go_wp2
        go_loopg [7, 8] (M - k) (fun g s7 s8 wr => ∃ i : Nat, k ≤ i ∧ i ≤ M ∧ g = M - i ∧ s8 = .int .i64 i ∧ PaS w5 wr M w2.heap.size (fun q => inP P k q || (decide (q < i) && eqvB P k q)) ∧ wq.grownBy wr (some w2.heap.size) ∧ OwnE wr wq.heap.size s7 ((clsTo P k i).map (atE E)))
        case atStart => exact ⟨k, Nat.le_refl _, hk, rfl, rfl, Hpa.out.congr fun q hq => by
          by_cases e : q < k
          · have := HP.out.ge Hl.out e; simp [this]
          · simp [e], World.grownBy.refl _ _, by rw [Hst.out]; exact OwnE.nil _ _⟩
        case round =>
          obtain ⟨i, hki, hi, rfl, rfl, hp3, hg3, ho3⟩ := hrel
          have hcl : ((clsTo P k i).map (atE E)).length ≤ i := by rw [List.length_map]; exact clsTo_len P k i
          obtain ⟨cc, hcc⟩ : ∃ cc, (clsTo P k i).map (atE E) = cc := ⟨_, rfl⟩
          rw [hcc] at ho3 hcl
          have Hcc := Lib.hid hcc
          obtain ⟨aP, cP, rfl⟩ := ho3.form
          clear hcc
          have Hp3 := Lib.hid hp3; have Hg3 := Lib.hid hg3; have Ho3 := Lib.hid ho3
          have hz3 := hg3.size
          have hbw3 : Below w2.heap.size w2 wr := Hb5.out.grown (Hpa.out.g.trans hg3) Hb5.out.size (fun q e => by have := Option.some.inj e; omega)
          have HG3 := Lib.hid (HG2.out.below hbw3)
          by_cases hil : i < M
          · obtain ⟨a, b, hab, hbN, eab⟩ := Hme.out k hlt
            obtain ⟨c, d, hcd, hdN, ecd⟩ := Hme.out i hil
            have x0 := (HC.out k hlt).1; have x1 := (HC.out k hlt).2
            have y0 := (HC.out i hil).1; have y1 := (HC.out i hil).2
            rw [eab] at x0 x1; rw [ecd] at y0 y1
            simp only at x0 x1 y0 y1
            have x0 := below_cell hbw3 x0; have x1 := below_cell hbw3 x1; have y0 := below_cell hbw3 y0; have y1 := below_cell hbw3 y1
            have Hbw3 := Lib.hid hbw3
            have cd := hp3.done.cell hil
            have fd := hp3.done.frozen i
            have ld := hp3.done.lt
            simp only [rb] at cd
            have hii : (decide (i < i) && eqvB P k i) = false := by simp
            rw [hii, Bool.or_false] at cd
            have hsu := clsTo_succ P k i
            have heq : eqvB P k i = P k i := HE.out k i
            rw [heq] at hsu
            have Hsep := Lib.hid (fun h => (HP.out.sep hlt hil Hl.out h : eqvB P k i = false))
            have Heq := Lib.hid heq; have Hsu := Lib.hid hsu
            clear hp3 hg3 ho3 hbw3 hii heq hsu
            go_upto_region 12 with fail
            go_cut [53] from 32 to 53 (fun s53 wx => s53 = .bool (P k i) ∧ Below wr.heap.size wr wx)
            case first =>
              cases hdn : inP P k i with
              | true =>
                rw [hdn] at cd
                have hv : P k i = false := by rw [← Heq.out]; exact Hsep.out hdn
                go_quiet (fail)
                go_wp2_with fail
                go_meet
                exact ⟨by rw [hv], Below.drewN' (Below.refl _ _) nq⟩
              | false =>
                rw [hdn] at cd
                by_cases e : k = i
                · have hv : P k i = true := by rw [← e]; exact HP.out.rf k hlt
                  have hv2 : (k : Int) = (i : Int) := by omega
                  clear e
                  go_quiet (fail)
                  go_wp2_with fail
                  go_meet
                  exact ⟨by rw [hv], Below.drewN' (Below.refl _ _) nq⟩
                · have hv := H1.out k i hlt hil e
                  rw [eab, ecd] at hv
                  have hv2 : ((k : Int) == (i : Int)) = false := by simp; omega
                  have hne : ¬ (a = c ∧ b = d) := fun h => e (by
                    refine atE_inj (N := N) (G := G) (by rw [HEq.out, HM.out]; exact hlt) (by rw [HEq.out, HM.out]; exact hil) ?_
                    rw [HEq.out, eab, ecd, h.1, h.2])
                  have Ho := Lib.hid (fun w' hb => onering_any N a b c d G (.slice ga N gc) w' hN (HG3.out.below hb) HGr.out hab hbN hcd hdN hne)
                  clear e hne
                  have q0 : wr.drew.cell? ⟨bb, o + k * 2, none⟩ = some (.int .i64 (a : Int)) ∧ wr.drew.cell? ⟨bb, o + k * 2 + 1, none⟩ = some (.int .i64 (b : Int)) ∧ wr.drew.cell? ⟨bb, o + i * 2, none⟩ = some (.int .i64 (c : Int)) ∧ wr.drew.cell? ⟨bb, o + i * 2 + 1, none⟩ = some (.int .i64 (d : Int)) ∧ wr.drew.cell? ⟨w2.heap.size, i, none⟩ = some (.bool false) := ⟨x0, x1, y0, y1, cd⟩
                  have hd0 : Below wr.heap.size wr wr.drew := (Below.refl _ _).drew
                  go_region_held3 (fun w' => w'.cell? ⟨bb, o + k * 2, none⟩ = some (.int .i64 (a : Int)) ∧ w'.cell? ⟨bb, o + k * 2 + 1, none⟩ = some (.int .i64 (b : Int)) ∧ w'.cell? ⟨bb, o + i * 2, none⟩ = some (.int .i64 (c : Int)) ∧ w'.cell? ⟨bb, o + i * 2 + 1, none⟩ = some (.int .i64 (d : Int)) ∧ w'.cell? ⟨w2.heap.size, i, none⟩ = some (.bool false))
                    (first | exact q0 | exact ⟨below_cell hbx x0, below_cell hbx x1, below_cell hbx y0, below_cell hbx y1, below_cell hbx cd⟩)
                    (first | (go_at_call 61; refine (Ho.out _ hd0).mono ?_; rintro e w5 ⟨rfl, hb5⟩; have hbx := upb hd0 hb5))
                  all_goals (go_wp2_with fail; go_meet; exact ⟨by first | rfl | rw [hv], hbx⟩)
            case rest =>
            obtain ⟨rfl, hb4⟩ := hcut
            rename World => w4
            have Hb4 := Lib.hid hb4
            have P4 := Lib.hid (Hp3.out.below hb4)
            have G4 := Lib.hid (Hg3.out.trans ((grown_of_below hb4).but (some w2.heap.size)))
            have Ho4 := Lib.hid (Ho3.out.below hb4)
            have hz4 := G4.out.size
            have Hsm := Lib.hid (show (clsTo P k (i + 1)).map (atE E) = cc ++ (if P k i = true then [((c : Int), (d : Int))] else []) from by
              rw [Hsu.out, List.map_append, Hcc.out]
              by_cases h : P k i = true
              · rw [if_pos h, if_pos h, List.map_cons, List.map_nil, ecd]
              · rw [if_neg h, if_neg h]; simp)
            have y0 := below_cell hb4 y0
            have y1 := below_cell hb4 y1
            clear cd fd ld x0 x1 hb4
            cases hb : P k i with
            | true =>
              have Hb := Lib.hid (Heq.out.trans hb)
              have Hsm2 := Lib.hid (show (clsTo P k (i + 1)).map (atE E) = cc ++ [((c : Int), (d : Int))] from by rw [Hsm.out, if_pos hb])
              clear hb
              have hx9 := below1 w4 (Obj.cells #[.int .i64 (c : Int), .int .i64 (d : Int)] 61)
              have Ho4a := Lib.hid (Ho4.out.below hx9)
              have P4a := Lib.hid (P4.out.below hx9)
              have G4a := Lib.hid (G4.out.trans ((grown_of_below hx9).but (some w2.heap.size)))
              have hz9 := G4a.out.size
              clear hx9
              go_upto_region 14 with (at_builtin; refine wpList_append_edges rfl (.tmp 54) (.tmp 59) 22 rfl wq.heap.size Try.underlying22 info2 _ cc rfl Ho4a.out _ [((c : Int), (d : Int))] rfl (edge_one _ _ _ _ rfl) _ rfl (by simp; omega) hz9 ?_; intro a8 c8 w8 ho8 hg8; have P8 := Lib.hid (P4a.out.grown hg8 (fun q e => Nat.le_trans hzq (World.ownsRow.lt Ho4a.out q e).1) hDz); have G8 := Lib.hid (G4a.out.andThen hg8 (fun q e => Or.inl (World.ownsRow.lt Ho4a.out q e).1)); have Ho8 := Lib.hid ho8; clear ho8 hg8)
              have cd8 := P8.out.done.cell hil
              have fd8 := P8.out.done.frozen i
              have ld8 := P8.out.done.lt
              clear y0 y1
              go_wp2
              go_roundg (M - (i + 1))
              case measure => go_light; omega
              case rel => exact ⟨i + 1, by omega, by omega, rfl, by go_num, (P8.out.set i true).congr fun q hq => by
                by_cases e : q = i
                · subst e; simp [Hb.out]
                · rw [if_neg e]
                  have : decide (q < i + 1) = decide (q < i) := by simp; omega
                  rw [this], G8.out.trans (grown_set _ w2.heap.size i _), by
                have h9 := Ho8.out.set (show w2.heap.size < wq.heap.size by omega) i (.bool true)
                rw [Hsm2.out]
                simpa only [List.length_append, List.length_cons, List.length_nil, Nat.zero_add] using h9⟩
            | false =>
              have Hb := Lib.hid (Heq.out.trans hb)
              have Hsm2 := Lib.hid (show (clsTo P k (i + 1)).map (atE E) = cc from by rw [Hsm.out, if_neg (by rw [hb]; simp), List.append_nil])
              clear hb y0 y1
              go_wp2
              go_roundg (M - (i + 1))
              case measure => go_light; omega
              case rel => exact ⟨i + 1, by omega, by omega, rfl, by go_num, P4.out.congr fun q hq => by
                by_cases e : q = i
                · subst e; simp [Hb.out]
                · have : decide (q < i + 1) = decide (q < i) := by simp; omega
                  rw [this], G4.out, by rw [Hsm2.out]; exact Ho4.out⟩
          · obtain rfl : i = M := by omega
            clear hp3 hbw3
            clear ho3
            have hgq : wq.grownBy wr (some w2.heap.size) := Hg3.out
            have K1' := Lib.hid (K1.out.kept hgq (own_side K1.out hDz))
            have K2' := Lib.hid (show ∀ j, j < ((lds P k).map fun i' => (cls i P i').map (atE E)).length → ∃ r, vals[j]? = some r ∧ OwnE wr w5.heap.size r (((lds P k).map fun i' => (cls i P i').map (atE E)).getD j []) ∧ ∀ g, r.ownBlock = some g → (Value.slice none 0 0).ownBlock ≠ some g from fun j hj => by
              obtain ⟨r, e, ho, hn⟩ := K2.out j hj
              have ho0 : wq.ownsRow w5.heap.size 61 2 r (((lds P k).map fun i' => (cls i P i').map (atE E)).getD j []).length (cells2 (((lds P k).map fun i' => (cls i P i').map (atE E)).getD j [])) := ho
              exact ⟨r, e, ho0.kept hgq (own_side ho0 hDz), hn⟩)
            have Ho4 := Lib.hid (Ho3.out.low hzq)
            clear hgq K1 K2
            generalize hnl : (lds P k).length = nl at *
            have Hnl := Lib.hid hnl
            clear hnl hg3
            go_wp2_with (at_builtin; refine wpList_append_at rfl (.tmp 64) (.tmp 66) 51 rfl w5.heap.size 22 (.slice none 0 0) 24 Try.underlying51 infoE rfl (.slice aO nl cO) nl vals rfl (K1'.out.alloc _) _ 1 [.slice aP cc.length cP] rfl (HasCells.one _ _ _ rfl) (by omega) (by omega) (by omega) (by simp; omega) ?_; intro a8 c8 w8 ho8 hg8 hat8; have P8 := Lib.hid ((Hp3.out.below (below1 wr (Obj.cells #[.slice aP cc.length cP] 22))).grown hg8 (fun q e => (K1'.out.lt q e).1) hDz); have R8 := Lib.hid (Blks.more (vs' := .slice none 0 0) (m := cc) (by rw [List.length_map, Hnl.out]; exact K1'.out) K2'.out (World.grownBy.refl _ _) Ho4.out (fun g _ e => by cases e) rfl (by rw [List.length_map, Hnl.out]; exact ho8) hg8); clear ho8 hg8 hat8)
            go_roundg (i - (k + 1))
            case measure => go_light; omega
            case rel => exact ⟨k + 1, by omega, rfl, by go_num, P8.out.congr fun q hq => by rw [inP_succ]; simp [hq], by rw [Hls.out, List.map_append, List.map_cons, List.map_nil, show (cls i P k).map (atE E) = cc from Hcc.out]; exact R8.out⟩
    · obtain rfl : k = M := by omega
      have hbw : Below w2.heap.size w2 wq := Hb5.out.grown Hpa.out.g Hb5.out.size (fun q e => by have := Option.some.inj e; omega)
      have hcl : clsE (edG N G) (twP N G) = (lds P k).map fun i => (cls k P i).map (atE E) := by
        unfold clsE
        rw [HP0.out, HEq.out, HM.out]
      have Hfin := Lib.hid (show Blks wq w.heap.size (.slice none 0 0) (.slice aO (lds P k).length cO) (clsE (edG N G) (twP N G)) from by
        rw [hcl]
        exact Blks.low ⟨vals, by rw [List.length_map]; exact K1.out, K2.out⟩ (by have := Hb2.out.size; omega))
      have Hbw := Lib.hid (upb Hb2.out hbw)
      clear hpa hbw
      go_wp2
      go_ret
      exact ⟨_, rfl, Hfin.out, Hbw.out⟩

end Go.Proofs.Ytmhcnekbfngafaa
