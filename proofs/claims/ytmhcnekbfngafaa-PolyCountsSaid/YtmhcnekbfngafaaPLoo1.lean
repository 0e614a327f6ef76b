/- The function literal inside poly.Loose: without the least node, and with it. -/
import Derived.Test.YtmhcnekbfngafaaPC
import Derived.Test.YtmhcnekbfngafaaPD
import Derived.Deep.LoopGhost
import Derived.Deep.Light
import Derived.StillTailTactics
namespace Go.Proofs.Ytmhcnekbfngafaa
open Go Go.RowKit

/-- What the function literal finds. -/
structure LEnv (w0 : World) (TT NN R N : Nat) (M : Nat → Nat) : Prop where
  ct : w0.cell? ⟨TT, 0, none⟩ = some (.func (.func 56) #[] #[.pointer (some ⟨TT, 0, none⟩), .pointer (some ⟨NN, 0, none⟩)])
  cn : w0.cell? ⟨NN, 0, none⟩ = some (.slice (some ⟨R, 0, none⟩) N N)
  row : w0.rowIs R 3 N (rn M)
theorem LEnv.below {w0 w : World} {TT NN R N : Nat} {M : Nat → Nat} (h : LEnv w0 TT NN R N M) (hb : Below w0.heap.size w0 w) : LEnv w TT NN R N M :=
  ⟨below_cell hb h.ct, below_cell hb h.cn, h.row.of_block (hb.block _ h.row.lt)⟩

set_option maxHeartbeats 6400000 in
set_option maxRecDepth 100000 in
theorem ploo1_any {N : Nat} {l : List (Int × Int)} (hN : N ≤ 12) (hno : ∀ v, adj l v v = false) {w0 : World} {TT NN R : Nat} (henv : LEnv w0 TT NN R N (near l N)) : ∀ (k s : Nat) (w : World), s < k → s < 2 ^ N → Below w0.heap.size w0 w →
    Calls Try.prog 56 #[.int .i64 (s : Int), .pointer (some ⟨TT, 0, none⟩), .pointer (some ⟨NN, 0, none⟩)] w fun e w' =>
      ∃ v L, e = .returned v ∧ IsCnt L (looA N (adj l) s) ∧ 0 < L.length ∧ OwnC w' w.heap.size v L ∧ Below w.heap.size w w' := by
  intro k
  induction k with
  | zero => intro s w h; omega
  | succ k ih =>
    intro s w hk hs hb
    have Ih := Lib.hid ih; have Hs := Lib.hid hs; have Hb := Lib.hid hb
    have hp : 2 ^ N ≤ 4096 := Nat.pow_le_pow_right (n := 2) (by decide) hN
    have hs4 : s < 4096 := by omega
    have hfew : Few s := by show s < 4611686018427387904; omega
    have Hp := Lib.hid hp
    clear ih hs hb hp
    go_enter Try.func56, Try.ntmps56
    by_cases hz : s = 0
    · subst hz
      go_wp2
      go_ret
      exact ⟨_, [1], rfl, cnt_one _ (looA_zero N (adj l)), by decide, World.ownsRow_lit w #[.int .i64 1] 1 (Nat.le_refl _) (by decide) rfl, below1 _ _⟩
    · have hzi : ((s : Int) == 0) = false := by simp; omega
      obtain ⟨c, hcN, hcb, hlow⟩ := low_bit hz Hs.out
      have Hlow := Lib.hid hlow; have Hcb := Lib.hid hcb
      clear hlow hcb
      go_wp2
      go_loopg [5] c (fun g s5 wr => ∃ v : Nat, v ≤ c ∧ g = c - v ∧ s5 = .int .i64 (v : Int) ∧ w = wr)
      case atStart => exact ⟨0, Nat.zero_le _, rfl, rfl, rfl⟩
      case round =>
        obtain ⟨v, hv, rfl, rfl, rfl⟩ := hrel
        have e3 := op_shr s v
        by_cases hvc : v < c
        · have e4 : bits .and .i64 (shr s v : Int) 1 = 0 := by rw [op_bit hfew, bit_zero (Hlow.out v hvc)]; rfl
          go_wp2
          go_roundg (c - (v + 1))
          case measure => go_light; omega
          case rel => exact ⟨v + 1, by omega, rfl, by go_num, rfl⟩
        · obtain rfl : v = c := by omega
          have e4 : bits .and .i64 (shr s v : Int) 1 = 1 := by rw [op_bit hfew, bit_one Hcb.out]; rfl
          clear hvc hv
          have e1 := op_shl (show v < 62 by omega)
          have e2 := op_andNot hfew (pow2_few (show v < 62 by omega))
          have htl : less s (pow2 v) < s := less_lt Hcb.out
          have Htl := Lib.hid htl
          have HStep := Lib.hid (fun q => looA_step (G := adj l) (nv := near l N v) hcN Hcb.out (adj_sy l) hno (fun i => by unfold near; rw [maskOf_bit]) q)
          have hEw := henv.below Hb.out
          have ct := hEw.ct
          generalize ht : less s (pow2 v) = t at *
          clear ht htl
          go_upto_region 8 with (first
            | (go_at_call 56; refine (Ih.out t w (by have := Htl.out; omega) (by have := Htl.out; have := Hs.out; omega) Hb.out).mono ?_; rintro e w1 ⟨mv1, L1, rfl, hL1, hL0, ho1, hb1⟩; have HL1 := Lib.hid hL1; have Hb1 := Lib.hid hb1; have Ho1 := Lib.hid ho1; have hI1 := Lib.hid (IsInts.owned ho1); have hl1 := hL1.short (fun k hk => looA_far hk); obtain ⟨g1, cap1, rfl, -, -, -, -⟩ := ho1.form hL0; have hz1 := hb1.size; clear hL1 hb1 ho1)
            | (at_builtin; refine wpList_append_has rfl (.const (.slice none 0 0)) (.tmp 26) 39 rfl w.heap.size 3 (.int .i64 0) 8 Try.underlying39 info3 rfl _ 0 [] rfl (World.ownsRow_nil _ _ _ _) _ L1.length (L1.map (Value.int .i64)) rfl hI1.out.cells (by omega) (by omega) (by omega) ?_; intro a1 c1 w2 hown2 hg2; simp only [Nat.zero_add, List.nil_append] at hown2; have hb2 := below_grown0 hg2; have Hown2 := Lib.hid hown2; have Hb2 := Lib.hid (Hb1.out.trans (hb2.mono Hb1.out.size)); clear hown2 hg2 hb2))
          have hEw2 := LEnv.below henv (Hb.out.trans (Hb2.out.mono Hb.out.size))
          have Hb02 := Lib.hid (Hb.out.trans (Hb2.out.mono Hb.out.size))
          have t1 := hEw2.row.cell hcN
          simp only [rn] at t1
          have cn := hEw2.cn
          have ct2 := hEw2.ct
          have htf : Few t := by show t < 4611686018427387904; have := Htl.out; omega
          have e5 := op_andNot htf (show Few (near l N v) from maskOf_few (adj l v) (show N ≤ 62 by omega))
          have htm : less t (near l N v) ≤ t := less_le _ _
          have Htm := Lib.hid htm
          have hz2 := Hb2.out.size
          clear ct e1 e2 e3 e4 htm hI1
          generalize near l N v = nv at *
          generalize ht2 : less t nv = t2 at *
          clear ht2
          go_cut [35, 36, 37] from 28 to 37 (fun s35 s36 s37 wx => ∃ mv M, mv = s35 ∧ s36 = .int .i64 (M.length : Int) ∧ s37 = .int .i64 0 ∧ IsCnt M (looA N (adj l) t2) ∧ 0 < M.length ∧ OwnC wx w2.heap.size mv M ∧ Below w2.heap.size w2 wx)
          case first =>
            go_region_with (go_at_call 56; refine (Ih.out t2 _ (by have := Htl.out; have := Htm.out; omega) (by have := Htl.out; have := Htm.out; have := Hs.out; omega) (by first | exact Hb02.out.drew | exact Hb02.out | exact Hb02.out.drewN _)).mono ?_; rintro e w4 ⟨mv, M, rfl, hM, hM0, ho4, hb4⟩; obtain ⟨g4, cap4, rfl, -, -, -, -⟩ := OwnC.form ho4 hM0)
            all_goals (go_wp2_with fail; go_meet; exact ⟨_, M, rfl, rfl, rfl, hM, hM0, ho4, (Below.refl _ _).drew.trans hb4⟩)
          case rest =>
            obtain ⟨mv, M, rfl, rfl, rfl, hM, hM0, ho4, hb4⟩ := hcut
            clear cn ct2 t1 e5
            have HM := Lib.hid hM
            have hlM := hM.short (fun k hk => looA_far hk)
            have hM1 := fun j => hM.at' j
            have hm1 := fun j => looA_few N (adj l) t2 j
            have hL1' := fun j => HL1.out.at' j
            have hl1' := fun j => looA_few N (adj l) t j
            have HB := Lib.hid (show ∀ k, k < M.length → 0 ≤ M.getD k 0 ∧ M.getD k 0 ≤ 4096 ∧ 0 ≤ (shN L1 M k).getD (k + 1) 0 ∧ (shN L1 M k).getD (k + 1) 0 ≤ 4096 from fun k _ => by
              have a1 := hm1 k; have a2 := hl1' (k + 1); have a3 := Hp.out
              rw [shN_getD, if_neg (by omega), hM1, hL1']
              omega)
            have hcm : CM w wc (.slice a1 L1.length c1) (shN L1 M 0) mv M := ⟨ownsRow_below Hown2.out hb4 (Nat.le_refl _), IsInts.owned ho4, fun g e => (World.ownsRow.lt ho4 g e).2, fun g e e2 => by
              have := (World.ownsRow.lt ho4 g e).1
              have := (World.ownsRow.lt Hown2.out g e2).2
              omega, Hb2.out.trans (hb4.mono Hb2.out.size)⟩
            obtain ⟨gm, capm, rfl, -, -, -, -⟩ := OwnC.form ho4 hM0
            have Hcm := Lib.hid hcm
            clear hM hM1 hm1 hL1' hl1' hcm ho4 hb4
            go_wp2
            go_loopg [7, 37] M.length (fun g s7 s37 wr => ∃ k : Nat, k ≤ M.length ∧ g = M.length - k ∧ s37 = .int .i64 (k : Int) ∧ CM w wr s7 (shN L1 M k) (.slice (some ⟨gm, 0, none⟩) M.length capm) M)
            case atStart => exact ⟨0, Nat.zero_le _, rfl, rfl, Hcm.out⟩
            case round =>
              obtain ⟨k, hkM, rfl, rfl, hcm⟩ := hrel
              by_cases hlt : k < M.length
              · obtain ⟨b, o, cap, e, cell⟩ := hcm.im.cellAt hlt
                simp only [Value.slice.injEq, Option.some.injEq, Addr.mk.injEq, and_true, true_and] at e
                obtain ⟨⟨rfl, rfl⟩, rfl⟩ := e
                rw [Nat.zero_add] at cell
                obtain ⟨x0, x1, y0, y1⟩ := HB.out k hlt
                have Hst := Lib.hid (show shN L1 M (k + 1) = addAt (shN L1 M k) (k + 1) (M.getD k 0) from rfl)
                have hll : (shN L1 M k).length ≤ 14 := by
                  rw [shN_length]
                  split <;> omega
                have hLk : ∀ n, (extL (shN L1 M k) n).getD (k + 1) 0 = (shN L1 M k).getD (k + 1) 0 := fun n => ext_getD _ _ _
                generalize shN L1 M k = Lk at *
                obtain ⟨k1, hk1⟩ : ∃ k1, k1 = k + 1 := ⟨_, rfl⟩
                rw [← hk1] at y0 y1 hLk
                have hwk : IntKind.i64.wrap ((k : Int) + 1) = (k1 : Int) := by rw [hk1]; exact wrap_nat (n := k + 1) (by omega)
                have HLk := Lib.hid hLk
                have Hk1 := Lib.hid hk1
                have hk13 : k1 ≤ 14 := by omega
                obtain ⟨aL, cL, rfl⟩ := ownsRow_form hcm.own
                have Hcm2 := Lib.hid hcm
                clear hcm hLk hk1
                generalize M.getD k 0 = vx at *
                obtain ⟨w5, rfl⟩ : ∃ w5 : World, w5 = wr := ⟨_, rfl⟩
                go_wp2
                clear cell
                go_loopg [7] (k1 + 1 - Lk.length) (fun g s7 wx => ∃ Le : List Int, Lk.length ≤ Le.length ∧ Le.length ≤ max Lk.length (k1 + 1) ∧ Le = extL Lk Le.length ∧ g = k1 + 1 - Le.length ∧ CM w wx s7 Le (.slice (some ⟨gm, 0, none⟩) M.length capm) M)
                case atStart => exact ⟨Lk, Nat.le_refl _, by omega, (ext_self _ (Nat.le_refl _)).symm, rfl, Hcm2.out⟩
                case round =>
                  obtain ⟨Le, h1, h2, h3, rfl, hcm⟩ := hrel
                  have H3 := Lib.hid h3
                  have Hcm3 := Lib.hid hcm
                  have hsz := hcm.hb.size
                  by_cases hle : Le.length ≤ k1
                  · obtain ⟨aL, cL, rfl⟩ := ownsRow_form hcm.own
                    clear hcm h3
                    go_wp2_with (at_builtin; refine wpList_append_at rfl (.tmp 47) (.tmp 48) 39 rfl w.heap.size 3 (.int .i64 0) 8 Try.underlying39 info3 rfl _ Le.length (Le.map (Value.int .i64)) rfl (Hcm3.out.own.alloc _) _ 1 [.int .i64 0] rfl (HasCells.one _ _ _ rfl) (by omega) (by omega) (by omega) (by rw [World.size_alloc]; omega) ?_; intro a6 c6 w6 hown6 hg6 hat6; have Hcm6 := Lib.hid (Hcm3.out.app hown6 hg6 hat6); clear hown6 hg6 hat6)
                    go_roundg (k1 + 1 - (Le.length + 1))
                    case measure => go_light; omega
                    case rel => exact ⟨Le ++ [0], by simp; omega, by simp; omega, by
                      rw [List.length_append]
                      conv => lhs; rw [H3.out]
                      exact ext_snoc Lk h1, by simp, Hcm6.out⟩
                  · obtain ⟨gL, cL, rfl, -, hgl, cells, frz⟩ := OwnC.form hcm.own (by omega)
                    have cc := cells k1 (by omega)
                    have ff := frz k1
                    have hv := HLk.out Le.length
                    rw [← H3.out] at hv
                    rw [hv] at cc
                    have Hv := Lib.hid hv
                    clear hcm h3 cells frz hv
                    generalize Lk.getD k1 0 = vc at *
                    have hws : IntKind.i64.wrap (vc + vx) = vc + vx := by
                      obtain ⟨a, ha⟩ := Int.eq_ofNat_of_zero_le (show 0 ≤ vc + vx by omega)
                      rw [ha]; exact wrap_nat (by omega)
                    go_wp2
                    go_roundg (M.length - (k + 1))
                    case measure => go_light; omega
                    case rel => exact ⟨k + 1, by omega, rfl, by rw [Hk1.out], by
                      have h8 := H3.out
                      have h7 := addAt_set Lk k1 vx h1 (by omega) h2
                      rw [← h8, Hv.out] at h7
                      rw [Hst.out, ← Hk1.out, ← h7]
                      exact Hcm3.out.set k1 (vc + vx)⟩
              · obtain rfl : k = M.length := by omega
                have Hcm3 := Lib.hid hcm
                obtain ⟨aL, cL, rfl⟩ := ownsRow_form hcm.own
                clear hcm
                go_wp2
                go_ret
                exact ⟨_, _, rfl, IsCnt.sh HL1.out HM.out (fun i => (looA_few _ _ _ i).1) (fun i => (looA_few _ _ _ i).1) HStep.out hL0, by rw [shN_length]; split <;> omega, Hcm3.out.own, Hcm3.out.hb⟩

end Go.Proofs.Ytmhcnekbfngafaa
