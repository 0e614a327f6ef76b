/- arborref.Cliques: all greatest cliques by all sets of nodes. -/
import Derived.Test.YtnhhohhhpaejmaaPG
import Derived.Test.YtnhhohhhpaejmaaIsqW
import Derived.Test.YtnhhohhhpaejmaaPF
namespace Go.Proofs.Ytnhhohhhpaejmaa
open Go Go.RowKit

theorem isq_is {N : Nat} {G : Nat → Nat → Bool} {gv : Value} {s : Nat} {w : World} (b : Bool) (hb : if b then ClqS N G s else ¬ ClqS N G s) (hN : N ≤ 62) (hs : Few s) (hg : HasGrid w gv N G) :
    Calls Try.prog 40 #[gv, .int .i64 (s : Int)] w fun e w' => e = .returned (.bool b) ∧ w' = w :=
  (isq_any N G gv s w hN hs hg).mono fun e w' ⟨bb, he, hyes, hnot, hww⟩ => by
    refine ⟨?_, hww⟩
    cases b <;> cases bb
    · exact he
    · exact absurd (hyes rfl) hb
    · exact absurd hb (hnot rfl)
    · exact he
/-- No node below v could come to the set. -/
def TopT (N : Nat) (G : Nat → Nat → Bool) (s v : Nat) : Prop := ∀ u, u < v → s.testBit u = true ∨ ¬ ClqS N G (lor s (pow2 u))
/-- A flag that tells so. -/
def TopB (N : Nat) (G : Nat → Nat → Bool) (s v : Nat) (b : Bool) : Prop := (b = true → TopT N G s v) ∧ (b = false → ¬ TopT N G s v)
theorem TopB.start {N : Nat} {G : Nat → Nat → Bool} {s : Nat} : TopB N G s 0 true := ⟨fun _ u h => absurd h (Nat.not_lt_zero _), fun h => by cases h⟩
theorem TopB.no {N : Nat} {G : Nat → Nat → Bool} {s v : Nat} (h : TopB N G s v false) : TopB N G s (v + 1) false := ⟨(fun h => by cases h), fun _ k => h.2 rfl fun u hu => k u (by omega)⟩
theorem TopB.yes {N : Nat} {G : Nat → Nat → Bool} {s v : Nat} (h : TopB N G s v true) (hv : s.testBit v = true ∨ ¬ ClqS N G (lor s (pow2 v))) : TopB N G s (v + 1) true := ⟨fun _ u hu => by
  by_cases e : u = v
  · subst e; exact hv
  · exact h.1 rfl u (by omega), (fun h => by cases h)⟩
theorem TopB.out {N : Nat} {G : Nat → Nat → Bool} {s v : Nat} (h1 : s.testBit v = false) (h2 : ClqS N G (lor s (pow2 v))) : TopB N G s (v + 1) false := ⟨(fun h => by cases h), fun _ k => by
  rcases k v (by omega) with e | e
  · rw [h1] at e; cases e
  · exact e h2⟩

set_option maxHeartbeats 6400000 in
set_option maxRecDepth 100000 in
theorem rcq_any (N : Nat) (G : Nat → Nat → Bool) (gv : Value) (w : World) (hN : N ≤ 11) (hsym : ∀ i j, i < N → j < N → G i j = G j i) (hg : HasGrid w gv N G) :
    Calls Try.prog 18 #[gv] w fun e w' => ∃ r L, e = .returned r ∧ RcI N G (2 ^ N) L ∧ IRow w' w.heap.size r (L.map ints) ∧ Below w.heap.size w w' := by
  obtain ⟨ga, gc, rfl⟩ := HasGrid.form hg
  have Hg := Lib.hid hg; have Hsym := Lib.hid hsym
  obtain ⟨M, hM⟩ : ∃ M : Nat, M = 2 ^ N := ⟨_, rfl⟩
  have e0 := op_shl (show N < 62 by omega)
  rw [show pow2 N = M from hM.symm] at e0
  have hM1 : M ≤ 2048 := by rw [hM]; exact Nat.pow_le_pow_right (n := 2) (by decide) hN
  have hM0 : 1 ≤ M := by rw [hM]; exact Nat.two_pow_pos N
  have HM := Lib.hid hM
  clear hM hg hsym
  go_enter Try.func18, Try.ntmps18
  go_wp2
  go_loopg [3, 4, 5, 6, 7, 8, 9] (M - 1) (fun g s3 s4 s5 s6 s7 s8 s9 wr => ∃ s X, 1 ≤ s ∧ s ≤ M ∧ g = M - s ∧ s4 = .int .i64 (s : Int) ∧ RcI N G s X ∧ IRow wr w.heap.size s3 (X.map ints) ∧ Below w.heap.size w wr)
  case atStart => exact ⟨1, [], Nat.le_refl _, hM0, rfl, rfl, RcI.start, IRow.nil _ _, Below.refl _ _⟩
  case round =>
    obtain ⟨s, X, hs1, hsM, rfl, rfl, hI, hir, hb⟩ := hrel
    obtain ⟨xa, xc, rfl⟩ := hir.form
    rw [List.length_map] at hir ⊢
    have HI := Lib.hid hI; have Hir := Lib.hid hir; have Hb := Lib.hid hb
    have hXl : X.length ≤ s := hI.len (by rw [← HM.out]; exact hsM)
    have hsz := hb.size
    clear hI hir hb
    by_cases hlt : s < M
    · have hsF : Few s := by show s < 4611686018427387904; omega
      have Hgr := Lib.hid (Hg.out.below Hb.out)
      have HsF := Lib.hid hsF
      by_cases hcl : ClqS N G s
      · have Hcl := Lib.hid hcl
        have Hc1 := Lib.hid (isq_is true hcl (by omega) hsF Hgr.out)
        clear hcl
        go_wp2_with (go_at_call 40; refine Hc1.out.mono ?_; rintro e w' ⟨rfl, hww⟩; rw [hww]; clear hww)
        clear Hc1
        go_loopg [5, 6] N (fun g s5 s6 wr2 => ∃ (v : Nat) (b : Bool), v ≤ N ∧ g = N - v ∧ s6 = .int .i64 (v : Int) ∧ s5 = .bool b ∧ wr2 = wr ∧ TopB N G s v b)
        case atStart => exact ⟨0, true, Nat.zero_le _, rfl, rfl, rfl, rfl, TopB.start⟩
        case round =>
          obtain ⟨v, b, hv, rfl, rfl, rfl, hww, ht⟩ := hrel
          subst hww
          have Ht := Lib.hid ht
          clear ht
          by_cases hvN : v < N
          · cases b with
            | false =>
              go_wp2_with fail
              go_roundg (N - (v + 1))
              case measure => go_light; omega
              case rel => exact ⟨v + 1, false, by omega, rfl, by go_num, rfl, rfl, Ht.out.no⟩
            | true =>
              have e1 := op_shr s v
              have e2 := op_bit (v := v) hsF
              have e3 := op_shl (show v < 62 by omega)
              have e4 := op_or hsF (pow2_few (show v < 62 by omega))
              cases hbit : s.testBit v with
              | true =>
                have Hbit := Lib.hid hbit
                rw [bit_one hbit, show ((1 : Nat) : Int) = 1 from rfl] at e2
                clear hbit e3 e4
                generalize shr s v = sv at *
                go_wp2_with fail
                go_roundg (N - (v + 1))
                case measure => go_light; omega
                case rel => exact ⟨v + 1, true, by omega, rfl, by go_num, rfl, rfl, Ht.out.yes (.inl Hbit.out)⟩
              | false =>
                have Hbit := Lib.hid hbit
                rw [bit_zero hbit, show ((0 : Nat) : Int) = 0 from rfl] at e2
                clear hbit
                have hlF : Few (lor s (pow2 v)) := lor_few hsF (pow2_few (show v < 62 by omega))
                by_cases hc2 : ClqS N G (lor s (pow2 v))
                · have Hc2 := Lib.hid (isq_is true hc2 (by omega) hlF Hgr.out)
                  have Hcl2 := Lib.hid hc2
                  clear hc2 hlF
                  generalize hlv : lor s (pow2 v) = lv at *
                  generalize shr s v = sv at *
                  have Hlv := Lib.hid hlv
                  clear hlv
                  go_wp2_with (go_at_call 40; refine Hc2.out.mono ?_; rintro e w' ⟨rfl, hww⟩; rw [hww]; clear hww)
                  go_roundg (N - (v + 1))
                  case measure => go_light; omega
                  case rel => exact ⟨v + 1, false, by omega, rfl, by go_num, rfl, rfl, TopB.out Hbit.out (by rw [Hlv.out]; exact Hcl2.out)⟩
                · have Hc2 := Lib.hid (isq_is false hc2 (by omega) hlF Hgr.out)
                  have Hcl2 := Lib.hid hc2
                  clear hc2 hlF
                  generalize hlv : lor s (pow2 v) = lv at *
                  generalize shr s v = sv at *
                  have Hlv := Lib.hid hlv
                  clear hlv
                  go_wp2_with (go_at_call 40; refine Hc2.out.mono ?_; rintro e w' ⟨rfl, hww⟩; rw [hww]; clear hww)
                  go_roundg (N - (v + 1))
                  case measure => go_light; omega
                  case rel => exact ⟨v + 1, true, by omega, rfl, by go_num, rfl, rfl, Ht.out.yes (.inr (by rw [Hlv.out]; exact Hcl2.out))⟩
          · obtain rfl : v = N := by omega
            cases b with
            | false =>
              go_wp2_with fail
              go_roundg (M - (s + 1))
              case measure => go_light; omega
              case rel => exact ⟨s + 1, X, by omega, by omega, rfl, by go_num, HI.out.skip (fun hm => Ht.out.2 rfl fun u hu => ((max_iff Hsym.out).1 hm).2 u hu), by first | exact Hir.out | (rw [List.length_map]; exact Hir.out), Hb.out⟩
            | true =>
              have Hmx := Lib.hid ((max_iff Hsym.out).2 ⟨Hcl.out, fun u hu => Ht.out.1 rfl u hu⟩)
              go_wp2_with fail
              obtain ⟨wo, rfl⟩ : ∃ wo : World, wo = wr := ⟨_, rfl⟩
              go_loopg [7, 8] v (fun g s7 s8 wr3 => ∃ u : Nat, u ≤ v ∧ g = v - u ∧ s8 = .int .i64 (u : Int) ∧ wr3.ownsRow wo.heap.size 3 1 s7 (setL u s).length (nvals (setL u s)) ∧ Below wo.heap.size wo wr3)
              case atStart => exact ⟨0, Nat.zero_le _, rfl, rfl, by rw [show setL 0 s = [] by simp [setL]]; exact World.ownsRow_nil _ _ _ _, Below.refl _ _⟩
              case round =>
                obtain ⟨u, hu, rfl, rfl, hol, hbl⟩ := hrel
                obtain ⟨la, lc, rfl⟩ := ownsRow_form hol
                have hll := setL_len u s
                have hzl := hbl.size
                have Hol := Lib.hid hol; have Hbl := Lib.hid hbl
                clear hol hbl
                by_cases huv : u < v
                · have e1 := op_shr s u
                  have e2 := op_bit (v := u) hsF
                  have Hsu := Lib.hid (setL_succ u s)
                  generalize hcc : setL u s = cc at *
                  have Hcc := Lib.hid hcc
                  clear hcc
                  cases hbit : s.testBit u with
                  | true =>
                    have Hbit := Lib.hid hbit
                    rw [bit_one hbit, show ((1 : Nat) : Int) = 1 from rfl] at e2
                    clear hbit
                    generalize shr s u = sv at *
                    go_wp2_with (at_builtin; refine wpList_append_has rfl (.tmp 57) (.tmp 59) 29 rfl wo.heap.size 3 (.int .i64 0) 8 Try.underlying29 info3 rfl _ cc.length (nvals cc) rfl (Hol.out.alloc _) _ 1 (nvals [u]) rfl (HasCells.one _ _ _ rfl) (by omega) (by omega) (by simp; omega) ?_; intro a2 c2 w2 hown2 hg2; have Hown2 := Lib.hid hown2; have Hg2 := Lib.hid ((Hbl.out.alloc hzl (Obj.cells #[Value.int .i64 (u : Int)] 3)).grown hg2 (by rw [World.size_alloc]; omega) (fun g e => (Hol.out.lt g e).1)); clear hown2 hg2)
                    go_roundg (v - (u + 1))
                    case measure => go_light; omega
                    case rel =>
                      refine ⟨u + 1, by omega, rfl, by go_num, ?_, Hg2.out⟩
                      rw [Hsu.out, Hbit.out, if_pos rfl, List.length_append, nvals_append]
                      exact Hown2.out
                  | false =>
                    have Hbit := Lib.hid hbit
                    rw [bit_zero hbit, show ((0 : Nat) : Int) = 0 from rfl] at e2
                    clear hbit
                    generalize shr s u = sv at *
                    go_wp2
                    go_roundg (v - (u + 1))
                    case measure => go_light; omega
                    case rel =>
                      refine ⟨u + 1, by omega, rfl, by go_num, ?_, Hbl.out⟩
                      rw [Hsu.out, Hbit.out, if_neg (by decide), List.append_nil]
                      exact Hol.out
                · obtain rfl : u = v := by omega
                  obtain ⟨w4, rfl⟩ : ∃ w4 : World, w4 = wr := ⟨_, rfl⟩
                  obtain ⟨x, hx⟩ : ∃ x, x = setL u s := ⟨_, rfl⟩
                  rw [← hx] at Hol Hmx hll ⊢
                  have Hx := Lib.hid hx
                  clear hx huv hu
                  obtain ⟨vals, hown, hrows⟩ := Hir.out.below Hbl.out
                  rw [List.length_map] at hown hrows
                  have Hown := Lib.hid hown; have Hrows := Lib.hid hrows
                  have hB4 : w.heap.size ≤ w4.heap.size := Nat.le_trans hsz hzl
                  have Hb4 := Lib.hid (Hb.out.trans (Hbl.out.mono hsz))
                  clear hown hrows
                  go_wp2_with (at_builtin; refine wpList_append_has rfl (.tmp 63) (.tmp 65) 42 rfl w.heap.size 29 (.slice none 0 0) 24 Try.underlying42 infoS rfl (.slice xa X.length xc) X.length vals rfl (Hown.out.alloc _) _ 1 [.slice la x.length lc] rfl (HasCells.one _ _ _ rfl) (by omega) (by omega) (by simp; omega) ?_; intro a5 c5 w5 ho5 hg5; obtain ⟨g5, k5, he5⟩ := ownsRow_some2 ho5; rw [he5] at ho5; obtain ⟨rfl, rfl⟩ : a5 = some ⟨g5, 0, none⟩ ∧ c5 = k5 := (by simpa using he5); have hapd := IRow.app (o := .cells #[.slice la x.length lc] 29) Hown.out Hrows.out Hol.out hsz ho5 hg5; have H5 := Lib.hid hapd; have Hb5 := Lib.hid ((Hb4.out.alloc hB4 (.cells #[.slice la x.length lc] 29)).grown hg5 (by rw [World.size_alloc]; omega) (fun g e => (Hown.out.lt g e).1)); clear hapd ho5 hg5 he5)
                  obtain ⟨w5', rfl⟩ : ∃ W : World, W = w5 := ⟨_, rfl⟩
                  go_loopg [9] X.length (fun g s9 wr3 => ∃ (k : Nat) (y : List Nat), k ≤ X.length ∧ k = g ∧ s9 = .int .i64 (k : Int) ∧ IRow wr3 w.heap.size (.slice (some ⟨g5, 0, none⟩) (X.length + 1) c5) ((X.take k ++ y :: X.drop k).map ints) ∧ wr3.ownsRow w.heap.size 3 1 (.slice la x.length lc) (ints x).length (ivals (ints x)) ∧ Below w.heap.size w wr3 ∧ ∀ z ∈ X.drop k, LstLt x z)
                  case atStart => exact ⟨X.length, x, Nat.le_refl _, rfl, rfl, by rw [ins_start]; exact H5.out.1, H5.out.2, Hb5.out, fun z hz => by rw [List.drop_length] at hz; cases hz⟩
                  case round =>
                    obtain ⟨k, y, hk, rfl, rfl, hik, hok, hbk, hzk⟩ := hrel
                    have Hik := Lib.hid hik; have Hok := Lib.hid hok; have Hbk := Lib.hid hbk; have Hzk := Lib.hid hzk
                    have hZl : ((X.take k ++ y :: X.drop k).map ints).length = X.length + 1 := by rw [List.length_map, ins_len hk]
                    have HZl := Lib.hid hZl
                    obtain ⟨ea, ec, ck, fk, -⟩ := hik.at' (show k < ((X.take k ++ y :: X.drop k).map ints).length by rw [hZl]; omega)
                    clear hik hok hbk hzk hZl
                    cases k with
                    | zero =>
                      have Hfin := Lib.hid (Hik.out.put (k := 0) (show 0 < _ by rw [HZl.out]; omega) Hok.out)
                      have hs1' := HI.out.put hs1 (by rw [← HM.out]; exact hlt) (by rw [← Hx.out]; exact Hmx.out) (Nat.zero_le _) (by rw [← Hx.out]; exact Hzk.out) (fun h => absurd h (Nat.lt_irrefl _))
                      have Hs1 := Lib.hid hs1'
                      clear hs1'
                      go_wp2_with fail
                      go_roundg (M - (s + 1))
                      case measure => go_light; omega
                      case rel =>
                        refine ⟨s + 1, _, by omega, by omega, rfl, by go_num, Hs1.out, ?_, Hbk.out.setCell (p := ⟨g5, 0, none⟩) (by show w.heap.size ≤ g5; exact (Hik.out.lt g5 rfl).1) _⟩
                        have hf := Hfin.out
                        rw [← List.map_set, ins_set (Nat.zero_le _)] at hf
                        rw [← Hx.out]
                        exact hf
                    | succ k =>
                      have hkX : k < X.length := hk
                      obtain ⟨fa, fc, ck2, -, hro⟩ := Hik.out.at' (show k < ((X.take (k + 1) ++ y :: X.drop (k + 1)).map ints).length by rw [HZl.out]; omega)
                      rw [getD_ints, ins_at hkX] at ck2 hro
                      have Hro := Lib.hid hro
                      have Hbf := Lib.hid (fun W (hb : Below wr.heap.size wr W) => bef_any W ((IsInts.owned Hok.out).below hb) ((IsInts.owned hro).below hb))
                      have hXk : X.getD k [] ∈ X := by rw [List.getD, List.getElem?_eq_getElem hkX]; exact List.getElem_mem _
                      have HXk := Lib.hid hXk
                      have hdr : X.drop k = X.getD k [] :: X.drop (k + 1) := by
                        rw [List.drop_eq_getElem_cons hkX, List.getD, List.getElem?_eq_getElem hkX]; rfl
                      have Hdr := Lib.hid hdr
                      clear hro hXk hdr
                      by_cases hll2 : LstLt x (X.getD k [])
                      · have Hll := Lib.hid hll2
                        have hcm : decide (cmpI (ints x) (ints (X.getD k [])) < 0) = true := decide_eq_true ((cmpI_neg x (X.getD k [])).2 hll2)
                        have Hcm := Lib.hid hcm
                        have Hput := Lib.hid (fun W (hb : Below wr.heap.size wr W) => ((Hik.out.below hb).put (k := k + 1) (show k + 1 < _ by rw [HZl.out]; omega) (show W.ownsRow w.heap.size 3 1 (.slice fa (ints (X.getD k [])).length fc) (ints (X.getD k [])).length (ivals (ints (X.getD k []))) from ownsRow_below Hro.out hb (Nat.le_refl _))))
                        generalize hcc : X.getD k [] = cc at *
                        have Hcc := Lib.hid hcc
                        clear hll2 hcm hcc
                        go_wp2_with (go_at_call 41; refine (Hbf.out _ (by first | exact Below.refl _ _ | exact Below.drewN' (Below.refl _ _) _)).mono ?_; rintro e w' ⟨rfl, hd⟩; rw [Hcm.out]; obtain ⟨nd, rfl⟩ := hd)
                        go_roundg k
                        case measure => go_light; omega
                        case rel =>
                          have hbd : Below wr.heap.size wr (wr.drewN nd) := Below.drewN' (Below.refl _ _) _
                          refine ⟨k, cc, by omega, rfl, by go_num, ?_, (Hik.out.below hbd).keepL (ownsRow_below Hok.out hbd (Nat.le_refl _)), (Below.drewN' Hbk.out nd).setCell (p := ⟨g5, k + 1, none⟩) (by show w.heap.size ≤ g5; exact (Hik.out.lt g5 rfl).1) _, ?_⟩
                          · have hf := Hput.out _ hbd
                            have hs := ins_shift (y := y) hkX
                            rw [Hcc.out] at hs
                            rw [← List.map_set, hs] at hf
                            exact hf
                          · intro z hz
                            rw [Hdr.out] at hz
                            rcases List.mem_cons.1 hz with e | e
                            · rw [e]; exact Hll.out
                            · exact Hzk.out z e
                      · have Hll := Lib.hid hll2
                        have hcm : decide (cmpI (ints x) (ints (X.getD k [])) < 0) = false := decide_eq_false fun h => hll2 ((cmpI_neg x (X.getD k [])).1 h)
                        have Hcm := Lib.hid hcm
                        have hs1' := HI.out.put (k := k + 1) hs1 (by rw [← HM.out]; exact hlt) (by rw [← Hx.out]; exact Hmx.out) hk (by rw [← Hx.out]; exact Hzk.out) (fun _ => by rw [← Hx.out]; exact hll2)
                        have Hs1 := Lib.hid hs1'
                        have Hput := Lib.hid (fun W (hb : Below wr.heap.size wr W) => ((Hik.out.below hb).put (k := k + 1) (show k + 1 < _ by rw [HZl.out]; omega) (ownsRow_below Hok.out hb (Nat.le_refl _))))
                        generalize hcc : X.getD k [] = cc at *
                        clear hll2 hcm hcc hs1'
                        go_wp2_with (go_at_call 41; refine (Hbf.out _ (by first | exact Below.refl _ _ | exact Below.drewN' (Below.refl _ _) _)).mono ?_; rintro e w' ⟨rfl, hd⟩; rw [Hcm.out]; obtain ⟨nd, rfl⟩ := hd)
                        go_roundg (M - (s + 1))
                        case measure => go_light; omega
                        case rel =>
                          have hbd : Below wr.heap.size wr (wr.drewN nd) := Below.drewN' (Below.refl _ _) _
                          refine ⟨s + 1, _, by omega, by omega, rfl, by go_num, Hs1.out, ?_, (Below.drewN' Hbk.out nd).setCell (p := ⟨g5, k + 1, none⟩) (by show w.heap.size ≤ g5; exact (Hik.out.lt g5 rfl).1) _⟩
                          have hf := Hput.out _ hbd
                          rw [← List.map_set, ins_set hk] at hf
                          rw [← Hx.out]
                          exact hf
      · have Hcl := Lib.hid hcl
        have Hc1 := Lib.hid (isq_is false hcl (by omega) hsF Hgr.out)
        clear hcl
        go_wp2_with (go_at_call 40; refine Hc1.out.mono ?_; rintro e w' ⟨rfl, hww⟩; rw [hww]; clear hww)
        go_roundg (M - (s + 1))
        case measure => go_light; omega
        case rel => exact ⟨s + 1, X, by omega, by omega, rfl, by go_num, HI.out.skip (fun hm => Hcl.out ((max_iff Hsym.out).1 hm).1), by first | exact Hir.out | (rw [List.length_map]; exact Hir.out), Hb.out⟩
    · obtain rfl : s = M := by omega
      go_wp2
      go_ret
      exact ⟨_, X, rfl, by rw [← HM.out]; exact HI.out, Hir.out, Hb.out⟩

end Go.Proofs.Ytnhhohhhpaejmaa
