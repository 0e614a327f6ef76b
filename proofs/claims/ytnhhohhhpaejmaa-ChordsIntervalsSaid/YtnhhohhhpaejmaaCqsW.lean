/- chords.cliques: all greatest cliques, in the order of lists. -/
import Derived.Test.YtnhhohhhpaejmaaPS
import Derived.Test.YtnhhohhhpaejmaaCmpW
import Derived.Test.YtnhhohhhpaejmaaPG
namespace Go.Proofs.Ytnhhohhhpaejmaa
open Go Go.RowKit

/-- The list of all greatest cliques. -/
structure IsCqs (N : Nat) (G : Nat → Nat → Bool) (L : List (List Nat)) : Prop where
  asc : L.Pairwise LstLt
  iff : ∀ K, K ∈ L ↔ MaxCl N G K ∧ K ≠ []
theorem IsCqs.uniq {N : Nat} {G : Nat → Nat → Bool} {L M : List (List Nat)} (h : IsCqs N G L) (k : IsCqs N G M) : L = M := lists_uniq h.asc k.asc fun K => (h.iff K).trans (k.iff K).symm

theorem maxCl_ne {N : Nat} {G : Nat → Nat → Bool} {K : List Nat} (hN : 0 < N) (h : MaxCl N G K) : K ≠ [] := fun e => by
  subst e
  obtain ⟨x, hx, -⟩ := h.top 0 hN (by simp)
  cases hx
theorem maxCl_zero {G : Nat → Nat → Bool} {K : List Nat} (h : MaxCl 0 G K) : K = [] := List.eq_nil_iff_forall_not_mem.2 fun v hv => absurd (h.lt v hv) (Nat.not_lt_zero v)
set_option maxHeartbeats 3200000 in
set_option maxRecDepth 100000 in
theorem cliques_any {N : Nat} {G : Nat → Nat → Bool} {gv : Value} (w : World) (hN : N ≤ 24) (hsym : ∀ i j, i < N → j < N → G i j = G j i) (hirr : ∀ i, i < N → G i i = false) (hg : HasGrid w gv N G) :
    Calls Try.prog 38 #[gv] w fun e w' => ∃ r L, e = .returned r ∧ IsCqs N G L ∧ L.length ≤ 16777216 ∧ IRow w' w.heap.size r (L.map ints) ∧ Below w.heap.size w w' := by
  obtain ⟨ga, gc, rfl⟩ := HasGrid.form hg
  have Hg := Lib.hid hg
  clear hg
  go_enter Try.func38, Try.ntmps38
  go_upto_region 3 with fail
  have hb1 : Below w.heap.size w (((w.alloc (Obj.cells #[.slice ga N gc] 34)).alloc (Obj.cells #[.slice none 0 0] 42)).alloc (Obj.cells #[.nilFunc] 79)) := upc (upc (below1 _ _) (below1 _ _)) (below1 _ _)
  have q1 : (((w.alloc (Obj.cells #[.slice ga N gc] 34)).alloc (Obj.cells #[.slice none 0 0] 42)).alloc (Obj.cells #[.nilFunc] 79)).cell? ⟨w.heap.size, 0, none⟩ = some (.slice ga N gc) := below_cell (upc (below1 _ _) (below1 _ _)) (newC w _ _)
  have q2 : (((w.alloc (Obj.cells #[.slice ga N gc] 34)).alloc (Obj.cells #[.slice none 0 0] 42)).alloc (Obj.cells #[.nilFunc] 79)).rowIs (w.heap.size + 1) 42 1 (fun _ => .slice none 0 0) := by
    have h := World.rowIs_alloc (w.alloc (Obj.cells #[.slice ga N gc] 34)) #[.slice none 0 0] 42 (fun _ => .slice none 0 0) (fun i hi => by
      match i, hi with
      | 0, _ => rfl)
    rw [World.size_alloc] at h
    exact h.alloc _
  have q3 : (((w.alloc (Obj.cells #[.slice ga N gc] 34)).alloc (Obj.cells #[.slice none 0 0] 42)).alloc (Obj.cells #[.nilFunc] 79)).rowIs (w.heap.size + 1 + 1) 79 1 (fun _ => .nilFunc) := by
    have h := World.rowIs_alloc ((w.alloc (Obj.cells #[.slice ga N gc] 34)).alloc (Obj.cells #[.slice none 0 0] 42)) #[.nilFunc] 79 (fun _ => .nilFunc) (fun i hi => by
      match i, hi with
      | 0, _ => rfl)
    rw [World.size_alloc, World.size_alloc] at h
    exact h
  have hz1 : (((w.alloc (Obj.cells #[.slice ga N gc] 34)).alloc (Obj.cells #[.slice none 0 0] 42)).alloc (Obj.cells #[.nilFunc] 79)).heap.size = w.heap.size + 3 := by rw [World.size_alloc, World.size_alloc, World.size_alloc]
  generalize ((w.alloc (Obj.cells #[.slice ga N gc] 34)).alloc (Obj.cells #[.slice none 0 0] 42)).alloc (Obj.cells #[.nilFunc] 79) = w1 at *
  have Hb1 := Lib.hid hb1; have Q1 := Lib.hid q1; have Q2 := Lib.hid q2; have Q3 := Lib.hid q3; have Hz1 := Lib.hid hz1
  clear hb1 q1 q2 q3 hz1
  have hfn := run_store_fn (P := Try.prog) (w1.alloc (Obj.cells #[.nilFunc] 80)) ⟨w1.heap.size, 0, none⟩ (.func 55) #[] #[.pointer (some ⟨w.heap.size, 0, none⟩)]
  go_upto_region 4 with fail
  have hz2 : (w1.alloc (Obj.cells #[nrF w.heap.size] 80)).heap.size = w.heap.size + 4 := by rw [World.size_alloc, Hz1.out]
  have hb2 := below1 w1 (Obj.cells #[nrF w.heap.size] 80)
  have q4 := newC w1 (nrF w.heap.size) 80
  have Q1' := Lib.hid (below_cell hb2 Q1.out); have Q2' := Lib.hid (Q2.out.of_block (hb2.block _ Q2.out.lt)); have q3' := Q3.out.of_block (hb2.block _ Q3.out.lt); have Hb2 := Lib.hid (upc Hb1.out hb2)
  have hz1 := Hz1.out
  rw [hz1] at q4 ⊢
  change Code.wp _ _ _ _ (w1.alloc (Obj.cells #[nrF w.heap.size] 80))
  generalize w1.alloc (Obj.cells #[nrF w.heap.size] 80) = w2 at *
  have Q4 := Lib.hid q4
  have c3 : w2.cell? ⟨w.heap.size + 1 + 1, 0, none⟩ = some .nilFunc := q3'.cell (show 0 < 1 by omega)
  have f3 := q3'.frozen 0
  have Q3' := Lib.hid q3'; have Hz2 := Lib.hid hz2
  have hfn := run_store_fn (P := Try.prog) w2 ⟨w.heap.size + 1 + 1, 0, none⟩ (.func 56) #[] #[.pointer (some ⟨w.heap.size + 1, 0, none⟩), .pointer (some ⟨w.heap.size + 1 + 1, 0, none⟩), .pointer (some ⟨w.heap.size + 3, 0, none⟩)]
  clear q3' hb2 hz2 hz1 q4 Q1 Q2 Q3 Hz1 Hb1
  go_upto_region 5 with fail
  clear c3 f3
  have hr3 := Q3'.out.set 0 (bkF (w.heap.size + 1) (w.heap.size + 1 + 1) (w.heap.size + 3))
  have hc3 := hr3.cell (show 0 < 1 by omega)
  simp only [if_pos] at hc3
  have hEnv : BkEnv (w2.setCell ⟨w.heap.size + 1 + 1, 0, none⟩ (bkF (w.heap.size + 1) (w.heap.size + 1 + 1) (w.heap.size + 3))) (w.heap.size + 1) (w.heap.size + 1 + 1) (w.heap.size + 3) w.heap.size N (.slice ga N gc) G := by
    refine ⟨hc3, ?_, ?_, ⟨w, Hg.out, Hb2.out.setCell (p := ⟨w.heap.size + 1 + 1, 0, none⟩) (by show w.heap.size ≤ w.heap.size + 1 + 1; omega) _, by omega⟩, by omega, by omega, by omega, by rw [size_setCell, Hz2.out]; omega⟩
    · rw [World.cell?_setCell_far _ _ _ _ (show w.heap.size + 1 + 1 ≠ w.heap.size + 3 by omega)]; exact Q4.out
    · rw [World.cell?_setCell_far _ _ _ _ (show w.heap.size + 1 + 1 ≠ w.heap.size by omega)]; exact Q1'.out
  have hz3 : (w2.setCell ⟨w.heap.size + 1 + 1, 0, none⟩ (bkF (w.heap.size + 1) (w.heap.size + 1 + 1) (w.heap.size + 3))).heap.size = w.heap.size + 4 := by rw [size_setCell, Hz2.out]
  have hb3 : Below w.heap.size w (w2.setCell ⟨w.heap.size + 1 + 1, 0, none⟩ (bkF (w.heap.size + 1) (w.heap.size + 1 + 1) (w.heap.size + 3))) := Hb2.out.setCell (p := ⟨w.heap.size + 1 + 1, 0, none⟩) (by show w.heap.size ≤ w.heap.size + 1 + 1; omega) _
  have hst : ClSt (w2.setCell ⟨w.heap.size + 1 + 1, 0, none⟩ (bkF (w.heap.size + 1) (w.heap.size + 1 + 1) (w.heap.size + 3))) (w2.setCell ⟨w.heap.size + 1 + 1, 0, none⟩ (bkF (w.heap.size + 1) (w.heap.size + 1 + 1) (w.heap.size + 3))) (w.heap.size + 1) [] :=
    ⟨Chg.refl _ _, .slice none 0 0, Q2'.out.setOther (a := ⟨w.heap.size + 1 + 1, 0, none⟩) (show w.heap.size + 1 ≠ w.heap.size + 1 + 1 by omega) _, IRow.nil _ _⟩
  change Code.wp _ _ _ _ (w2.setCell ⟨w.heap.size + 1 + 1, 0, none⟩ (bkF (w.heap.size + 1) (w.heap.size + 1 + 1) (w.heap.size + 3)))
  generalize w2.setCell ⟨w.heap.size + 1 + 1, 0, none⟩ (bkF (w.heap.size + 1) (w.heap.size + 1 + 1) (w.heap.size + 3)) = w3 at *
  have Henv := Lib.hid hEnv; have Hst := Lib.hid hst; have Hb3 := Lib.hid hb3; have Hz3 := Lib.hid hz3
  clear Q1' Q2' Q3' Q4 Hb2 Hz2 hr3 hc3 hEnv hst hb3 hz3
  have cB := Henv.out.cb
  go_wp2
  clear cB
  go_loopg [6, 12] N (fun g s6 s12 wr => ∃ k : Nat, k ≤ N ∧ g = N - k ∧ s12 = .int .i64 (k : Int) ∧ wr.ownsRow w3.heap.size 3 1 s6 k (nvals (List.range k)) ∧ Below w3.heap.size w3 wr)
  case atStart => exact ⟨0, Nat.zero_le _, rfl, rfl, World.ownsRow_nil _ _ _ _, Below.refl _ _⟩
  case round =>
    obtain ⟨k, hk, rfl, rfl, ho, hb⟩ := hrel
    obtain ⟨a0, c0, rfl⟩ := ownsRow_form ho
    have Ho := Lib.hid ho; have Hb := Lib.hid hb
    have hsz := hb.size
    clear ho hb
    by_cases hlt : k < N
    · go_wp2_with (at_builtin; refine wpList_append_has rfl (.tmp 15) (.tmp 17) 29 rfl w3.heap.size 3 (.int .i64 0) 8 Try.underlying29 info3 rfl _ k (nvals (List.range k)) rfl (Ho.out.alloc _) _ 1 (nvals [k]) rfl (HasCells.one _ _ _ rfl) (by omega) (by omega) (by simp; omega) ?_; intro a2 c2 w2 hown2 hg2; have Hown2 := Lib.hid hown2; have Hg2 := Lib.hid ((Hb.out.alloc hsz (Obj.cells #[Value.int .i64 (k : Int)] 3)).grown hg2 (by rw [World.size_alloc]; omega) (fun g e => (Ho.out.lt g e).1)); clear hown2 hg2)
      go_roundg (N - (k + 1))
      case measure => go_light; omega
      case rel =>
        refine ⟨k + 1, by omega, rfl, by go_num, ?_, Hg2.out⟩
        rw [List.range_succ, nvals_append]
        exact Hown2.out
    · obtain rfl : k = N := by omega
      obtain ⟨wo, rfl⟩ : ∃ wo : World, wo = wr := ⟨_, rfl⟩
      have Hstr := Lib.hid (Hst.out.below (Hb.out.mono (Nat.le_refl _)))
      obtain ⟨⟨cT, -⟩, -, -⟩ := Henv.out.facts Hstr.out.ch
      clear hlt hk
      go_upto_if 22 with fail
      obtain ⟨b, hbk⟩ : ∃ b, decide (0 < k) = b := ⟨_, rfl⟩
      rw [hbk]
      have HBk := Lib.hid hbk
      clear hbk
      go_cut [] from 23 to 25 (fun wx => ∃ Y, ClSt w3 wx (w.heap.size + 1) Y ∧ Y.Nodup ∧ (∀ K, K ∈ Y ↔ MaxCl k G K ∧ K ≠ []) ∧ Y.length ≤ 16777216)
      case first =>
        cases b with
        | false =>
          go_wp2
          go_meet
          exact ⟨[], Hstr.out, List.nodup_nil, fun K => ⟨(fun h => by cases h), fun ⟨h1, h2⟩ => absurd (by
            have h0 : k = 0 := by have := of_decide_eq_false HBk.out; omega
            subst h0
            exact maxCl_zero h1) h2⟩, by simp⟩
        | true =>
          have h0' := Lib.hid (of_decide_eq_true HBk.out)
          have hp : 2 ^ k ≤ 16777216 := Nat.pow_le_pow_right (n := 2) (by decide) hN
          have hT : TI wo (.slice a0 k c0) (List.range k) := TI.own Ho.out
          have Hcall := Lib.hid (bk_any (by omega) hsym hirr Henv.out (k + 1) [] (List.range k) [] [] wo (.slice none 0 0) (.slice a0 k c0) (.slice none 0 0) (by rw [List.length_range]; omega) (BkI.root hirr) Hstr.out (TI.nil _) hT (TI.nil _) (by rw [List.length_range]; simpa using hp) (by rw [List.length_range]; simp; omega) (by rw [List.length_range]; simp; omega))
          have Hp := Lib.hid hp
          clear hp hT
          go_wp2_with (go_at_call 56; refine Hcall.out.mono ?_; rintro e wE ⟨rfl, Y, hpE⟩)
          go_meet
          refine ⟨Y, by simpa using hpE.st, hpE.nd, fun K => (hpE.iff K).trans (want_all.trans ⟨fun h => ⟨h, maxCl_ne h0'.out h⟩, fun h => h.1⟩), ?_⟩
          have h1 := hpE.few
          rw [List.length_range] at h1
          exact Nat.le_trans h1 Hp.out
      case rest =>
        obtain ⟨Y, hY, hYn, hYi, hYl⟩ := hcut
        obtain ⟨v, va, vc, hv, hrow, hir⟩ := hY.load
        subst hv
        have cO : wc.cell? ⟨w.heap.size + 1, 0, none⟩ = some (.slice va Y.length vc) := hrow.cell (show 0 < 1 by omega)
        have Hrow := Lib.hid hrow; have Hir := Lib.hid hir; have HY := Lib.hid hY; have Hn := Lib.hid hYn; have Hi := Lib.hid hYi
        clear cT hrow hir hY hYn hYi
        go_upto_region 14 with (go_at_call 60; refine (sortL_any Hir.out (by omega)).mono ?_; rintro e wS ⟨rfl, L', hiL, hgL, hpL, hsL⟩; have HiL := Lib.hid hiL; have HgL := Lib.hid hgL; have HpL := Lib.hid hpL; have HsL := Lib.hid hsL; clear hiL hgL hpL hsL)
        have hlt := Hir.out.lt
        have cS : wS.cell? ⟨w.heap.size + 1, 0, none⟩ = some (.slice va Y.length vc) := (Hrow.out.of_block (HgL.out.block _ Hrow.out.lt fun e => by have := (hlt _ e.symm).1; have := Hz3.out; omega)).cell (show 0 < 1 by omega)
        have Hlt := Lib.hid hlt
        clear cO hlt
        go_wp2
        go_ret
        refine ⟨_, L', rfl, ⟨rises HsL.out (HpL.out.nodup_iff.2 Hn.out), fun K => HpL.out.mem_iff.trans (Hi.out K)⟩, by rw [HpL.out.length_eq]; exact hYl, HiL.out.low (by rw [Hz3.out]; omega), ?_⟩
        have h1 := Hb3.out.trans (HY.out.ch.toBelow Hb3.out.size fun q hq e => by omega)
        exact h1.grown HgL.out h1.size fun g e => by have := (Hlt.out g e).1; have := Hz3.out; omega

end Go.Proofs.Ytnhhohhhpaejmaa
