/- chords.cliques$2: Bron and Kerbosch. chords.cliques$2: Bron and Kerbosch, whole. -/
import Derived.Test.YtnhhohhhpaejmaaCli1W
import Derived.Test.YtnhhohhhpaejmaaValW
import Derived.Test.YtnhhohhhpaejmaaPF
import Derived.Test.YtnhhohhhpaejmaaPA
import Derived.Deep.RegionHeld3
import Derived.Deep.RegionLaw
import Derived.Deep.RegionLawGrows
namespace Go.Proofs.Ytnhhohhhpaejmaa
open Go Go.RowKit

abbrev bkF (O TT NN : Nat) : Value := .func (.func 56) #[] #[.pointer (some ⟨O, 0, none⟩), .pointer (some ⟨TT, 0, none⟩), .pointer (some ⟨NN, 0, none⟩)]
abbrev nrF (TB : Nat) : Value := .func (.func 55) #[] #[.pointer (some ⟨TB, 0, none⟩)]
/-- What the function literal finds. -/
structure BkEnv (w0 : World) (O TT NN TB N : Nat) (gv : Value) (G : Nat → Nat → Bool) : Prop where
  ct : w0.cell? ⟨TT, 0, none⟩ = some (bkF O TT NN)
  cn : w0.cell? ⟨NN, 0, none⟩ = some (nrF TB)
  cb : w0.cell? ⟨TB, 0, none⟩ = some gv
  gr : ∃ wg, HasGrid wg gv N G ∧ Below wg.heap.size wg w0 ∧ wg.heap.size ≤ O
  dT : TT ≠ O
  dN : NN ≠ O
  dB : TB ≠ O
  lo : O < w0.heap.size
theorem BkEnv.facts {w0 w : World} {O TT NN TB N : Nat} {gv : Value} {G : Nat → Nat → Bool} (h : BkEnv w0 O TT NN TB N gv G) (hc : Chg (· = O) w0 w) :
    (w.cell? ⟨TT, 0, none⟩ = some (bkF O TT NN) ∧ w.cell? ⟨NN, 0, none⟩ = some (nrF TB)) ∧ w.cell? ⟨TB, 0, none⟩ = some gv ∧ HasGrid w gv N G := by
  obtain ⟨wg, g1, g2, g3⟩ := h.gr
  refine ⟨⟨hc.cell h.ct h.dT, hc.cell h.cn h.dN⟩, hc.cell h.cb h.dB, g1.below ?_⟩
  exact g2.trans (hc.toBelow g2.size fun k hk e => by omega)

theorem sort_nat (I : List Nat) : (ints I).mergeSort (fun x y => decide (x ≤ y)) = ints (I.mergeSort fun x y => decide (x ≤ y)) :=
  (List.map_mergeSort fun a _ b _ => by simp).symm
theorem sort_pw (I : List Nat) : (I.mergeSort fun x y => decide (x ≤ y)).Pairwise (· ≤ ·) :=
  (List.pairwise_mergeSort (le := fun x y : Nat => decide (x ≤ y)) (fun a b c h1 h2 => by simp at *; omega) (fun a b => by simp; omega) I).imp fun h => by simpa using h

theorem vals_eq {wV W : World} {B : Nat} {L : List Int} (h : wV = W) (k : ValsAt W.heap.size W B L) : ValsAt wV.heap.size wV B L := by subst h; exact k

theorem own_len {w : World} {B n m : Nat} {e : TypeId} {v : Value} {xs ys : List Value} (h : w.ownsRow B e 1 v n xs) (hx : xs = ys) (hn : n = m) : w.ownsRow B e 1 v m ys := by subst hx hn; exact h

/-- What one call tells. -/
structure BkPost (N O : Nat) (G : Nat → Nat → Bool) (w0 w w' : World) (X : List (List Nat)) (I T : List Nat) (m : Nat) (Y : List (List Nat)) : Prop where
  st : ClSt w0 w' O (X ++ Y)
  ki : KI w w'
  nd : Y.Nodup
  iff : ∀ K, K ∈ Y ↔ Want N G I T K
  few : Y.length ≤ 2 ^ m

set_option maxHeartbeats 3200000 in
set_option maxRecDepth 100000 in
/-- Nothing is left. -/
theorem bk_leaf {N O TT NN TB : Nat} {gv : Value} {G : Nat → Nat → Bool} {w0 : World} (henv : BkEnv w0 O TT NN TB N gv G) (I : List Nat) (X : List (List Nat)) (w : World) (iv mv tv : Value) (hb : BkI N G I [] []) (hst : ClSt w0 w O X) (hi : TI w iv I) (hm : TI w mv []) (ht : TI w tv []) (hX : X.length < 17000000) (hIl : I.length ≤ 100) :
    Calls Try.prog 56 #[iv, mv, tv, .pointer (some ⟨O, 0, none⟩), .pointer (some ⟨TT, 0, none⟩), .pointer (some ⟨NN, 0, none⟩)] w fun e w' => e = .returned (.tuple #[]) ∧ ∃ Y, BkPost N O G w0 w w' X I [] 0 Y := by
  obtain ⟨ia, ic, rfl⟩ := hi.form
  obtain ⟨ma, mc, rfl⟩ := hm.form
  obtain ⟨ta, tc, rfl⟩ := ht.form
  obtain ⟨v, va, vc, hv, hrow, hir⟩ := hst.load
  subst hv
  obtain ⟨vals, hown, hrows⟩ := hir
  rw [List.length_map] at hown hrows
  have cO : w.cell? ⟨O, 0, none⟩ = some (.slice va X.length vc) := hrow.cell (show 0 < 1 by omega)
  have hOl := hrow.lt
  have hfin := fun K => BkI.full (K := K) hb (List.mergeSort_perm I _) (sort_pw I)
  obtain ⟨S, hS⟩ : ∃ S, S = I.mergeSort (fun x y => decide (x ≤ y)) := ⟨_, rfl⟩
  have hSl : S.length = I.length := by rw [hS, List.length_mergeSort]
  rw [← hS] at hfin
  have HS := Lib.hid hS; have Hfin := Lib.hid hfin; have Hrow := Lib.hid hrow; have Hown := Lib.hid hown; have Hrows := Lib.hid hrows; have Hst := Lib.hid hst; have Hi := Lib.hid hi
  have hcv : ((ints I).mergeSort fun x y => decide (x ≤ y)).map (Value.int .i64) = nvals S := by rw [sort_nat, ← hS]
  have hSl2 : (ints I).length = S.length := by rw [ints_length, hSl]
  have Hcv := Lib.hid hcv; have HSl := Lib.hid hSl2
  clear hcv hSl2
  have hlo := henv.lo
  have hsz0 := hst.ch.size
  clear hS hfin hrow hown hrows hst hi hm ht
  go_enter Try.func56, Try.ntmps56
  go_upto_region 1 with fail
  have hii : IsInts w (.slice ia (ints I).length ic) (ints I) := by rw [ints_length]; exact Hi.out.is
  have hlV : (ints I).length ≤ 100000 := by rw [ints_length]; omega
  have hvals := ValsAt.of_ints (w := w.drew) hii
  rw [ints_length] at hvals
  have Hvals := Lib.hid hvals
  clear hii hvals
  go_region_law (first
    | (go_simp; go_at_call 58; refine (values_any ia I.length ic _).mono ?_; rintro e wV ⟨rfl, hV⟩; have cV := below_cell (below1 w.drew (.cells #[.slice ia I.length ic] 29)) cO; rw [← hV] at cV; have hbV := upc (Below.refl w.heap.size w).drew (below1 w.drew (.cells #[.slice ia I.length ic] 29)); rw [← hV] at hbV; have hvV := vals_eq hV Hvals.out; have hsV : wV.heap.size = w.heap.size + 1 := (congrArg (fun W : World => W.heap.size) hV).trans (World.size_alloc _ _); clear hV)
    | (go_simp; go_at_call 57; refine (sortedV_any _ (ints I) hlV _ (Nat.lt_of_lt_of_le (Nat.lt_succ_self _) (Nat.le_of_eq hsV.symm)) hvV).mono ?_; rintro e wS ⟨r, rfl, hoS, hbS⟩; obtain ⟨aS, kS, rfl⟩ := ownsRow_form hoS; have cS := below_cell hbS cV; have hOS : O < wS.heap.size := Nat.lt_of_lt_of_le (Nat.lt_of_lt_of_le hOl hbV.size) hbS.size; have cS1 := below_cell (below1 wS (.cells #[.slice aS (ints I).length kS] 29)) cS)
    | (refine step_append_has rfl (.tmp 16) (.tmp 20) 42 rfl w0.heap.size 29 (.slice none 0 0) 24 Try.underlying42 infoS rfl (.slice va X.length vc) X.length vals rfl ((ownsRow_below (ownsRow_below Hown.out hbV (Nat.le_refl _)) hbS (Nat.le_refl _)).alloc _) _ 1 [.slice aS (ints I).length kS] rfl (HasCells.one _ _ _ rfl) (by omega) (by omega) (le_alloc (Nat.le_trans hsz0 (Nat.le_trans hbV.size hbS.size))) ?_; intro a3 c3 w3 ho3 hg3; have hpost := ClSt.more (o := .cells #[.slice aS (ints I).length kS] 29) henv.lo Hst.out Hrow.out (upc hbV hbS) Hown.out Hrows.out (S := S) (r := .slice aS (ints I).length kS) (B2 := wV.heap.size) (own_len hoS Hcv.out HSl.out) (Nat.le_trans hsz0 hbV.size) ho3 hg3; obtain ⟨hr3, hpost⟩ := hpost; have c3 : w3.cell? ⟨O, 0, none⟩ = some (.slice va X.length vc) := hr3.cell (show 0 < 1 by omega); have f3 := hr3.frozen 0; have Hpost := Lib.hid hpost; clear hpost hr3))
  all_goals
    obtain ⟨p1, p2⟩ := Hpost.out
    go_wp2
    exact bodyPost_ret (v := .tuple #[]) (by simp [results, Try.results56, go_sem]) rfl ⟨rfl, [S], p1, p2, by simp, fun K => by rw [List.mem_singleton]; exact (Hfin.out K).symm, by simp⟩

end Go.Proofs.Ytnhhohhhpaejmaa
namespace Go.Proofs.Ytnhhohhhpaejmaa
open Go Go.RowKit

theorem newC (w : World) (x : Value) (t : TypeId) : (w.alloc (.cells #[x] t)).cell? ⟨w.heap.size, 0, none⟩ = some x := by rw [World.cell?_alloc_at _ _ _ _ rfl]; rfl
theorem newCd (w : World) (x : Value) (t : TypeId) : (w.alloc (.cells #[x] t)).drew.cell? ⟨w.heap.size, 0, none⟩ = some x := newC w x t
theorem one_cells {w : World} {B : Nat} {x : Value} (h : w.cell? ⟨B, 0, none⟩ = some x) : ∀ j u, [x][j]? = some u → w.cell? ((⟨B, 0, none⟩ : Addr).add j) = some u := fun j u hu => by
  have hj : j = 0 := by have := (List.getElem?_eq_some_iff.1 hu).1; simpa using this
  subst hj
  simp only [List.getElem?_cons_zero, Option.some.injEq] at hu
  subst hu
  rw [Addr.add_lit]; exact h
theorem filter_lt {p : Nat → Bool} {v : Nat} {M : List Nat} (h : p v = false) : ((v :: M).filter p).length ≤ M.length := by
  rw [List.filter_cons_of_neg (by rw [h]; decide)]; exact List.length_filter_le _ _

set_option maxHeartbeats 6400000 in
set_option maxRecDepth 100000 in
theorem bk_any {N O TT NN TB : Nat} {gv : Value} {G : Nat → Nat → Bool} {w0 : World} (hN : N ≤ 100) (hsym : ∀ i j, i < N → j < N → G i j = G j i) (hirr : ∀ i, i < N → G i i = false) (henv : BkEnv w0 O TT NN TB N gv G) :
    ∀ (k : Nat) (I M T : List Nat) (X : List (List Nat)) (w : World) (iv mv tv : Value), M.length < k → BkI N G I M T → ClSt w0 w O X → TI w iv I → TI w mv M → TI w tv T → X.length + 2 ^ M.length ≤ 16777216 → I.length + M.length ≤ 100 → T.length + M.length ≤ 100 →
    Calls Try.prog 56 #[iv, mv, tv, .pointer (some ⟨O, 0, none⟩), .pointer (some ⟨TT, 0, none⟩), .pointer (some ⟨NN, 0, none⟩)] w fun e w' => e = .returned (.tuple #[]) ∧ ∃ Y, BkPost N O G w0 w w' X I T M.length Y := by
  intro k
  induction k with
  | zero => intro I M T X w iv mv tv h; omega
  | succ k ih =>
    intro I M T X w iv mv tv hk hb hst hi hm ht hX hIM hTM
    by_cases hz : T.length + M.length = 0
    · obtain rfl : M = [] := List.eq_nil_of_length_eq_zero (by omega)
      obtain rfl : T = [] := List.eq_nil_of_length_eq_zero (by omega)
      exact bk_leaf henv I X w iv mv tv hb hst hi hm ht (by simp at hX; omega) (by simp at hIM; omega)
    have Ih := Lib.hid ih; have Hb := Lib.hid hb; have Hst := Lib.hid hst; have Hi := Lib.hid hi; have Hm := Lib.hid hm; have Ht := Lib.hid ht; have HX := Lib.hid hX
    obtain ⟨ia, ic, rfl⟩ := hi.form
    obtain ⟨ma, mc, rfl⟩ := hm.form
    obtain ⟨ta, tc, rfl⟩ := ht.form
    have hzz : ((M.length : Int) + (T.length : Int) == 0) = false := by simp; omega
    obtain ⟨-, hil, him, -⟩ := hi.cell
    have hk' := Lib.hid hk
    clear ih hb hst hi hm ht hX hk
    go_enter Try.func56, Try.ntmps56
    go_wp2_with fail
    clear hzz
    go_loopg [1, 2] M.length (fun g s1 s2 wr => ∃ M' T' Y, g = M'.length ∧ TI wr s1 M' ∧ TI wr s2 T' ∧ BkI N G I M' T' ∧ Told N G I T T' Y ∧ (∀ u ∈ T, u ∈ T') ∧ T'.length + M'.length = T.length + M.length ∧ M'.length ≤ M.length ∧ Y.length + 2 ^ M'.length ≤ 2 ^ M.length ∧ ClSt w0 wr O (X ++ Y) ∧ KI w wr)
    case atStart => exact ⟨M, T, [], rfl, Hm.out, Ht.out, Hb.out, Told.start, fun u h => h, rfl, Nat.le_refl _, by simp, by simpa using Hst.out, KI.refl _⟩
    case round =>
      obtain ⟨M', T', Y, rfl, hm, ht, hb, hto, hsub, hlen, hml, hyl, hst, hki⟩ := hrel
      obtain ⟨ma', mc', rfl⟩ := hm.form
      obtain ⟨ta', tc', rfl⟩ := ht.form
      have Hm := Lib.hid hm; have Ht := Lib.hid ht; have HB := Lib.hid hb; have Hto := Lib.hid hto; have Hsub := Lib.hid hsub; have Hst := Lib.hid hst; have Hki := Lib.hid hki; have Hyl := Lib.hid hyl
      clear hm ht hb hto hsub hst hki hyl
      cases M' with
      | nil =>
        go_wp2
        go_end0
        refine ⟨rfl, Y, Hst.out, Hki.out, Hto.out.nd, fun K => Hto.out.done HB.out (fun e => ?_) K, ?_⟩
        · rw [e] at hlen; simp at hlen; omega
        · have := Hyl.out; simp at this; omega
      | cons v M2 =>
        have hvN := HB.out.mlt v (by simp)
        obtain ⟨-, m2, m3, -, m5⟩ := Hm.out.cell
        obtain ⟨mb, mo, rfl, hmc⟩ := m5 (by simp)
        have cv := hmc 0 (by simp)
        rw [Nat.add_zero] at cv
        simp only [List.getD_cons_zero] at cv
        obtain ⟨-, t2, t3, t4, -⟩ := Ht.out.cell
        simp only [List.length_cons] at hlen hml m2
        simp only [List.length_cons] at *
        obtain ⟨n, hn⟩ : ∃ n, M2.length = n := ⟨_, rfl⟩
        clear hmc m5
        rw [hn] at hlen hml m2 Hyl Hm ⊢
        have Hn := Lib.hid hn
        clear hn
        obtain ⟨i0, hi, hz0, hz1, hz2⟩ := info_parts info3
        have HI := Lib.hid (Hi.out.keep Hki.out)
        obtain ⟨⟨cT, cN⟩, cB, hgr⟩ := henv.facts Hst.out.ch
        have F := Lib.hid (fun W (h : Below wr.heap.size wr W) => (henv.facts (Hst.out.below h).ch).1)
        have hMl : ∀ x ∈ v :: M2, x < N := HB.out.mlt
        have hTl : ∀ x ∈ T', x < N := HB.out.tlt
        have hfl : ((v :: M2).filter (G v)).length ≤ n := by rw [← Hn.out]; exact filter_lt (hirr v hvN)
        obtain ⟨LM, hLM⟩ : ∃ LM, LM = (v :: M2).filter (G v) := ⟨_, rfl⟩
        obtain ⟨LT, hLT⟩ : ∃ LT, LT = T'.filter (G v) := ⟨_, rfl⟩
        have hft : LT.length ≤ T'.length := by rw [hLT]; exact List.length_filter_le _ _
        have hbc := HB.out.child hsym hirr
        have hMlen : (v :: M2).length = n + 1 := by rw [List.length_cons, Hn.out]
        have HnM := Lib.hid (fun W (h : Below wr.heap.size wr W) => (near1_any (G := G) W hN hvN hMl (by rw [hMlen]; omega) (Hm.out.below h) (below_cell h cB) (hgr.below h)).mono (R' := fun e w' => ∃ r, e = .returned r ∧ TI w' r LM ∧ Below W.heap.size W w') fun e w' ⟨r, h1, h2, h3⟩ => ⟨r, h1, TI.own (by rw [← hLM] at h2; exact h2), h3⟩)
        have HnT := Lib.hid (fun W (h : Below wr.heap.size wr W) => (near1_any (G := G) W hN hvN hTl (by omega) (Ht.out.below h) (below_cell h cB) (hgr.below h)).mono (R' := fun e w' => ∃ r, e = .returned r ∧ TI w' r LT ∧ Below W.heap.size W w') fun e w' ⟨r, h1, h2, h3⟩ => ⟨r, h1, TI.own (by rw [← hLT] at h2; exact h2), h3⟩)
        rw [← hLM, ← hLT] at hbc
        rw [← hLM] at hfl
        have OL := Lib.hid (fun W (h : Below wr.heap.size wr W) => ((HI.out.below h).clip).olds)
        have Hbc := Lib.hid hbc; have HLM := Lib.hid hLM; have HLT := Lib.hid hLT; have Hfl := Lib.hid hfl; have Hft := Lib.hid hft
        have hXc : (X ++ Y).length + 2 ^ LM.length ≤ 16777216 := by
          have h1 := HX.out; have h2 := Hyl.out
          have h3 : 2 ^ LM.length ≤ 2 ^ (n + 1) := Nat.pow_le_pow_right (by decide) (by omega)
          rw [List.length_append]; omega
        have hIc : (I ++ [v]).length + LM.length ≤ 100 := by rw [List.length_append, List.length_singleton]; omega
        have hTc : LT.length + LM.length ≤ 100 := by omega
        have hkc : LM.length < k := by have := hk'.out; omega
        have HC := Lib.hid (And.intro hkc (And.intro hXc (And.intro hIc hTc)))
        clear hbc hLM hLT hfl hft hXc hIc hTc hkc hMl hTl hMlen hgr
        go_upto_region 4 with fail
        clear cv
        go_cut [] from 28 to 42 (fun wx => ∃ Y2, BkPost N O G w0 wr wx (X ++ Y) (I ++ [v]) LT LM.length Y2)
        case first =>
          have hcur : Below wr.heap.size wr wr.drew := (Below.refl _ wr).drew
          have hcd : ∀ o, Below wr.heap.size wr (wr.alloc o).drew := fun o => (below1 wr o).drew
          go_region_held3 (fun w' => w'.cell? ⟨TT, 0, none⟩ = some (.func (.func 56) #[] #[.pointer (some ⟨O, 0, none⟩), .pointer (some ⟨TT, 0, none⟩), .pointer (some ⟨NN, 0, none⟩)]) ∧ w'.cell? ⟨NN, 0, none⟩ = some (.func (.func 55) #[] #[.pointer (some ⟨TB, 0, none⟩)]))
            (first | with_reducible exact F.out _ hcur | with_reducible exact F.out _ (upc hcur (below1 _ _)) | with_reducible exact F.out _ (hcd _) | exact (henv.facts hpE.st.ch).1 | fail)
            (first
              | (go_at_call 59; refine (clip_any ia I.length ic _ hil).mono ?_; rintro e wC ⟨rfl, hwC⟩; rw [hwC]; clear hwC)
              | (go_at_call_of 55 mc'; refine (HnM.out _ (by first | with_reducible exact hcur | with_reducible exact upc hcur (below1 _ _) | with_reducible exact hcd _)).mono ?_; rintro e wM ⟨rM, rfl, tM, hbM⟩; obtain ⟨aM, kM, rfl⟩ := tM.form; have hcur := (by first | with_reducible exact upc hcur hbM | with_reducible exact upc (upc hcur (below1 _ _)) hbM | with_reducible exact upc (hcd _) hbM : Below wr.heap.size wr wM); (first | have hnew := below_cell hbM hnew | have hnew := below_cell hbM (newC _ _ _) | have hnew := below_cell hbM (newCd _ _ _) | skip); (first | have tA := TI.below tA hbM | have tA := TI.below tA (upc (below1 _ _) hbM) | skip); (first | have tT := TI.below tT hbM | have tT := TI.below tT (upc (below1 _ _) hbM) | skip))
              | (go_at_call_of 55 tc'; refine (HnT.out _ (by first | with_reducible exact hcur | with_reducible exact upc hcur (below1 _ _) | with_reducible exact hcd _)).mono ?_; rintro e wT ⟨rT, rfl, tT, hbT⟩; obtain ⟨aT, kT, rfl⟩ := tT.form; have hcur := (by first | with_reducible exact upc hcur hbT | with_reducible exact upc (upc hcur (below1 _ _)) hbT | with_reducible exact upc (hcd _) hbT : Below wr.heap.size wr wT); (first | have hnew := below_cell hbT hnew | have hnew := below_cell hbT (newC _ _ _) | have hnew := below_cell hbT (newCd _ _ _) | skip); (first | have tA := TI.below tA hbT | have tA := TI.below tA (upc (below1 _ _) hbT) | skip); (first | have tM := TI.below tM hbT | have tM := TI.below tM (upc (below1 _ _) hbT) | skip))
              | (refine step_append_grows rfl (.tmp 30) (.tmp 32) 29 rfl 3 i0 (.int .i64 0) 1 8 Try.underlying29 hi hz0 hz1 hz2 rfl (by decide) ia I.length I.length (nvals I) rfl (OL.out _ (by first | with_reducible exact hcur | with_reducible exact upc hcur (below1 _ _) | with_reducible exact hcd _)).2.1 (OL.out _ (by first | with_reducible exact hcur | with_reducible exact upc hcur (below1 _ _) | with_reducible exact hcd _)).1 (OL.out _ (by first | with_reducible exact hcur | with_reducible exact upc hcur (below1 _ _) | with_reducible exact hcd _)).2.2 _ 1 1 (nvals [v]) rfl rfl (one_cells (by first | with_reducible exact hnew | with_reducible exact newC _ _ _ | with_reducible exact newCd _ _ _)) (ints_oneCell _ _) (by omega) (by unfold maxLen; omega) (by omega) ?_; intro vA wA hoA hgA; obtain ⟨aA, kA, rfl⟩ := ownsRow_form hoA; have hbA := below_grown0 hgA; have tA := TI.own (L := I ++ [v]) (by rw [nvals_append]; exact hoA); have hcur := (by first | with_reducible exact upc hcur hbA | with_reducible exact upc (upc hcur (below1 _ _)) hbA | with_reducible exact upc (hcd _) hbA : Below wr.heap.size wr wA); (first | have tM := TI.below tM hbA | have tM := TI.below tM (upc (below1 _ _) hbA) | skip); (first | have tT := TI.below tT hbA | have tT := TI.below tT (upc (below1 _ _) hbA) | skip); clear hoA hgA)
              | (go_at_call 56; refine (Ih.out (I ++ [v]) LM LT (X ++ Y) _ _ _ _ HC.out.1 Hbc.out (Hst.out.below hcur) tA tM tT HC.out.2.1 HC.out.2.2.1 HC.out.2.2.2).mono ?_; rintro e wE ⟨rfl, Y2, hpE⟩))
          all_goals
            go_wp2_with fail
            go_meet
            exact ⟨Y2, hpE.st, (KI.of hcur).trans hpE.ki, hpE.nd, hpE.iff, hpE.few⟩
        case rest =>
          obtain ⟨Y2, hp⟩ := hcut
          have Hp := Lib.hid hp
          have hm2 := Hm.out.keep hp.ki
          have ht2 := Ht.out.keep hp.ki
          obtain ⟨a', hrun0, ha'⟩ := run_slice_low (P := Try.prog) Try.underlying29 hi hz1 mb mo (n + 1) mc' 1 (by omega) m2 wc
          have hrun : (Instr.slice 29 (.slice (some ⟨mb, mo, none⟩) (n + 1) mc') (some (.int .i64 1)) none none).run Try.prog wc = .ok (.slice (some a') n (mc' - 1)) wc := hrun0
          have HM2 := Lib.hid (show TI wc (.slice (some a') n (mc' - 1)) M2 from hm2.tail ha')
          have OT := Lib.hid (fun W (h : Below wc.heap.size wc W) => ((ht2.below h).clip).olds)
          have htl : T'.length ≤ 100 := by omega
          clear hm2 ht2 hrun0 ha' hp cT cN cB HnM HnT OL HI F
          go_wp2_with (first
            | (go_at_call 59; refine (clip_any ta' T'.length tc' _ t2).mono ?_; rintro e wC ⟨rfl, hwC⟩; rw [hwC]; clear hwC)
            | (at_builtin; refine wpList_append_grows _ rfl (.tmp 46) (.tmp 48) 29 rfl 3 i0 (.int .i64 0) 1 8 Try.underlying29 hi hz0 hz1 hz2 rfl (by decide) ta' T'.length T'.length (nvals T') rfl (OT.out wc (Below.refl _ _)).2.1 (OT.out wc (Below.refl _ _)).1 (OT.out _ (below1 _ _)).2.2 _ 1 1 (nvals [v]) rfl rfl (one_cells (newC _ _ _)) (ints_oneCell _ _) (by omega) (by unfold maxLen; omega) (by omega) ?_; intro vA wA hoA hgA; obtain ⟨aA, kA, rfl⟩ := ownsRow_form hoA; have hbA := upc (below1 _ _) (below_grown0 hgA); have HA := Lib.hid (And.intro (TI.own (L := T' ++ [v]) (by rw [nvals_append]; exact hoA)) hbA); clear hoA hgA hbA))
          go_roundg n
          case measure => have hnn := Hn.out; go_light; omega
          case rel =>
            obtain ⟨tA, hbA⟩ := HA.out
            have hp := Hp.out
            have h1 : 2 ^ LM.length ≤ 2 ^ n := Nat.pow_le_pow_right (by decide) Hfl.out
            have h2 := hp.few
            have h3 := Hyl.out
            rw [Nat.pow_succ] at h3
            refine ⟨M2, T' ++ [v], Y ++ Y2, Hn.out.symm, HM2.out.below hbA, tA, HB.out.next, Hto.out.step hsym hirr HB.out Hsub.out hp.nd (fun K => by rw [← HLT.out]; exact hp.iff K), fun u hu => List.mem_append_left _ (Hsub.out u hu), ?_, ?_, ?_, ?_, (Hki.out.trans hp.ki).trans (KI.of hbA)⟩
            · rw [List.length_append, List.length_singleton, Hn.out]; omega
            · rw [Hn.out]; omega
            · rw [List.length_append, Hn.out]; omega
            · rw [← List.append_assoc]; exact hp.st.below hbA

end Go.Proofs.Ytnhhohhhpaejmaa
