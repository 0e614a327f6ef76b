/- chords.cliques$2: Bron and Kerbosch. -/
import Derived.Test.YtnhhohhhpaejmaaCli1W
import Derived.Test.YtnhhohhhpaejmaaValW
import Derived.Test.YtnhhohhhpaejmaaPF
import Derived.Test.YtnhhohhhpaejmaaPA
import Derived.Deep.RegionHeld3
import Derived.Deep.RegionLaw
import Derived.Deep.RegionLawGrows
namespace Go.Proofs.Ytnhhohhhpaejmaa
open Go Go.RowKit

abbrev bkF (O TT NN : Nat) : Value := .func (.func 56) #[] #[.pointer (some ⟨O, 0, none⟩), .pointer (some ⟨TT, 0, none⟩), .pointer (some ⟨NN, 0, none⟩)]
abbrev nrF (TB : Nat) : Value := .func (.func 55) #[] #[.pointer (some ⟨TB, 0, none⟩)]
/-- What the function literal finds. -/
structure BkEnv (w0 : World) (O TT NN TB N : Nat) (gv : Value) (G : Nat → Nat → Bool) : Prop where
  ct : w0.cell? ⟨TT, 0, none⟩ = some (bkF O TT NN)
  cn : w0.cell? ⟨NN, 0, none⟩ = some (nrF TB)
  cb : w0.cell? ⟨TB, 0, none⟩ = some gv
  gr : ∃ wg, HasGrid wg gv N G ∧ Below wg.heap.size wg w0 ∧ wg.heap.size ≤ O
  dT : TT ≠ O
  dN : NN ≠ O
  dB : TB ≠ O
  lo : O < w0.heap.size
theorem BkEnv.facts {w0 w : World} {O TT NN TB N : Nat} {gv : Value} {G : Nat → Nat → Bool} (h : BkEnv w0 O TT NN TB N gv G) (hc : Chg (· = O) w0 w) :
    (w.cell? ⟨TT, 0, none⟩ = some (bkF O TT NN) ∧ w.cell? ⟨NN, 0, none⟩ = some (nrF TB)) ∧ w.cell? ⟨TB, 0, none⟩ = some gv ∧ HasGrid w gv N G := by
  obtain ⟨wg, g1, g2, g3⟩ := h.gr
  refine ⟨⟨hc.cell h.ct h.dT, hc.cell h.cn h.dN⟩, hc.cell h.cb h.dB, g1.below ?_⟩
  exact g2.trans (hc.toBelow g2.size fun k hk e => by omega)

theorem sort_nat (I : List Nat) : (ints I).mergeSort (fun x y => decide (x ≤ y)) = ints (I.mergeSort fun x y => decide (x ≤ y)) :=
  (List.map_mergeSort fun a _ b _ => by simp).symm
theorem sort_pw (I : List Nat) : (I.mergeSort fun x y => decide (x ≤ y)).Pairwise (· ≤ ·) :=
  (List.pairwise_mergeSort (le := fun x y : Nat => decide (x ≤ y)) (fun a b c h1 h2 => by simp at *; omega) (fun a b => by simp; omega) I).imp fun h => by simpa using h

theorem vals_eq {wV W : World} {B : Nat} {L : List Int} (h : wV = W) (k : ValsAt W.heap.size W B L) : ValsAt wV.heap.size wV B L := by subst h; exact k

theorem own_len {w : World} {B n m : Nat} {e : TypeId} {v : Value} {xs ys : List Value} (h : w.ownsRow B e 1 v n xs) (hx : xs = ys) (hn : n = m) : w.ownsRow B e 1 v m ys := by subst hx hn; exact h

/-- What one call tells. -/
structure BkPost (N O : Nat) (G : Nat → Nat → Bool) (w0 w w' : World) (X : List (List Nat)) (I T : List Nat) (m : Nat) (Y : List (List Nat)) : Prop where
  st : ClSt w0 w' O (X ++ Y)
  ki : KI w w'
  nd : Y.Nodup
  iff : ∀ K, K ∈ Y ↔ Want N G I T K
  few : Y.length ≤ 2 ^ m

set_option maxHeartbeats 3200000 in
set_option maxRecDepth 100000 in
/-- Nothing is left. -/
theorem bk_leaf {N O TT NN TB : Nat} {gv : Value} {G : Nat → Nat → Bool} {w0 : World} (henv : BkEnv w0 O TT NN TB N gv G) (I : List Nat) (X : List (List Nat)) (w : World) (iv mv tv : Value) (hb : BkI N G I [] []) (hst : ClSt w0 w O X) (hi : TI w iv I) (hm : TI w mv []) (ht : TI w tv []) (hX : X.length < 17000000) (hIl : I.length ≤ 100) :
    Calls Try.prog 56 #[iv, mv, tv, .pointer (some ⟨O, 0, none⟩), .pointer (some ⟨TT, 0, none⟩), .pointer (some ⟨NN, 0, none⟩)] w fun e w' => e = .returned (.tuple #[]) ∧ ∃ Y, BkPost N O G w0 w w' X I [] 0 Y := by
  obtain ⟨ia, ic, rfl⟩ := hi.form
  obtain ⟨ma, mc, rfl⟩ := hm.form
  obtain ⟨ta, tc, rfl⟩ := ht.form
  obtain ⟨v, va, vc, hv, hrow, hir⟩ := hst.load
  subst hv
  obtain ⟨vals, hown, hrows⟩ := hir
  rw [List.length_map] at hown hrows
  have cO : w.cell? ⟨O, 0, none⟩ = some (.slice va X.length vc) := hrow.cell (show 0 < 1 by omega)
  have hOl := hrow.lt
  have hfin := fun K => BkI.full (K := K) hb (List.mergeSort_perm I _) (sort_pw I)
  obtain ⟨S, hS⟩ : ∃ S, S = I.mergeSort (fun x y => decide (x ≤ y)) := ⟨_, rfl⟩
  have hSl : S.length = I.length := by rw [hS, List.length_mergeSort]
  rw [← hS] at hfin
  have HS := Lib.hid hS; have Hfin := Lib.hid hfin; have Hrow := Lib.hid hrow; have Hown := Lib.hid hown; have Hrows := Lib.hid hrows; have Hst := Lib.hid hst; have Hi := Lib.hid hi
  have hcv : ((ints I).mergeSort fun x y => decide (x ≤ y)).map (Value.int .i64) = nvals S := by rw [sort_nat, ← hS]
  have hSl2 : (ints I).length = S.length := by rw [ints_length, hSl]
  have Hcv := Lib.hid hcv; have HSl := Lib.hid hSl2
  clear hcv hSl2
  have hlo := henv.lo
  have hsz0 := hst.ch.size
  clear hS hfin hrow hown hrows hst hi hm ht
  go_enter Try.func56, Try.ntmps56
  go_upto_region 1 with fail
  have hii : IsInts w (.slice ia (ints I).length ic) (ints I) := by rw [ints_length]; exact Hi.out.is
  have hlV : (ints I).length ≤ 100000 := by rw [ints_length]; omega
  have hvals := ValsAt.of_ints (w := w.drew) hii
  rw [ints_length] at hvals
  have Hvals := Lib.hid hvals
  clear hii hvals
  go_region_law (first
    | (go_simp; go_at_call 58; refine (values_any ia I.length ic _).mono ?_; rintro e wV ⟨rfl, hV⟩; have cV := below_cell (below1 w.drew (.cells #[.slice ia I.length ic] 29)) cO; rw [← hV] at cV; have hbV := upc (Below.refl w.heap.size w).drew (below1 w.drew (.cells #[.slice ia I.length ic] 29)); rw [← hV] at hbV; have hvV := vals_eq hV Hvals.out; have hsV : wV.heap.size = w.heap.size + 1 := (congrArg (fun W : World => W.heap.size) hV).trans (World.size_alloc _ _); clear hV)
    | (go_simp; go_at_call 57; refine (sortedV_any _ (ints I) hlV _ (Nat.lt_of_lt_of_le (Nat.lt_succ_self _) (Nat.le_of_eq hsV.symm)) hvV).mono ?_; rintro e wS ⟨r, rfl, hoS, hbS⟩; obtain ⟨aS, kS, rfl⟩ := ownsRow_form hoS; have cS := below_cell hbS cV; have hOS : O < wS.heap.size := Nat.lt_of_lt_of_le (Nat.lt_of_lt_of_le hOl hbV.size) hbS.size; have cS1 := below_cell (below1 wS (.cells #[.slice aS (ints I).length kS] 29)) cS)
    | (refine step_append_has rfl (.tmp 16) (.tmp 20) 42 rfl w0.heap.size 29 (.slice none 0 0) 24 Try.underlying42 infoS rfl (.slice va X.length vc) X.length vals rfl ((ownsRow_below (ownsRow_below Hown.out hbV (Nat.le_refl _)) hbS (Nat.le_refl _)).alloc _) _ 1 [.slice aS (ints I).length kS] rfl (HasCells.one _ _ _ rfl) (by omega) (by omega) (le_alloc (Nat.le_trans hsz0 (Nat.le_trans hbV.size hbS.size))) ?_; intro a3 c3 w3 ho3 hg3; have hpost := ClSt.more (o := .cells #[.slice aS (ints I).length kS] 29) henv.lo Hst.out Hrow.out (upc hbV hbS) Hown.out Hrows.out (S := S) (r := .slice aS (ints I).length kS) (B2 := wV.heap.size) (own_len hoS Hcv.out HSl.out) (Nat.le_trans hsz0 hbV.size) ho3 hg3; obtain ⟨hr3, hpost⟩ := hpost; have c3 : w3.cell? ⟨O, 0, none⟩ = some (.slice va X.length vc) := hr3.cell (show 0 < 1 by omega); have f3 := hr3.frozen 0; have Hpost := Lib.hid hpost; clear hpost hr3))
  all_goals
    obtain ⟨p1, p2⟩ := Hpost.out
    go_wp2
    exact bodyPost_ret (v := .tuple #[]) (by simp [results, Try.results56, go_sem]) rfl ⟨rfl, [S], p1, p2, by simp, fun K => by rw [List.mem_singleton]; exact (Hfin.out K).symm, by simp⟩

end Go.Proofs.Ytnhhohhhpaejmaa
