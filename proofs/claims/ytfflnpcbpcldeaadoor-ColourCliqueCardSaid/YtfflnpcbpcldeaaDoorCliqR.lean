/- arborref.Clique: the walk. -/
import Derived.Test.YtfflnpcbpcldeaaDoorCliqP
import Derived.Test.YtfflnpcbpcldeaaDoorSparse
import Derived.StillTailTactics
namespace Go.Proofs.YtfflnpcbpcldeaaDoor
open Go Go.RowKit

/-- The best list so far, in a variable. -/
def BestAt (w : World) (VB N B : Nat) : Prop := ∃ v, w.rowIs VB 29 1 (fun _ => v) ∧ IsInts w v (ints (bitsL N B)) ∧ ∀ g, v.ownBlock = some g → VB ≠ g
theorem BestAt.below {w w' : World} {VB N B : Nat} (h : BestAt w VB N B) (hb : Below w.heap.size w w') : BestAt w' VB N B := by
  obtain ⟨v, h1, h2, h3⟩ := h
  exact ⟨v, h1.of_block (hb.block _ h1.lt), h2.below hb, h3⟩
theorem IsInts.chg {w w' : World} {v : Value} {l : List Int} {K : Nat} (h : IsInts w v l) (hc : Chg (· = K) w w') (hv : ∀ g, v.ownBlock = some g → K ≠ g) : IsInts w' v l := by
  obtain ⟨a, cap, b, o, rfl, h1, h2, h3, h4, h5⟩ := h
  refine ⟨a, cap, b, o, rfl, h1, h2, h3, h4, fun j hj => ?_⟩
  obtain rfl := h3 (by omega)
  exact hc.cell (h5 j hj) (fun e => hv b rfl e.symm)
/-- All that is under way. -/
structure RW (w0 w : World) (VB N B : Nat) : Prop where
  hb : Below w0.heap.size w0 w
  hv : w0.heap.size ≤ VB
  bs : BestAt w VB N B
  lt : B < 2 ^ N
theorem RW.drewN {w0 w : World} {VB N B : Nat} (h : RW w0 w VB N B) (n : Nat) : RW w0 (w.drewN n) VB N B := ⟨Below.drewN' h.hb n, h.hv, h.bs.below (Below.drewN' (Below.refl _ _) n), h.lt⟩
theorem RW.below {w0 w w' : World} {VB N B : Nat} (h : RW w0 w VB N B) (hb : Below w.heap.size w w') : RW w0 w' VB N B := ⟨h.hb.trans (hb.mono h.hb.size), h.hv, h.bs.below hb, h.lt⟩
theorem getD_at {l : List Nat} {q : Nat} (h : q < l.length) : l.getD q 0 = l[q] := by simp [List.getD, h]
theorem bits_last {o m : Nat} (h : m.testBit o = true) : (bitsL (o + 1) m).getD (card (o + 1) m - 1) 0 = o ∧ card (o + 1) m = card o m + 1 := by
  have e : card (o + 1) m = card o m + 1 := by rw [card, if_pos h]
  rw [e, bitsL_succ, if_pos h, Nat.add_sub_cancel, ← bitsL_len m o]
  exact ⟨by simp [List.getD], rfl⟩
theorem clq_more {G : Nat → Nat → Bool} (hsy : ∀ u v, G u v = G v u) {m v : Nat} (h : Clq G m) (hv : ∀ u, m.testBit u = true → G v u = true) : Clq G (lor m (pow2 v)) := by
  intro a b ha hb hne
  rw [lor_bit, pow2_bit] at ha hb
  simp only [Bool.or_eq_true, decide_eq_true_eq] at ha hb
  rcases ha with ha | ha <;> rcases hb with hb | hb
  · exact h a b ha hb hne
  · subst hb; rw [hsy]; exact hv a ha
  · subst ha; exact hv b hb
  · exact absurd (ha.symm.trans hb) hne

set_option maxHeartbeats 3200000 in
set_option maxRecDepth 100000 in
theorem cliqueR_any {N : Nat} {G : Nat → Nat → Bool} (hN : N ≤ 24) (hsy : ∀ u v, G u v = G v u) {w0 : World} {gv : Value} (hg : HasGrid w0 gv N G) {VB : Nat} : ∀ (f o m B : Nat) (lv : Value) (w : World), f + o = N → m < 2 ^ o → Clq G m → (0 < o → m.testBit (o - 1) = true) →
    IsInts w lv (ints (bitsL o m)) → (∀ g, lv.ownBlock = some g → VB ≠ g) → RW w0 w VB N B →
    Calls Tryd.prog 35 #[gv, lv, .pointer (some ⟨VB, 0, none⟩)] w fun e w' => e = .returned (.tuple #[]) ∧ Chg (· = VB) w w' ∧ ∃ B', RW w0 w' VB N B' ∧ Res (card 24) (some B) (FamB G N m o) (some B') := by
  intro f
  induction f using Nat.strongRecOn with
  | ind f ih =>
    intro o m B lv w hf hm hcl htop hi hoff hw
    obtain ⟨bv, hrow, hbi, hbo⟩ := hw.bs
    have Ih := Lib.hid ih; have Hm := Lib.hid hm; have Hcl := Lib.hid hcl; have Hi := Lib.hid hi; have Hoff := Lib.hid hoff; have Hw := Lib.hid hw; have Hg := Lib.hid hg; have Htop := Lib.hid htop
    obtain ⟨ba, bc, bb, bo, rfl, -, -, -, -, -⟩ := hbi
    obtain ⟨la, lc, lb, lo, rfl, hlcap, hlmax, -, -, -⟩ := id hi
    have hlb := ints_length (bitsL N B)
    have hll := ints_length (bitsL o m)
    rw [bitsL_len] at hlb hll
    have Hll := Lib.hid hll
    rw [hlb] at hrow
    rw [hll] at hlcap ⊢
    obtain ⟨ga, gc, rfl⟩ : ∃ a c, gv = .slice a N c := by
      obtain ⟨B, a, c, b, o, R, rfl, _⟩ := hg
      exact ⟨a, c, rfl⟩
    have cb := hrow.cell (show 0 < 1 by omega)
    have fb := hrow.frozen 0
    have kb := card_le N B
    have km := card_le o m
    have Hrow := Lib.hid hrow
    clear ih hm hcl htop hi hoff hw hg hrow hbo hlb hll
    go_enter Tryd.func35, Tryd.ntmps35
    go_upto_if 16 with fail
    go_cut [] from 16 to 20 (fun wx => ∃ B1, Chg (· = VB) w wx ∧ RW w0 wx VB N B1 ∧ Res (card 24) (some B) (fun T => T = m) (some B1))
    case first =>
      by_cases hgt : card N B < card o m
      · have Hgt := Lib.hid hgt
        clear cb fb
        go_wp2_with (at_builtin; refine wpList_append_has rfl (.const (.slice none 0 0)) (.tmp 18) 29 rfl w.heap.size 3 (.int .i64 0) 8 Tryd.underlying29 info3 rfl _ 0 [] rfl (World.ownsRow_nil _ _ _ _) _ (card o m) ((ints (bitsL o m)).map (Value.int .i64)) rfl (Hll.out ▸ Hi.out.cells) (by omega) (by omega) (by omega) ?_; intro a1 c1 w1 hown1 hg1; simp only [Nat.zero_add, List.nil_append] at hown1; have Hb1 := Lib.hid (below_grown0 hg1); have Hown1 := Lib.hid hown1; have R1 := Lib.hid (Hrow.out.of_block (Hb1.out.block _ Hrow.out.lt)); have cb1 := R1.out.cell (show 0 < 1 by omega); have fb1 := R1.out.frozen 0; clear hown1 hg1)
        go_meet
        have hne : ∀ g, (Value.slice a1 (card o m) c1).ownBlock = some g → VB ≠ g := fun g e => by
          have h1 := (Hown1.out.lt g e).1
          have h2 := Hrow.out.lt
          omega
        have hset : Chg (· = VB) w1 (w1.setCell ⟨VB, 0, none⟩ (.slice a1 (card o m) c1)) := Chg.setCell (S := (· = VB)) (Chg.refl _ _) (p := ⟨VB, 0, none⟩) (fun _ => rfl) _
        have hi1 := IsInts.owned (w := w1) (base := w.heap.size) (e := 3) (n := card o m) (l := ints (bitsL o m)) Hown1.out
        have hlt2 : m < 2 ^ N := Nat.lt_of_lt_of_le Hm.out (Nat.pow_le_pow_right (by decide) (by omega))
        refine ⟨m, (Chg.ofBelow Hb1.out).trans hset, ⟨(Hw.out.hb.trans (Hb1.out.mono Hw.out.hb.size)).setCell (show w0.heap.size ≤ VB from Hw.out.hv) _, Hw.out.hv, ⟨.slice a1 (card o m) c1, (R1.out.set 0 _).congr fun k hk => by rw [if_pos (by omega)], ?_, hne⟩, hlt2⟩, Res.one fun B' hB' => ?_⟩
        · rw [bitsL_more Hm.out N (by omega)]
          exact hi1.chg hset hne
        · cases hB'
          rw [card_more_n Hm.out 24 (by omega), card_more_n Hw.out.lt 24 hN]
          exact Hgt.out
      · have Hgt := Lib.hid hgt
        go_wp2
        go_meet
        refine ⟨B, Chg.refl _ _, Hw.out, Res.keep fun T hT => ?_⟩
        subst hT
        rw [card_more_n Hm.out 24 (by omega), card_more_n Hw.out.lt 24 hN]
        have := Hgt.out
        omega
    case rest =>
    obtain ⟨B1, hch, hrw, hres⟩ := hcut
    obtain ⟨wx, rfl⟩ : ∃ wx : World, wx = wc := ⟨_, rfl⟩
    have hmN : m < 2 ^ N := Nat.lt_of_lt_of_le Hm.out (Nat.pow_le_pow_right (by decide) (by omega))
    have Hch := Lib.hid hch; have Hrw := Lib.hid hrw; have Hres := Lib.hid (show Res (card 24) (some B) (ParB G N m o o) (some B1) from hres.iff fun T => parB_start Hcl.out hmN T)
    have Hix := Lib.hid (Hi.out.chg hch Hoff.out)
    clear hch hrw hres cb fb hmN
    generalize hkc : card o m = kc at *
    go_upto_if 23 with fail
    go_cut [6] from 23 to 30 (fun s6 wy => s6 = .int .i64 (o : Int) ∧ wx = wy)
    case first =>
      rcases Nat.eq_zero_or_pos o with ho | ho
      · subst ho
        obtain rfl : kc = 0 := hkc.symm
        go_wp2
        go_meet
        exact ⟨rfl, rfl⟩
      · obtain ⟨p, rfl⟩ : ∃ p, o = p + 1 := ⟨o - 1, by omega⟩
        obtain ⟨l1, l2⟩ := bits_last (Htop.out ho)
        rw [Nat.add_sub_cancel] at l1 l2
        rw [hkc] at l1 l2
        obtain ⟨K, rfl⟩ : ∃ K, kc = K + 1 := ⟨_, l2⟩
        rw [Nat.add_sub_cancel] at l1
        obtain ⟨eb, eo, ee, ec⟩ := ints_entry Hix.out (Below.refl _ _) (k := K) (by rw [bitsL_len, hkc]; omega)
        rw [l1] at ec
        subst ee
        have hKi : (0 : Int) < ((K + 1 : Nat) : Int) := by omega
        have hKs : ((K + 1 : Nat) : Int) - 1 = (K : Int) := by omega
        have hKc : K + 1 ≤ 24 := by omega
        clear l1 l2 hkc
        go_wp2
        go_meet
        exact ⟨rfl, rfl⟩
    case rest =>
    obtain ⟨rfl, rfl⟩ := hcut
    have hmem : ∀ q, q < kc → (bitsL o m).getD q 0 < o ∧ m.testBit ((bitsL o m).getD q 0) = true := fun q hq => mem_bitsL.1 (by
      rw [getD_at (by rw [bitsL_len, hkc]; exact hq)]
      exact List.getElem_mem _)
    have hmem2 : ∀ u, m.testBit u = true → ∃ q, q < kc ∧ (bitsL o m).getD q 0 = u := fun u hu => by
      have := (mem_bitsL (n := o)).2 ⟨bit_ltN Hm.out hu, hu⟩
      obtain ⟨q, hq, rfl⟩ := List.getElem_of_mem this
      refine ⟨q, by rw [bitsL_len, hkc] at hq; exact hq, ?_⟩
      rw [getD_at hq]
    have Hmem := Lib.hid hmem; have Hmem2 := Lib.hid hmem2
    have hkc24 : kc ≤ 24 := by omega
    have Hkc := Lib.hid hkc
    clear hmem hmem2 hkc
    go_wp2
    go_loopg [7] (N - o) (fun g s7 wr => ∃ v B2 : Nat, o ≤ v ∧ v ≤ N ∧ g = N - v ∧ s7 = .int .i64 (v : Int) ∧ Chg (· = VB) w wr ∧ RW w0 wr VB N B2 ∧ Res (card 24) (some B) (ParB G N m o v) (some B2))
    case atStart => exact ⟨o, B1, Nat.le_refl _, by omega, rfl, rfl, Hch.out, Hrw.out, Hres.out⟩
    case round =>
      obtain ⟨v, B2, hov, hvN, rfl, rfl, hch, hrw, hres⟩ := hrel
      have Hch2 := Lib.hid hch; have Hrw2 := Lib.hid hrw; have Hres2 := Lib.hid hres
      clear hch hrw hres
      by_cases hlt : v < N
      · obtain ⟨wo, rfl⟩ : ∃ wo : World, wo = wr := ⟨_, rfl⟩
        go_wp2
        go_loopg [8, 9] kc (fun g s8 s9 wx => ∃ (u : Nat) (ok : Bool), u ≤ kc ∧ g = kc - u ∧ s8 = .bool ok ∧ s9 = .int .i64 (u : Int) ∧ (ok = true ↔ ∀ q, q < u → G v ((bitsL o m).getD q 0) = true) ∧ Drew wo wx)
        case atStart => exact ⟨0, true, Nat.zero_le _, rfl, rfl, rfl, ⟨fun _ q hq => absurd hq (Nat.not_lt_zero _), fun _ => rfl⟩, Drew.refl _⟩
        case round =>
          obtain ⟨u, ok, hu, rfl, rfl, rfl, hok, hdr⟩ := hrel
          have Hok := Lib.hid hok; have Hdr := Lib.hid hdr
          clear hok hdr
          by_cases hul : u < kc
          · have hbd : Below wo.heap.size wo wr := Hdr.out.below
            obtain ⟨hx1, -⟩ := Hmem.out u hul
            obtain ⟨eb, eo, ee, c3⟩ := ints_entry (Hi.out.chg Hch2.out Hoff.out) hbd (k := u) (by rw [bitsL_len, Hkc.out]; exact hul)
            obtain ⟨gb, go, gc', gr, ge, c1, c2⟩ := ((Hg.out.below Hrw2.out.hb).below hbd).entry hlt (show (bitsL o m).getD u 0 < N by omega)
            simp only [Value.slice.injEq, true_and] at ge
            obtain ⟨rfl, rfl⟩ := ge
            subst ee
            generalize hxu : (bitsL o m).getD u 0 = x at *
            have Hxu := Lib.hid hxu
            have hxN : x < N := by omega
            clear hxu hbd
            cases ok with
            | false =>
              clear c1 c2 c3
              go_wp2_with fail
              go_quiet (fail)
              go_wp2
              go_roundg (kc - (u + 1))
              case measure => go_light; omega
              case rel => exact ⟨u + 1, false, by omega, rfl, rfl, by go_num, ⟨(fun h => by cases h), fun h => Hok.out.2 fun q hq => h q (by omega)⟩, Hdr.out.add _⟩
            | true =>
              cases hG : G v x with
              | false =>
                rw [hG] at c2
                have HG := Lib.hid hG
                clear hG
                go_wp2_with fail
                go_quiet (fail)
                go_wp2
                go_roundg (kc - (u + 1))
                case measure => go_light; omega
                case rel => exact ⟨u + 1, false, by omega, rfl, rfl, by go_num, ⟨(fun h => by cases h), fun h => by
                  have := h u (by omega)
                  rw [Hxu.out, HG.out] at this
                  exact this⟩, Hdr.out.add _⟩
              | true =>
                rw [hG] at c2
                have HG := Lib.hid hG
                clear hG
                go_wp2_with fail
                go_quiet (fail)
                go_wp2
                go_roundg (kc - (u + 1))
                case measure => go_light; omega
                case rel => exact ⟨u + 1, true, by omega, rfl, rfl, by go_num, ⟨(fun _ q hq => by
                  by_cases e : q = u
                  · subst e; rw [Hxu.out]; exact HG.out
                  · exact Hok.out.1 (by first | exact rfl | trivial) q (by omega)), fun _ => rfl⟩, Hdr.out.add _⟩
          · obtain rfl : u = kc := by omega
            obtain ⟨w5, rfl⟩ : ∃ w5 : World, w5 = wr := ⟨_, rfl⟩
            have Hch3 := Lib.hid (Hch2.out.trans (Chg.ofBelow Hdr.out.below)); have Hrw3 := Lib.hid (Hrw2.out.below Hdr.out.below)
            cases ok with
            | false =>
              have Hno : ∃ q, q < u ∧ G v ((bitsL o m).getD q 0) = false := Classical.byContradiction fun hn => by
                have := Hok.out.2 fun q hq => by
                  cases e : G v ((bitsL o m).getD q 0) with
                  | true => rfl
                  | false => exact absurd ⟨q, hq, e⟩ hn
                cases this
              obtain ⟨q, hq, hGq⟩ := Hno
              have Hsk := Lib.hid (parB_skip Hm.out hov (Hmem.out q hq).2 hGq (N := N))
              clear hq hGq
              go_wp2
              go_roundg (N - (v + 1))
              case measure => go_light; omega
              case rel => exact ⟨v + 1, B2, by omega, by omega, rfl, by go_num, Hch3.out, Hrw3.out, Hres2.out.iff Hsk.out⟩
            | true =>
              have Hall := Lib.hid (fun w hw => by
                obtain ⟨q, hq, rfl⟩ := Hmem2.out w hw
                exact Hok.out.1 (by first | exact rfl | trivial) q hq : ∀ w, m.testBit w = true → G v w = true)
              have Hi5 := Lib.hid (Hi.out.chg Hch3.out Hoff.out)
              have hVl : VB < w5.heap.size := by
                obtain ⟨_, h1, -⟩ := Hrw3.out.bs
                exact h1.lt
              go_wp2_with (first
                | (at_builtin; refine wpList_append_has rfl (.const (.slice none 0 0)) (.tmp 59) 29 rfl w5.heap.size 3 (.int .i64 0) 8 Tryd.underlying29 info3 rfl _ 0 [] rfl (World.ownsRow_nil _ _ _ _) _ u ((ints (bitsL o m)).map (Value.int .i64)) rfl (Hll.out ▸ Hi5.out.cells) (by omega) (by omega) (by omega) ?_; intro a1 c1 w6 hown1 hg1; simp only [Nat.zero_add, List.nil_append] at hown1; have hsz1 := hg1.size)
                | (at_builtin; refine wpList_append_has rfl (.tmp 60) (.tmp 62) 29 rfl w5.heap.size 3 (.int .i64 0) 8 Tryd.underlying29 info3 rfl _ u ((ints (bitsL o m)).map (Value.int .i64)) rfl (hown1.alloc _) _ 1 [.int .i64 (v : Int)] rfl (HasCells.one _ _ _ rfl) (by omega) (by omega) (by simp; omega) ?_; intro a2 c2 w7 hown2 hg2)
                | fail)
              have hbw1 := (below_grown0 hg1).alloc hsz1 (Obj.cells #[Value.int .i64 (v : Int)] 3)
              have hb2 := hbw1.grown hg2 (by rw [World.size_alloc]; omega) (fun g e => (hown1.lt g e).1)
              have hi2 : IsInts w7 (.slice a2 (u + 1) c2) (ints (bitsL o m ++ [v])) := IsInts.owned (base := w5.heap.size) (e := 3) (n := u + 1) (by rw [ints_snoc, List.map_append]; exact hown2)
              rw [← bitsL_snoc Hm.out hov] at hi2
              have Hoff2 := Lib.hid (fun g e => by have := (hown2.lt g e).1; omega : ∀ g, (Value.slice a2 (u + 1) c2).ownBlock = some g → VB ≠ g)
              have Hb4 := Lib.hid hb2
              have Hi2 := Lib.hid hi2
              have Hrw7 := Lib.hid (Hrw3.out.below hb2)
              clear hbw1 hb2 hi2 hown1 hown2 hg1 hg2 hsz1
              have Hm2 := Lib.hid (show lor m (pow2 v) < 2 ^ (v + 1) from mask_lt fun i hi => by
                rw [lor_bit, pow2_bit, Bool.or_eq_true, decide_eq_true_eq] at hi
                rcases hi with h | h
                · have := bit_ltN Hm.out h; omega
                · omega)
              refine (Ih.out (N - (v + 1)) (by omega) (v + 1) (lor m (pow2 v)) B2 _ w7 (by omega) Hm2.out (clq_more hsy Hcl.out Hall.out) (fun _ => by rw [Nat.add_sub_cancel, lor_bit, pow2_bit]; simp) Hi2.out Hoff2.out Hrw7.out).mono ?_
              rintro e w8 ⟨rfl, hch8, B3, hrw8, hres8⟩
              have Hch8 := Lib.hid ((Hch3.out.trans (Chg.ofBelow Hb4.out)).trans hch8); have Hrw8 := Lib.hid hrw8
              have Hres8 := Lib.hid (show Res (card 24) (some B) (ParB G N m o (v + 1)) (some B3) from (Hres2.out.join hres8 fun S T hS hT hc => parB_ahead Hm.out hov (show v < 24 by omega) hS hT hc).iff fun T => parB_with Hm.out hov T)
              clear hch8 hrw8 hres8
              go_wp2
              go_roundg (N - (v + 1))
              case measure => go_light; omega
              case rel => exact ⟨v + 1, B3, by omega, by omega, rfl, by go_num, Hch8.out, Hrw8.out, Hres8.out⟩
      · obtain rfl : v = N := by omega
        go_wp2
        go_end0
        exact ⟨rfl, Hch2.out, B2, Hrw2.out, Hres2.out.iff fun T => (parB_end T).symm⟩

theorem bitsL_zero (n : Nat) : bitsL n 0 = [] := List.eq_nil_of_length_eq_zero (by rw [bitsL_len, card_zero])
theorem card_null {n T : Nat} (hT : T < 2 ^ n) (h : card n T = 0) : T = 0 := Nat.eq_of_testBit_eq fun i => by
  cases e : T.testBit i with
  | false => simp
  | true => have := card_pos e (bit_ltN hT e); omega

set_option maxHeartbeats 1600000 in
set_option maxRecDepth 100000 in
theorem cliqueRef_any {N : Nat} {G : Nat → Nat → Bool} (hN : N ≤ 24) (hsy : ∀ u v, G u v = G v u) (gv : Value) (w : World) (hg : HasGrid w gv N G) :
    Calls Tryd.prog 20 #[gv] w fun e w' => ∃ v S, e = .returned v ∧ IsInts w' v (ints (bitsL N S)) ∧ Best (card 24) (FamB G N 0 0) S ∧ Below w.heap.size w w' := by
  have r1 := World.rowIs_alloc w #[Value.slice none 0 0] 29 (fun _ => Value.slice none 0 0) (fun i hi => by
    match i, hi with
    | 0, _ => rfl)
  have hw0 : RW w (w.alloc (Obj.cells #[Value.slice none 0 0] 29)) w.heap.size N 0 := ⟨below1 _ _, Nat.le_refl _, ⟨.slice none 0 0, r1, by rw [bitsL_zero]; exact IsInts.nil _, fun g e => by cases e⟩, Nat.two_pow_pos N⟩
  have Hw0 := Lib.hid hw0; have Hg := Lib.hid hg; have Hsy := Lib.hid hsy
  clear r1 hw0 hg hsy
  go_enter Tryd.func20, Tryd.ntmps20
  go_upto_region 2 with fail
  generalize w.alloc (Obj.cells #[Value.slice none 0 0] 29) = w1 at *
  go_upto_region 3 with (go_at_call 35; refine (cliqueR_any hN Hsy.out Hg.out N 0 0 0 (.slice none 0 0) w1 (by omega) (by decide) (fun u v h => by simp at h) (fun h => absurd h (by decide)) (by rw [bitsL_zero]; exact IsInts.nil _) (fun g e => by cases e) Hw0.out).mono ?_; rintro e w2 ⟨rfl, -, B', hrw, hres⟩)
  obtain ⟨v, h1, h2, -⟩ := hrw.bs
  have cv := h1.cell (show 0 < 1 by omega)
  have hb2 := hrw.hb
  have hbest : Best (card 24) (FamB G N 0 0) B' := by
    rcases hres with ⟨e, B, e2, h3⟩ | ⟨S, e, -, h3⟩
    · cases e; cases e2
      refine ⟨⟨Within.refl _, fun u v h => by simp at h, Nat.two_pow_pos N, fun j hj => absurd hj (Nat.not_lt_zero _)⟩, fun T hT => ?_⟩
      have h4 := h3 T hT
      rw [card_zero] at h4
      have h5 := card_null (n := 24) (Nat.lt_of_lt_of_le hT.2.2.1 (Nat.pow_le_pow_right (by decide) hN)) (by omega)
      subst h5
      exact Or.inr ⟨rfl, Or.inl rfl⟩
    · cases e; exact h3
  have Hpost := Lib.hid (And.intro h2 (And.intro hbest hb2))
  clear h1 h2 hrw hres hbest hb2
  go_wp2
  go_ret
  exact ⟨v, B', rfl, Hpost.out.1, Hpost.out.2.1, Hpost.out.2.2⟩

end Go.Proofs.YtfflnpcbpcldeaaDoor
