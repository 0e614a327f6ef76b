/- codec.Read: the walk. -/
import Derived.Test.YtokjcapheogkoaaDoorRead1
import Derived.Test.YtokjcapheogkoaaDoorFormF
namespace Go.Proofs.YtokjcapheogkoaaDoor
open Go Go.RowKit

theorem number_ok (r : Nat) (b : List UInt8) (p : Nat) (w : World) (h : RAt w r (bA b) p) (hp : p ≤ b.length) (hl : b.length ≤ 20000) (hn : ¬ noNum b p) :
    Calls Tryd.prog 34 #[.pointer (some ⟨r, 0, none⟩)] w fun e w' => e = .returned (.int .i64 (numV b p : Int)) ∧ Chg (· = r) w w' ∧ RAt w' r (bA b) (numE b p) :=
  (number_any r b p w h hp hl).mono fun e w' ⟨h1, h2⟩ => by
    rcases h2 with ⟨-, h3, h4⟩ | ⟨h3, -⟩
    · exact ⟨h3, h1, h4⟩
    · exact absurd h3 hn
theorem number_no (r : Nat) (b : List UInt8) (p : Nat) (w : World) (h : RAt w r (bA b) p) (hp : p ≤ b.length) (hl : b.length ≤ 20000) (hn : noNum b p) :
    Calls Tryd.prog 34 #[.pointer (some ⟨r, 0, none⟩)] w fun e w' => Thrown 1 p e ∧ Chg (· = r) w w' :=
  (number_any r b p w h hp hl).mono fun e w' ⟨h1, h2⟩ => by
    rcases h2 with ⟨h3, -⟩ | ⟨-, h3⟩
    · exact absurd hn h3
    · exact ⟨h3, h1⟩
/-- A reader's row. -/
abbrev fR (s : ByteArray) (p : Nat) : Nat → Value := fun i => if i = 0 then .string s else .int .i64 (p : Int)
/-- A reading by a reader. -/
abbrev PR (w wr : World) (s : ByteArray) (p : Nat) (n : Int) (v : Value) (L : List (Int × Int)) : Prop := PSt w wr w.heap.size (w.heap.size + 2) 67 (fR s p) n v L
/-- What is left of it when a fault is thrown. -/
structure Torn (w wr : World) : Prop where
  hb : Below w.heap.size w wr
  out : ∃ f, wr.rowIs w.heap.size 24 2 f
  rf : ∃ f, wr.rowIs (w.heap.size + 1) 27 2 f
theorem PSt.torn {w wr w' : World} {s : ByteArray} {p : Nat} {n : Int} {v : Value} {L : List (Int × Int)} (h : PR w wr s p n v L) (hc : Chg (· = w.heap.size + 2) wr w') : Torn w w' :=
  ⟨h.hb.trans (hc.toBelow h.hb.size fun k hk e => by omega), ⟨_, hc.rowIs h.out (by omega)⟩, ⟨_, hc.rowIs h.rf (by omega)⟩⟩
theorem PSt.bump {w wr : World} {s : ByteArray} {p : Nat} {n : Int} {v : Value} {L : List (Int × Int)} (h : PR w wr s p n v L) (q : Nat) : PR w (wr.setCell ⟨w.heap.size + 2, 1, none⟩ (.int .i64 (q : Int))) s q n v L :=
  h.turn ((Chg.refl (· = w.heap.size + 2) _).setCell (p := ⟨w.heap.size + 2, 1, none⟩) (fun _ => rfl) _) (RAt.put (show RAt wr (w.heap.size + 2) s p from h.ox) q)

theorem leaves_congr {P : Program} {fn : Func} {t t' : Array Value} {R : Ending → World → Prop} (h : results fn t = results fn t') : ∀ (ds : List Deferred) (u : FrameMode) (w : World), Leaves P fn t R ds u w → Leaves P fn t' R ds u w := by
  intro ds
  induction ds with
  | nil =>
    intro u w hl
    cases u with
    | run => exact hl
    | returning => unfold Leaves at hl ⊢; rw [← h]; exact hl
    | panicking c => unfold Leaves at hl ⊢; exact hl
  | cons d ds ih =>
    intro u w hl
    obtain ⟨h1, fv, cap, f, args, h2, h3, h4⟩ := hl
    exact ⟨h1, fv, cap, f, args, h2, h3, h4.mono fun e u' w' he => by
      cases e with
      | returned v => exact ih _ _ he
      | panicked c => exact ih _ _ he
      | outgrown => exact he⟩
theorem read_slot (t : Array Value) (d : Nat) (v : Value) (h2 : d ≠ 2) (h3 : d ≠ 3) : results Tryd.f15 (t.setIfInBounds d v) = results Tryd.f15 t := by
  simp [results, Tryd.results15, Array.getElem?_setIfInBounds_ne h2, Array.getElem?_setIfInBounds_ne h3]

set_option maxHeartbeats 6400000 in
set_option maxRecDepth 100000 in
theorem read_any (b : List UInt8) (w : World) :
    Calls Tryd.prog 15 #[.string (bA b)] w (ReadPost b w) := by
  have hmf : ∀ (fn : Fn) (first cap : Array Value) (w : World), (Instr.makeFunc fn first cap).run Tryd.prog w = .ok (.func fn first cap) w := fun _ _ _ _ => rfl
  have r0 := (two_row w (.int .i64 0) (.slice none 0 0) 24).alloc (Obj.cells #[.int .i64 0, .int .i64 0] 27)
  have r1 := two_row (w.alloc (Obj.cells #[.int .i64 0, .slice none 0 0] 24)) (.int .i64 0) (.int .i64 0) 27
  rw [World.size_alloc] at r1
  have hb := below2 w (Obj.cells #[.int .i64 0, .slice none 0 0] 24) (Obj.cells #[.int .i64 0, .int .i64 0] 27)
  have hsz1 : ((w.alloc (Obj.cells #[.int .i64 0, .slice none 0 0] 24)).alloc (Obj.cells #[.int .i64 0, .int .i64 0] 27)).heap.size = w.heap.size + 2 := by simp
  have R0 := Lib.hid r0; have R1 := Lib.hid r1; have Hb := Lib.hid hb
  clear r0 r1 hb
  have hix := fun i => bA_at b i
  have Hix := Lib.hid hix
  have hsz := bA_size b
  have NumO := Lib.hid fun r p => number_ok r b p
  have NumN := Lib.hid fun r p => number_no r b p
  have Want := Lib.hid (show ∀ (r p c : Nat) (w : World), RAt w r (bA b) p → p ≤ b.length → b.length ≤ 20000 → _ from fun r p c w => want_any r b p c w)
  unfold WantPost at Want
  obtain ⟨s, hs⟩ : ∃ s, s = bA b := ⟨_, rfl⟩
  rw [← hs] at hsz ⊢
  rw [← hs] at NumO
  rw [← hs] at NumN
  rw [← hs] at Want
  rw [← hs] at Hix
  clear hix hs
  go_enter_defers Tryd.func15, Tryd.ntmps15
  go_upto_region 1 with fail
  generalize (w.alloc (Obj.cells #[.int .i64 0, .slice none 0 0] 24)).alloc (Obj.cells #[.int .i64 0, .int .i64 0] 27) = w1 at *
  by_cases hl : b.length ≤ 20000
  · have Hl := Lib.hid hl
    go_upto_region 5 with fail
    have St := Lib.hid (show PR w (w1.alloc (Obj.cells #[.string s, .int .i64 0] 67)) s 0 0 (.slice none 0 0) [] from
      ⟨upq Hb.out (below1 _ _), R0.out.alloc _, by rw [← hsz1]; exact two_row w1 (.string s) (.int .i64 0) 67, R1.out.alloc _, OwnE.nil _ _, by omega, by omega⟩)
    generalize w1.alloc (Obj.cells #[.string s, .int .i64 0] 67) = w2 at *
    clear hsz1
    by_cases hn0 : noNum b 0
    · have Hbd := Lib.hid (readG_bad0 hn0)
      go_wp2_with fail
      refine (NumN.out (w.heap.size + 2) 0 w2 St.out.ox (Nat.zero_le _) hl hn0).mono ?_
      rintro e w3 ⟨rfl, hc3⟩
      have ST := Lib.hid (St.out.torn hc3)
      refine leaves_cons (f := 33) (args := #[.pointer (some ⟨w.heap.size, 0, none⟩), .pointer (some ⟨w.heap.size + 1, 0, none⟩)]) (by simp) (by simp [go_sem]) ?_
      obtain ⟨_, hro⟩ := ST.out.out
      obtain ⟨_, hrF⟩ := ST.out.rf
      refine (catch_thrown w.heap.size (w.heap.size + 1) _ _ 1 (0 : Int) _ hro hrF (by omega)).mono ?_
      rintro e u' wz ⟨rfl, rfl, hcz, hrg, hrf⟩
      have a0 := hrg.cell (show 0 < 2 by omega); have a1 := hrg.cell (show 1 < 2 by omega)
      have b0 := hrf.cell (show 0 < 2 by omega); have b1 := hrf.cell (show 1 < 2 by omega)
      simp only [show ¬ (1 : Nat) = 0 by omega, if_false, if_true] at a0 a1 b0 b1
      have hfin := ST.out.hb.trans (hcz.toBelow ST.out.hb.size fun k hk e => by omega)
      refine ⟨.tuple #[.agg #[.int .i64 0, .slice none 0 0], .agg #[.int .i64 1, .int .i64 (0 : Int)]], by simp [results, Tryd.results15, go_sem, a0, a1, b0, b1], ?_⟩
      exact ReadPost.bad Hl.out (Hbd.out) hfin rfl
    · have Hn0 := Lib.hid hn0
      have hp0l := numE_le (b := b) (p := 0) (Nat.zero_le _)
      have hv0 := numV_few hn0
      obtain ⟨p0, hp0⟩ : ∃ p0, p0 = numE b 0 := ⟨_, rfl⟩
      obtain ⟨nn, hnn⟩ : ∃ nn, nn = numV b 0 := ⟨_, rfl⟩
      rw [← hp0] at hp0l
      rw [← hnn] at hv0
      have Hp0 := Lib.hid hp0; have Hnn := Lib.hid hnn
      go_wp2_with fail
      refine (NumO.out (w.heap.size + 2) 0 w2 St.out.ox (Nat.zero_le _) hl hn0).mono ?_
      rintro e w3 ⟨rfl, hc3, hR3⟩
      rw [← hp0] at hR3
      rw [← hnn]
      have S3 := Lib.hid (St.out.turn hc3 hR3)
      clear hn0 hp0 hnn hc3 hR3
      obtain ⟨z0, z1, f0, f1, l0⟩ := row_facts S3.out.out
      go_wp2_with fail
      have S4 := Lib.hid (S3.out.putN (nn : Int))
      generalize w3.setCell ⟨w.heap.size, 0, none⟩ (.int .i64 (nn : Int)) = w4 at *
      clear z0 z1 f0 f1 l0
      refine (Want.out (w.heap.size + 2) p0 58 w4 S4.out.ox hp0l hl).mono ?_
      rintro e w5 ⟨hc5, ⟨hh, rfl, hR5⟩ | ⟨hh, rfl⟩⟩
      · have S5 := Lib.hid (S4.out.turn hc5 hR5)
        have Hstart := Lib.hid (show AtLine b (p0 + 1) [] from by
          have := AtLine.start Hn0.out (by rw [← Hp0.out]; exact hh)
          rw [← Hp0.out] at this
          exact this)
        have hlt0 := hh.1
        clear hc5 hR5 hh
        go_wp2
        go_loopg [5] (b.length + 1 - (p0 + 1)) (fun g s5 wr => ∃ (p : Nat) (v : Value) (L : List (Int × Int)), p ≤ b.length ∧ 0 < p ∧ g = b.length + 1 - p ∧ AtLine b p L ∧ L.length ≤ p ∧ PR w wr s p (nn : Int) v L)
        case atStart => exact ⟨p0 + 1, _, [], by omega, by omega, rfl, Hstart.out, by simp, S5.out⟩
        case round =>
          obtain ⟨p, v, L, hpl, hpp, rfl, hat, hLp, hst⟩ := hrel
          have Hst := Lib.hid hst; have Hat := Lib.hid hat
          clear hst hat
          obtain ⟨c0, c1, fz, hrr⟩ := RAt.facts (show RAt wr (w.heap.size + 2) s p from Hst.out.ox)
          by_cases hlt : p < b.length
          · have i1 : (p : Int) < (b.length : Int) := by omega
            have hix := Hix.out p hlt
            obtain ⟨x, hx⟩ : ∃ x, x = bt b p := ⟨_, rfl⟩
            rw [← hx] at hix
            by_cases h32 : x = 32
            · have g1 : ((x : Int) == 32) = true := by simp [h32]
              have H32 := Lib.hid (show hasB b p 32 from ⟨hlt, by rw [← hx]; exact h32⟩)
              obtain ⟨p1, hp1⟩ : ∃ p1, p1 = p + 1 := ⟨_, rfl⟩
              have eq1 : (p : Int) + 1 = (p1 : Int) := by omega
              have hp1l : p1 ≤ b.length := by omega
              have Hp1 := Lib.hid hp1
              clear h32 hx hp1
              go_wp2_with fail
              have S1 := Lib.hid (Hst.out.bump p1)
              generalize wr.setCell ⟨w.heap.size + 2, 1, none⟩ (.int .i64 (p1 : Int)) = w6 at *
              clear c0 c1 fz i1 hix g1
              by_cases hn1 : noNum b p1
              · refine (NumN.out (w.heap.size + 2) p1 w6 S1.out.ox hp1l hl hn1).mono ?_
                rintro e w7 ⟨rfl, hc7⟩
                have Hbd := Lib.hid (Hat.out.bad1 hpl H32.out (by rw [← Hp1.out]; exact hn1))
                rw [← Hp1.out] at Hbd
                clear hn1
                have ST := Lib.hid (S1.out.torn hc7)
                refine leaves_cons (f := 33) (args := #[.pointer (some ⟨w.heap.size, 0, none⟩), .pointer (some ⟨w.heap.size + 1, 0, none⟩)]) (by simp) (by simp [go_sem]) ?_
                obtain ⟨_, hro⟩ := ST.out.out
                obtain ⟨_, hrF⟩ := ST.out.rf
                refine (catch_thrown w.heap.size (w.heap.size + 1) _ _ 1 ((p1 : Nat) : Int) _ hro hrF (by omega)).mono ?_
                rintro e u' wz ⟨rfl, rfl, hcz, hrg, hrf⟩
                have a0 := hrg.cell (show 0 < 2 by omega); have a1 := hrg.cell (show 1 < 2 by omega)
                have b0 := hrf.cell (show 0 < 2 by omega); have b1 := hrf.cell (show 1 < 2 by omega)
                simp only [show ¬ (1 : Nat) = 0 by omega, if_false, if_true] at a0 a1 b0 b1
                have hfin := ST.out.hb.trans (hcz.toBelow ST.out.hb.size fun k hk e => by omega)
                refine ⟨.tuple #[.agg #[.int .i64 0, .slice none 0 0], .agg #[.int .i64 1, .int .i64 ((p1 : Nat) : Int)]], by simp [results, Tryd.results15, go_sem, a0, a1, b0, b1], ?_⟩
                exact ReadPost.bad Hl.out (Hbd.out) hfin rfl
              · have hp2l := numE_le (b := b) (p := p1) hp1l
                have hp12 := numE_gt hn1
                have hva := numV_few hn1
                refine (NumO.out (w.heap.size + 2) p1 w6 S1.out.ox hp1l hl hn1).mono ?_
                rintro e w7 ⟨rfl, hc7, hR7⟩
                obtain ⟨p2, hp2⟩ : ∃ p2, p2 = numE b p1 := ⟨_, rfl⟩
                obtain ⟨va, hvv⟩ : ∃ va, va = numV b p1 := ⟨_, rfl⟩
                have Hp2 := Lib.hid hp2; have Hva := Lib.hid hvv; have Hn1 := Lib.hid hn1
                rw [← hp2] at hp2l hp12 hR7
                rw [← hvv] at hva
                rw [← hvv]
                have S7 := Lib.hid (S1.out.turn hc7 hR7)
                clear hn1 hp2 hvv hc7 hR7
                go_wp2_with fail
                refine (Want.out (w.heap.size + 2) p2 45 w7 S7.out.ox hp2l hl).mono ?_
                rintro e w8 ⟨hc8, ⟨hh, rfl, hR8⟩ | ⟨hh, rfl⟩⟩
                · obtain ⟨p3, hp3⟩ : ∃ p3, p3 = p2 + 1 := ⟨_, rfl⟩
                  rw [← hp3] at hR8
                  have S8 := Lib.hid (S7.out.turn hc8 hR8)
                  have hp3l : p3 ≤ b.length := by have := hh.1; omega
                  have Hp3 := Lib.hid hp3
                  have Hh := Lib.hid hh
                  clear hh hp3 hc8 hR8
                  obtain ⟨a2, c2, rfl⟩ := S8.out.own.form
                  have co := S8.out.out.cell (show 1 < 2 by omega)
                  simp only [show ¬ (1 : Nat) = 0 by omega, if_false] at co
                  by_cases hn3 : noNum b p3
                  · have Hbd := Lib.hid (Hat.out.bad3 hpl H32.out (by rw [← Hp1.out]; exact Hn1.out) (by rw [← Hp1.out, ← Hp2.out]; exact Hh.out) (by rw [← Hp1.out, ← Hp2.out, ← Hp3.out]; exact hn3))
                    rw [← Hp1.out, ← Hp2.out, ← Hp3.out] at Hbd
                    have Hn3 := Lib.hid hn3
                    clear hn3
                    go_wp2
                    refine wp_region_any (by kernel_rfl) ?_
                    change wpAny _ _ _ _ _ _ _ (World.drew _)
                    have S8d := Lib.hid (S8.out.below (Drew.below (by exact Drew.drew (Drew.refl _))))
                    have cod := S8d.out.out.cell (show 1 < 2 by omega)
                    simp only [show ¬ (1 : Nat) = 0 by omega, if_false] at cod
                    clear co
                    refine wpAny_take (i := 0) (v := .pointer (some ⟨w.heap.size, 1, none⟩)) rfl (by kernel_rfl) (by kernel_rfl) (by kernel_rfl) (fun c a w h => leaves_congr (read_slot _ 47 _ (by omega) (by omega)) _ _ _ h) (Or.inl ⟨by rfl, fun w => by go_simp⟩) ?_
                    refine wpAny_take (i := 2) (v := .int .i64 (va : Int)) rfl (by kernel_rfl) (by kernel_rfl) (by kernel_rfl) (fun c a w h => leaves_congr (read_slot _ 49 _ (by omega) (by omega)) _ _ _ h) (Or.inl ⟨by rfl, fun w => by go_simp⟩) ?_
                    refine wpAny_take (i := 3) (v := .pointer (some ⟨w.heap.size + 2, 0, none⟩)) rfl (by kernel_rfl) (by kernel_rfl) (by kernel_rfl) (fun c a w h => leaves_congr (read_slot _ 50 _ (by omega) (by omega)) _ _ _ h) (Or.inl ⟨by rfl, fun w => by go_simp⟩) ?_
                    refine wpAny_ready (rs := [1, 4]) (by kernel_rfl) (by simp) (AllReady.cons rfl (fun K hK => ?_) (AllReady.cons rfl (fun K hK => ?_) AllReady.nil))
                    · go_simp
                      refine hK _ _ ?_
                      clear hK K
                      refine wpAny_ready (rs := [4]) (by kernel_rfl) (by simp) (AllReady.cons rfl (fun K hK => ?_) AllReady.nil)
                      go_simp
                      go_wp2_with fail
                      refine (NumN.out (w.heap.size + 2) p3 _ S8d.out.ox hp3l hl Hn3.out).mono ?_
                      rintro e w9 ⟨rfl, hc9⟩
                      have ST := Lib.hid (S8d.out.torn hc9)
                      refine leaves_cons (f := 33) (args := #[.pointer (some ⟨w.heap.size, 0, none⟩), .pointer (some ⟨w.heap.size + 1, 0, none⟩)]) (by simp) (by simp [go_sem]) ?_
                      obtain ⟨_, hro⟩ := ST.out.out
                      obtain ⟨_, hrF⟩ := ST.out.rf
                      refine (catch_thrown w.heap.size (w.heap.size + 1) _ _ 1 ((p3 : Nat) : Int) _ hro hrF (by omega)).mono ?_
                      rintro e u' wz ⟨rfl, rfl, hcz, hrg, hrf⟩
                      have a0 := hrg.cell (show 0 < 2 by omega); have a1 := hrg.cell (show 1 < 2 by omega)
                      have b0 := hrf.cell (show 0 < 2 by omega); have b1 := hrf.cell (show 1 < 2 by omega)
                      simp only [show ¬ (1 : Nat) = 0 by omega, if_false, if_true] at a0 a1 b0 b1
                      have hfin := ST.out.hb.trans (hcz.toBelow ST.out.hb.size fun k hk e => by omega)
                      refine ⟨.tuple #[.agg #[.int .i64 0, .slice none 0 0], .agg #[.int .i64 1, .int .i64 ((p3 : Nat) : Int)]], by simp [results, Tryd.results15, go_sem, a0, a1, b0, b1], ?_⟩
                      exact ReadPost.bad Hl.out (Hbd.out) hfin rfl
                    · go_simp
                      go_wp2_with fail
                      refine (NumN.out (w.heap.size + 2) p3 _ S8d.out.ox hp3l hl Hn3.out).mono ?_
                      rintro e w9 ⟨rfl, hc9⟩
                      have ST := Lib.hid (S8d.out.torn hc9)
                      refine leaves_cons (f := 33) (args := #[.pointer (some ⟨w.heap.size, 0, none⟩), .pointer (some ⟨w.heap.size + 1, 0, none⟩)]) (by simp) (by simp [go_sem]) ?_
                      obtain ⟨_, hro⟩ := ST.out.out
                      obtain ⟨_, hrF⟩ := ST.out.rf
                      refine (catch_thrown w.heap.size (w.heap.size + 1) _ _ 1 ((p3 : Nat) : Int) _ hro hrF (by omega)).mono ?_
                      rintro e u' wz ⟨rfl, rfl, hcz, hrg, hrf⟩
                      have a0 := hrg.cell (show 0 < 2 by omega); have a1 := hrg.cell (show 1 < 2 by omega)
                      have b0 := hrf.cell (show 0 < 2 by omega); have b1 := hrf.cell (show 1 < 2 by omega)
                      simp only [show ¬ (1 : Nat) = 0 by omega, if_false, if_true] at a0 a1 b0 b1
                      have hfin := ST.out.hb.trans (hcz.toBelow ST.out.hb.size fun k hk e => by omega)
                      refine ⟨.tuple #[.agg #[.int .i64 0, .slice none 0 0], .agg #[.int .i64 1, .int .i64 ((p3 : Nat) : Int)]], by simp [results, Tryd.results15, go_sem, a0, a1, b0, b1], ?_⟩
                      exact ReadPost.bad Hl.out (Hbd.out) hfin rfl
                  · have hp4l := numE_le (b := b) (p := p3) hp3l
                    have hp34 := numE_gt hn3
                    have hvb := numV_few hn3
                    have hnx := Hat.out.next hpl H32.out (by rw [← Hp1.out]; exact Hn1.out) (by rw [← Hp1.out, ← Hp2.out]; exact Hh.out) (by rw [← Hp1.out, ← Hp2.out, ← Hp3.out]; exact hn3)
                    rw [← Hp1.out, ← Hp2.out, ← Hp3.out] at hnx
                    obtain ⟨p4, hp4⟩ : ∃ p4, p4 = numE b p3 := ⟨_, rfl⟩
                    obtain ⟨vb, hvw⟩ : ∃ vb, vb = numV b p3 := ⟨_, rfl⟩
                    rw [← hp4] at hp4l hp34
                    rw [← hvw] at hvb
                    rw [← hp4, ← hvw, ← Hva.out] at hnx
                    have Hnx := Lib.hid hnx
                    have hcall := fun (W : World) (h : RAt W (w.heap.size + 2) s p3) => NumO.out (w.heap.size + 2) p3 W h hp3l hl hn3
                    rw [← hp4, ← hvw] at hcall
                    have Hcall := Lib.hid hcall
                    clear hn3 hp4 hvw hnx hcall
                    go_wp2
                    refine wp_region_any (by kernel_rfl) ?_
                    change wpAny _ _ _ _ _ _ _ (World.drew _)
                    have S8d := Lib.hid (S8.out.below (Drew.below (by exact Drew.drew (Drew.refl _))))
                    have cod := S8d.out.out.cell (show 1 < 2 by omega)
                    simp only [show ¬ (1 : Nat) = 0 by omega, if_false] at cod
                    clear co
                    refine wpAny_take (i := 0) (v := .pointer (some ⟨w.heap.size, 1, none⟩)) rfl (by kernel_rfl) (by kernel_rfl) (by kernel_rfl) (fun c a w h => leaves_congr (read_slot _ 47 _ (by omega) (by omega)) _ _ _ h) (Or.inl ⟨by rfl, fun w => by go_simp⟩) ?_
                    refine wpAny_take (i := 2) (v := .int .i64 (va : Int)) rfl (by kernel_rfl) (by kernel_rfl) (by kernel_rfl) (fun c a w h => leaves_congr (read_slot _ 49 _ (by omega) (by omega)) _ _ _ h) (Or.inl ⟨by rfl, fun w => by go_simp⟩) ?_
                    refine wpAny_take (i := 3) (v := .pointer (some ⟨w.heap.size + 2, 0, none⟩)) rfl (by kernel_rfl) (by kernel_rfl) (by kernel_rfl) (fun c a w h => leaves_congr (read_slot _ 50 _ (by omega) (by omega)) _ _ _ h) (Or.inl ⟨by rfl, fun w => by go_simp⟩) ?_
                    refine wpAny_ready (rs := [1, 4]) (by kernel_rfl) (by simp) (AllReady.cons rfl (fun K hK => ?_) (AllReady.cons rfl (fun K hK => ?_) AllReady.nil))
                    · go_simp
                      refine hK _ _ ?_
                      clear hK K
                      refine wpAny_ready (rs := [4]) (by kernel_rfl) (by simp) (AllReady.cons rfl (fun K hK => ?_) AllReady.nil)
                      go_simp
                      go_wp2_with fail
                      refine (Hcall.out _ S8d.out.ox).mono ?_
                      rintro e w9 ⟨rfl, hc9, hR9⟩
                      have S9 := Lib.hid (S8d.out.turn hc9 hR9)
                      have co9 := S9.out.out.cell (show 1 < 2 by omega)
                      simp only [show ¬ (1 : Nat) = 0 by omega, if_false] at co9
                      have M3 := Lib.hid (S9.out.below (below1 w9 (Obj.cells #[.int .i64 (va : Int), .int .i64 (vb : Int)] 40)))
                      clear hc9 hR9
                      refine hK _ _ ?_
                      clear hK K
                      refine wpAny_ready (rs := [5]) (by kernel_rfl) (by simp) (AllReady.cons rfl (fun K hK => ?_) AllReady.nil)
                      go_simp
                      refine hK _ _ ?_
                      clear hK K
                      refine wpAny_ready (rs := [6]) (by kernel_rfl) (by simp) (AllReady.cons rfl (fun K hK => ?_) AllReady.nil)
                      go_simp
                      refine hK _ _ ?_
                      clear hK K
                      refine wpAny_ready (rs := [7]) (by kernel_rfl) (by simp) (AllReady.cons rfl (fun K hK => ?_) AllReady.nil)
                      refine step_append_edges rfl _ _ 22 rfl (w.heap.size + 3) Tryd.underlying22 info2 _ L rfl M3.out.own _ [((va : Int), (vb : Int))] rfl (edge_one _ _ _ _ rfl) _ rfl (by simp; omega) (by have := S9.out.ox.lt; simp; omega) ?_
                      intro a5 c5 w10 ho5 hg5
                      have r5 := M3.out.after hg5
                      have co5 := r5.cell (show 1 < 2 by omega)
                      have fo5 := r5.frozen 1
                      have lo5 := r5.lt
                      have Hn := Lib.hid (M3.out.put ho5 hg5)
                      clear hg5 ho5 r5
                      refine hK _ _ ?_
                      clear hK K
                      refine wpAny_ready (rs := [8]) (by kernel_rfl) (by simp) (AllReady.cons rfl (fun K hK => ?_) AllReady.nil)
                      go_simp
                      refine hK _ _ ?_
                      clear hK K
                      refine wpAny_ready (rs := [9]) (by kernel_rfl) (by simp) (AllReady.cons rfl (fun K hK => ?_) AllReady.nil)
                      go_simp
                      refine hK _ _ ?_
                      clear hK K
                      refine wpAny_done (by kernel_rfl) ?_ _
                      go_wp2
                      go_roundg (b.length + 1 - p4)
                      case measure => have := Hp1.out; have := Hp3.out; go_light; omega
                      case rel => exact ⟨p4, .slice a5 (L.length + 1) c5, _, hp4l, by omega, rfl, Hnx.out, by have := Hp1.out; have := Hp3.out; simp; omega, by have h9 := Hn.out; simp only [List.length_append, List.length_cons, List.length_nil, Nat.zero_add] at h9; exact h9⟩
                    · go_simp
                      go_wp2_with fail
                      refine (Hcall.out _ S8d.out.ox).mono ?_
                      rintro e w9 ⟨rfl, hc9, hR9⟩
                      have S9 := Lib.hid (S8d.out.turn hc9 hR9)
                      have co9 := S9.out.out.cell (show 1 < 2 by omega)
                      simp only [show ¬ (1 : Nat) = 0 by omega, if_false] at co9
                      have M3 := Lib.hid (S9.out.below (below1 w9 (Obj.cells #[.int .i64 (va : Int), .int .i64 (vb : Int)] 40)))
                      clear hc9 hR9
                      refine hK _ _ ?_
                      clear hK K
                      have coM := M3.out.out.cell (show 1 < 2 by omega)
                      simp only [show ¬ (1 : Nat) = 0 by omega, if_false] at coM
                      refine wpAny_take (i := 5) (v := .agg #[.int .i64 (va : Int), .int .i64 (vb : Int)]) rfl (by kernel_rfl) (by kernel_rfl) (by kernel_rfl) (fun c a w h => leaves_congr (read_slot _ 52 _ (by omega) (by omega)) _ _ _ h) (Or.inl ⟨by rfl, fun w => by go_simp⟩) ?_
                      refine wpAny_ready (rs := [1, 6]) (by kernel_rfl) (by simp) (AllReady.cons rfl (fun K hK => ?_) (AllReady.cons rfl (fun K hK => ?_) AllReady.nil))
                      · go_simp
                        refine hK _ _ ?_
                        clear hK K
                        refine wpAny_ready (rs := [6]) (by kernel_rfl) (by simp) (AllReady.cons rfl (fun K hK => ?_) AllReady.nil)
                        go_simp
                        refine hK _ _ ?_
                        clear hK K
                        refine wpAny_ready (rs := [7]) (by kernel_rfl) (by simp) (AllReady.cons rfl (fun K hK => ?_) AllReady.nil)
                        refine step_append_edges rfl _ _ 22 rfl (w.heap.size + 3) Tryd.underlying22 info2 _ L rfl M3.out.own _ [((va : Int), (vb : Int))] rfl (edge_one _ _ _ _ rfl) _ rfl (by simp; omega) (by have := S9.out.ox.lt; simp; omega) ?_
                        intro a5 c5 w10 ho5 hg5
                        have r5 := M3.out.after hg5
                        have co5 := r5.cell (show 1 < 2 by omega)
                        have fo5 := r5.frozen 1
                        have lo5 := r5.lt
                        have Hn := Lib.hid (M3.out.put ho5 hg5)
                        clear hg5 ho5 r5
                        refine hK _ _ ?_
                        clear hK K
                        refine wpAny_ready (rs := [8]) (by kernel_rfl) (by simp) (AllReady.cons rfl (fun K hK => ?_) AllReady.nil)
                        go_simp
                        refine hK _ _ ?_
                        clear hK K
                        refine wpAny_ready (rs := [9]) (by kernel_rfl) (by simp) (AllReady.cons rfl (fun K hK => ?_) AllReady.nil)
                        go_simp
                        refine hK _ _ ?_
                        clear hK K
                        refine wpAny_done (by kernel_rfl) ?_ _
                        go_wp2
                        go_roundg (b.length + 1 - p4)
                        case measure => have := Hp1.out; have := Hp3.out; go_light; omega
                        case rel => exact ⟨p4, .slice a5 (L.length + 1) c5, _, hp4l, by omega, rfl, Hnx.out, by have := Hp1.out; have := Hp3.out; simp; omega, by have h9 := Hn.out; simp only [List.length_append, List.length_cons, List.length_nil, Nat.zero_add] at h9; exact h9⟩
                      · go_simp
                        refine hK _ _ ?_
                        clear hK K
                        refine wpAny_ready (rs := [1]) (by kernel_rfl) (by simp) (AllReady.cons rfl (fun K hK => ?_) AllReady.nil)
                        go_simp
                        refine hK _ _ ?_
                        clear hK K
                        refine wpAny_ready (rs := [7]) (by kernel_rfl) (by simp) (AllReady.cons rfl (fun K hK => ?_) AllReady.nil)
                        refine step_append_edges rfl _ _ 22 rfl (w.heap.size + 3) Tryd.underlying22 info2 _ L rfl M3.out.own _ [((va : Int), (vb : Int))] rfl (edge_one _ _ _ _ rfl) _ rfl (by simp; omega) (by have := S9.out.ox.lt; simp; omega) ?_
                        intro a5 c5 w10 ho5 hg5
                        have r5 := M3.out.after hg5
                        have co5 := r5.cell (show 1 < 2 by omega)
                        have fo5 := r5.frozen 1
                        have lo5 := r5.lt
                        have Hn := Lib.hid (M3.out.put ho5 hg5)
                        clear hg5 ho5 r5
                        refine hK _ _ ?_
                        clear hK K
                        refine wpAny_ready (rs := [8]) (by kernel_rfl) (by simp) (AllReady.cons rfl (fun K hK => ?_) AllReady.nil)
                        go_simp
                        refine hK _ _ ?_
                        clear hK K
                        refine wpAny_ready (rs := [9]) (by kernel_rfl) (by simp) (AllReady.cons rfl (fun K hK => ?_) AllReady.nil)
                        go_simp
                        refine hK _ _ ?_
                        clear hK K
                        refine wpAny_done (by kernel_rfl) ?_ _
                        go_wp2
                        go_roundg (b.length + 1 - p4)
                        case measure => have := Hp1.out; have := Hp3.out; go_light; omega
                        case rel => exact ⟨p4, .slice a5 (L.length + 1) c5, _, hp4l, by omega, rfl, Hnx.out, by have := Hp1.out; have := Hp3.out; simp; omega, by have h9 := Hn.out; simp only [List.length_append, List.length_cons, List.length_nil, Nat.zero_add] at h9; exact h9⟩
                · have Hbd := Lib.hid (Hat.out.bad2 hpl H32.out (by rw [← Hp1.out]; exact Hn1.out) (by rw [← Hp1.out, ← Hp2.out]; exact hh))
                  rw [← Hp1.out, ← Hp2.out] at Hbd
                  clear hh
                  have ST := Lib.hid (S7.out.torn hc8)
                  refine leaves_cons (f := 33) (args := #[.pointer (some ⟨w.heap.size, 0, none⟩), .pointer (some ⟨w.heap.size + 1, 0, none⟩)]) (by simp) (by simp [go_sem]) ?_
                  obtain ⟨_, hro⟩ := ST.out.out
                  obtain ⟨_, hrF⟩ := ST.out.rf
                  refine (catch_thrown w.heap.size (w.heap.size + 1) _ _ 1 ((p2 : Nat) : Int) _ hro hrF (by omega)).mono ?_
                  rintro e u' wz ⟨rfl, rfl, hcz, hrg, hrf⟩
                  have a0 := hrg.cell (show 0 < 2 by omega); have a1 := hrg.cell (show 1 < 2 by omega)
                  have b0 := hrf.cell (show 0 < 2 by omega); have b1 := hrf.cell (show 1 < 2 by omega)
                  simp only [show ¬ (1 : Nat) = 0 by omega, if_false, if_true] at a0 a1 b0 b1
                  have hfin := ST.out.hb.trans (hcz.toBelow ST.out.hb.size fun k hk e => by omega)
                  refine ⟨.tuple #[.agg #[.int .i64 0, .slice none 0 0], .agg #[.int .i64 1, .int .i64 ((p2 : Nat) : Int)]], by simp [results, Tryd.results15, go_sem, a0, a1, b0, b1], ?_⟩
                  exact ReadPost.bad Hl.out (Hbd.out) hfin rfl
            · have g1 : ((x : Int) == 32) = false := by simp; omega
              have Hno := Lib.hid (show ¬ hasB b p 32 from fun h => h32 (hx.trans h.2))
              clear h32 hx
              go_wp2_with fail
              clear c0 c1 fz
              refine (Want.out (w.heap.size + 2) p 10 wr Hst.out.ox hpl hl).mono ?_
              rintro e w6 ⟨hc6, ⟨hh, rfl, hR6⟩ | ⟨hh, rfl⟩⟩
              · obtain ⟨p1, hp1⟩ : ∃ p1, p1 = p + 1 := ⟨_, rfl⟩
                rw [← hp1] at hR6
                have S6 := Lib.hid (Hst.out.turn hc6 hR6)
                have Hp1 := Lib.hid hp1
                obtain ⟨d0, d1, dz, drr⟩ := RAt.facts (show RAt w6 (w.heap.size + 2) s p1 from S6.out.ox)
                have hlt1 := hh.1
                have hp1l : p1 ≤ b.length := by omega
                by_cases hmore : p1 < b.length
                · have g5 : (p1 : Int) < (b.length : Int) := by omega
                  have Hbd := Lib.hid (Hat.out.more hpl hh (by omega))
                  rw [← hp1] at Hbd
                  clear hp1 hmore hh hc6 hR6 hlt1
                  go_wp2_with fail
                  refine (fail_any _ 1 p1 w6).mono ?_
                  rintro e w7 ⟨rfl, hb7⟩
                  have ST := Lib.hid (S6.out.torn (Chg.ofBelow hb7))
                  refine leaves_cons (f := 33) (args := #[.pointer (some ⟨w.heap.size, 0, none⟩), .pointer (some ⟨w.heap.size + 1, 0, none⟩)]) (by simp) (by simp [go_sem]) ?_
                  obtain ⟨_, hro⟩ := ST.out.out
                  obtain ⟨_, hrF⟩ := ST.out.rf
                  refine (catch_thrown w.heap.size (w.heap.size + 1) _ _ 1 ((p1 : Nat) : Int) _ hro hrF (by omega)).mono ?_
                  rintro e u' wz ⟨rfl, rfl, hcz, hrg, hrf⟩
                  have a0 := hrg.cell (show 0 < 2 by omega); have a1 := hrg.cell (show 1 < 2 by omega)
                  have b0 := hrf.cell (show 0 < 2 by omega); have b1 := hrf.cell (show 1 < 2 by omega)
                  simp only [show ¬ (1 : Nat) = 0 by omega, if_false, if_true] at a0 a1 b0 b1
                  have hfin := ST.out.hb.trans (hcz.toBelow ST.out.hb.size fun k hk e => by omega)
                  refine ⟨.tuple #[.agg #[.int .i64 0, .slice none 0 0], .agg #[.int .i64 1, .int .i64 ((p1 : Nat) : Int)]], by simp [results, Tryd.results15, go_sem, a0, a1, b0, b1], ?_⟩
                  exact ReadPost.bad Hl.out (Hbd.out) hfin rfl
                · have g5 : ¬ (p1 : Int) < (b.length : Int) := by omega
                  have Hgd := Lib.hid (Hat.out.last hpl hh (by omega))
                  clear hp1 hmore hh hc6 hR6 hlt1
                  obtain ⟨a2, c2, rfl⟩ := S6.out.own.form
                  have co0 := S6.out.out.cell (show 0 < 2 by omega)
                  have co1 := S6.out.out.cell (show 1 < 2 by omega)
                  simp only [show ¬ (1 : Nat) = 0 by omega, if_false, if_true] at co0 co1
                  obtain ⟨c, a, hsp⟩ := GraphSpec.ex (nn : Int) L
                  have Hsp := Lib.hid hsp
                  by_cases hc0 : c = 0
                  · subst hc0
                    obtain ⟨hgood, rfl⟩ := hsp.good
                    have Hgood := Lib.hid hgood
                    clear hsp hgood
                    go_wp2_with fail
                    refine (form_ok Hgood.out (.slice a2 L.length c2) w6 S6.out.own.edges).mono ?_
                    rintro e w7 ⟨v7, ho7, hb7, rfl⟩
                    have S7 := Lib.hid (S6.out.below hb7)
                    obtain ⟨a7, c7, rfl⟩ := ho7.form
                    have Ho7 := Lib.hid (ho7.low (show w.heap.size + 2 ≤ w6.heap.size by have := S6.out.ox.lt; omega))
                    clear ho7 hb7 co0 co1
                    have z0 := S7.out.out.cell (show 0 < 2 by omega); have z1 := S7.out.out.cell (show 1 < 2 by omega); have f0 := S7.out.out.frozen 0; have f1 := S7.out.out.frozen 1; have l0 := S7.out.out.lt
                    obtain ⟨y0, y1, gg0, gg1, l1⟩ := row_facts S7.out.rf
                    obtain ⟨gl, hgl⟩ : ∃ gl, gl = (formL nn L).length := ⟨_, rfl⟩
                    have Hgl := Lib.hid hgl
                    rw [← hgl]
                    clear hgl
                    go_wp2
                    obtain ⟨k0, k1, k2, k3⟩ := four_set S7.out.out S7.out.rf (show w.heap.size ≠ w.heap.size + 1 by omega) (.int .i64 (nn : Int)) (.slice a7 gl c7) (.int .i64 0) (.int .i64 0)
                    have hfin := four_below S7.out.hb (Nat.le_refl _) (show w.heap.size ≤ w.heap.size + 1 by omega) (.int .i64 (nn : Int)) (.slice a7 gl c7) (.int .i64 0) (.int .i64 0)
                    have hown := ((((Ho7.out.set (show w.heap.size < w.heap.size + 2 by omega) 0 (.int .i64 (nn : Int))).set (show w.heap.size < w.heap.size + 2 by omega) 1 (.slice a7 gl c7)).set (show w.heap.size + 1 < w.heap.size + 2 by omega) 0 (.int .i64 0)).set (show w.heap.size + 1 < w.heap.size + 2 by omega) 1 (.int .i64 0)).low (show w.heap.size ≤ w.heap.size + 2 by omega)
                    rw [← Hgl.out] at hown
                    refine leaves_cons (f := 33) (args := #[.pointer (some ⟨w.heap.size, 0, none⟩), .pointer (some ⟨w.heap.size + 1, 0, none⟩)]) (by simp) (by simp [go_sem]) ?_
                    refine (catch_idle _ _ _).mono ?_
                    rintro e u' wz ⟨rfl, rfl, rfl⟩
                    refine ⟨.tuple #[.agg #[.int .i64 (nn : Int), .slice a7 gl c7], .agg #[.int .i64 0, .int .i64 0]], by simp [results, Tryd.results15, go_sem, k0, k1, k2, k3], ?_⟩
                    exact ⟨nn, formL nn L, 0, 0, Or.inr (Or.inr ⟨Hl.out, L, Hgd.out, by rw [← Hnn.out]; exact Hsp.out, Or.inr ⟨rfl, Hnn.out, by rw [← Hnn.out]⟩⟩), _, hown, hfin, rfl⟩
                  · have Hc0 := Lib.hid hc0
                    clear hsp hc0
                    go_wp2_with fail
                    refine (form_bad Hsp.out Hc0.out (.slice a2 L.length c2) w6 S6.out.own.edges).mono ?_
                    rintro e w7 ⟨v7, ho7, hb7, rfl⟩
                    have S7 := Lib.hid (S6.out.below hb7)
                    obtain ⟨a7, c7, rfl⟩ := ho7.form
                    have Ho7 := Lib.hid (ho7.low (show w.heap.size + 2 ≤ w6.heap.size by have := S6.out.ox.lt; omega))
                    clear ho7 hb7 co0 co1
                    have z0 := S7.out.out.cell (show 0 < 2 by omega); have z1 := S7.out.out.cell (show 1 < 2 by omega); have f0 := S7.out.out.frozen 0; have f1 := S7.out.out.frozen 1; have l0 := S7.out.out.lt
                    obtain ⟨y0, y1, gg0, gg1, l1⟩ := row_facts S7.out.rf
                    simp only [List.length_nil] at *
                    go_wp2
                    obtain ⟨k0, k1, k2, k3⟩ := four_set S7.out.out S7.out.rf (show w.heap.size ≠ w.heap.size + 1 by omega) (.int .i64 0) (.slice a7 0 c7) (.int .i64 c) (.int .i64 a)
                    have hfin := four_below S7.out.hb (Nat.le_refl _) (show w.heap.size ≤ w.heap.size + 1 by omega) (.int .i64 0) (.slice a7 0 c7) (.int .i64 c) (.int .i64 a)
                    have hown := ((((Ho7.out.set (show w.heap.size < w.heap.size + 2 by omega) 0 (.int .i64 0)).set (show w.heap.size < w.heap.size + 2 by omega) 1 (.slice a7 0 c7)).set (show w.heap.size + 1 < w.heap.size + 2 by omega) 0 (.int .i64 c)).set (show w.heap.size + 1 < w.heap.size + 2 by omega) 1 (.int .i64 a)).low (show w.heap.size ≤ w.heap.size + 2 by omega)
                    refine leaves_cons (f := 33) (args := #[.pointer (some ⟨w.heap.size, 0, none⟩), .pointer (some ⟨w.heap.size + 1, 0, none⟩)]) (by simp) (by simp [go_sem]) ?_
                    refine (catch_idle _ _ _).mono ?_
                    rintro e u' wz ⟨rfl, rfl, rfl⟩
                    refine ⟨.tuple #[.agg #[.int .i64 0, .slice a7 0 c7], .agg #[.int .i64 c, .int .i64 a]], by simp [results, Tryd.results15, go_sem, k0, k1, k2, k3], ?_⟩
                    exact ⟨0, [], c, a, Or.inr (Or.inr ⟨Hl.out, L, Hgd.out, by rw [← Hnn.out]; exact Hsp.out, Or.inl ⟨Hc0.out, rfl, rfl⟩⟩), _, hown, hfin, rfl⟩
              · have Hbd := Lib.hid (Hat.out.bad hpl hh Hno.out)
                clear hh
                have ST := Lib.hid (Hst.out.torn hc6)
                refine leaves_cons (f := 33) (args := #[.pointer (some ⟨w.heap.size, 0, none⟩), .pointer (some ⟨w.heap.size + 1, 0, none⟩)]) (by simp) (by simp [go_sem]) ?_
                obtain ⟨_, hro⟩ := ST.out.out
                obtain ⟨_, hrF⟩ := ST.out.rf
                refine (catch_thrown w.heap.size (w.heap.size + 1) _ _ 1 ((p : Nat) : Int) _ hro hrF (by omega)).mono ?_
                rintro e u' wz ⟨rfl, rfl, hcz, hrg, hrf⟩
                have a0 := hrg.cell (show 0 < 2 by omega); have a1 := hrg.cell (show 1 < 2 by omega)
                have b0 := hrf.cell (show 0 < 2 by omega); have b1 := hrf.cell (show 1 < 2 by omega)
                simp only [show ¬ (1 : Nat) = 0 by omega, if_false, if_true] at a0 a1 b0 b1
                have hfin := ST.out.hb.trans (hcz.toBelow ST.out.hb.size fun k hk e => by omega)
                refine ⟨.tuple #[.agg #[.int .i64 0, .slice none 0 0], .agg #[.int .i64 1, .int .i64 ((p : Nat) : Int)]], by simp [results, Tryd.results15, go_sem, a0, a1, b0, b1], ?_⟩
                exact ReadPost.bad Hl.out (Hbd.out) hfin rfl
          · have i1 : ¬ (p : Int) < (b.length : Int) := by omega
            have Hno := Lib.hid (show ¬ hasB b p 32 from fun h => hlt h.1)
            clear hlt
            go_wp2_with fail
            clear c0 c1 fz
            refine (Want.out (w.heap.size + 2) p 10 wr Hst.out.ox hpl hl).mono ?_
            rintro e w6 ⟨hc6, ⟨hh, rfl, hR6⟩ | ⟨hh, rfl⟩⟩
            · obtain ⟨p1, hp1⟩ : ∃ p1, p1 = p + 1 := ⟨_, rfl⟩
              rw [← hp1] at hR6
              have S6 := Lib.hid (Hst.out.turn hc6 hR6)
              have Hp1 := Lib.hid hp1
              obtain ⟨d0, d1, dz, drr⟩ := RAt.facts (show RAt w6 (w.heap.size + 2) s p1 from S6.out.ox)
              have hlt1 := hh.1
              have hp1l : p1 ≤ b.length := by omega
              by_cases hmore : p1 < b.length
              · have g5 : (p1 : Int) < (b.length : Int) := by omega
                have Hbd := Lib.hid (Hat.out.more hpl hh (by omega))
                rw [← hp1] at Hbd
                clear hp1 hmore hh hc6 hR6 hlt1
                go_wp2_with fail
                refine (fail_any _ 1 p1 w6).mono ?_
                rintro e w7 ⟨rfl, hb7⟩
                have ST := Lib.hid (S6.out.torn (Chg.ofBelow hb7))
                refine leaves_cons (f := 33) (args := #[.pointer (some ⟨w.heap.size, 0, none⟩), .pointer (some ⟨w.heap.size + 1, 0, none⟩)]) (by simp) (by simp [go_sem]) ?_
                obtain ⟨_, hro⟩ := ST.out.out
                obtain ⟨_, hrF⟩ := ST.out.rf
                refine (catch_thrown w.heap.size (w.heap.size + 1) _ _ 1 ((p1 : Nat) : Int) _ hro hrF (by omega)).mono ?_
                rintro e u' wz ⟨rfl, rfl, hcz, hrg, hrf⟩
                have a0 := hrg.cell (show 0 < 2 by omega); have a1 := hrg.cell (show 1 < 2 by omega)
                have b0 := hrf.cell (show 0 < 2 by omega); have b1 := hrf.cell (show 1 < 2 by omega)
                simp only [show ¬ (1 : Nat) = 0 by omega, if_false, if_true] at a0 a1 b0 b1
                have hfin := ST.out.hb.trans (hcz.toBelow ST.out.hb.size fun k hk e => by omega)
                refine ⟨.tuple #[.agg #[.int .i64 0, .slice none 0 0], .agg #[.int .i64 1, .int .i64 ((p1 : Nat) : Int)]], by simp [results, Tryd.results15, go_sem, a0, a1, b0, b1], ?_⟩
                exact ReadPost.bad Hl.out (Hbd.out) hfin rfl
              · have g5 : ¬ (p1 : Int) < (b.length : Int) := by omega
                have Hgd := Lib.hid (Hat.out.last hpl hh (by omega))
                clear hp1 hmore hh hc6 hR6 hlt1
                obtain ⟨a2, c2, rfl⟩ := S6.out.own.form
                have co0 := S6.out.out.cell (show 0 < 2 by omega)
                have co1 := S6.out.out.cell (show 1 < 2 by omega)
                simp only [show ¬ (1 : Nat) = 0 by omega, if_false, if_true] at co0 co1
                obtain ⟨c, a, hsp⟩ := GraphSpec.ex (nn : Int) L
                have Hsp := Lib.hid hsp
                by_cases hc0 : c = 0
                · subst hc0
                  obtain ⟨hgood, rfl⟩ := hsp.good
                  have Hgood := Lib.hid hgood
                  clear hsp hgood
                  go_wp2_with fail
                  refine (form_ok Hgood.out (.slice a2 L.length c2) w6 S6.out.own.edges).mono ?_
                  rintro e w7 ⟨v7, ho7, hb7, rfl⟩
                  have S7 := Lib.hid (S6.out.below hb7)
                  obtain ⟨a7, c7, rfl⟩ := ho7.form
                  have Ho7 := Lib.hid (ho7.low (show w.heap.size + 2 ≤ w6.heap.size by have := S6.out.ox.lt; omega))
                  clear ho7 hb7 co0 co1
                  have z0 := S7.out.out.cell (show 0 < 2 by omega); have z1 := S7.out.out.cell (show 1 < 2 by omega); have f0 := S7.out.out.frozen 0; have f1 := S7.out.out.frozen 1; have l0 := S7.out.out.lt
                  obtain ⟨y0, y1, gg0, gg1, l1⟩ := row_facts S7.out.rf
                  obtain ⟨gl, hgl⟩ : ∃ gl, gl = (formL nn L).length := ⟨_, rfl⟩
                  have Hgl := Lib.hid hgl
                  rw [← hgl]
                  clear hgl
                  go_wp2
                  obtain ⟨k0, k1, k2, k3⟩ := four_set S7.out.out S7.out.rf (show w.heap.size ≠ w.heap.size + 1 by omega) (.int .i64 (nn : Int)) (.slice a7 gl c7) (.int .i64 0) (.int .i64 0)
                  have hfin := four_below S7.out.hb (Nat.le_refl _) (show w.heap.size ≤ w.heap.size + 1 by omega) (.int .i64 (nn : Int)) (.slice a7 gl c7) (.int .i64 0) (.int .i64 0)
                  have hown := ((((Ho7.out.set (show w.heap.size < w.heap.size + 2 by omega) 0 (.int .i64 (nn : Int))).set (show w.heap.size < w.heap.size + 2 by omega) 1 (.slice a7 gl c7)).set (show w.heap.size + 1 < w.heap.size + 2 by omega) 0 (.int .i64 0)).set (show w.heap.size + 1 < w.heap.size + 2 by omega) 1 (.int .i64 0)).low (show w.heap.size ≤ w.heap.size + 2 by omega)
                  rw [← Hgl.out] at hown
                  refine leaves_cons (f := 33) (args := #[.pointer (some ⟨w.heap.size, 0, none⟩), .pointer (some ⟨w.heap.size + 1, 0, none⟩)]) (by simp) (by simp [go_sem]) ?_
                  refine (catch_idle _ _ _).mono ?_
                  rintro e u' wz ⟨rfl, rfl, rfl⟩
                  refine ⟨.tuple #[.agg #[.int .i64 (nn : Int), .slice a7 gl c7], .agg #[.int .i64 0, .int .i64 0]], by simp [results, Tryd.results15, go_sem, k0, k1, k2, k3], ?_⟩
                  exact ⟨nn, formL nn L, 0, 0, Or.inr (Or.inr ⟨Hl.out, L, Hgd.out, by rw [← Hnn.out]; exact Hsp.out, Or.inr ⟨rfl, Hnn.out, by rw [← Hnn.out]⟩⟩), _, hown, hfin, rfl⟩
                · have Hc0 := Lib.hid hc0
                  clear hsp hc0
                  go_wp2_with fail
                  refine (form_bad Hsp.out Hc0.out (.slice a2 L.length c2) w6 S6.out.own.edges).mono ?_
                  rintro e w7 ⟨v7, ho7, hb7, rfl⟩
                  have S7 := Lib.hid (S6.out.below hb7)
                  obtain ⟨a7, c7, rfl⟩ := ho7.form
                  have Ho7 := Lib.hid (ho7.low (show w.heap.size + 2 ≤ w6.heap.size by have := S6.out.ox.lt; omega))
                  clear ho7 hb7 co0 co1
                  have z0 := S7.out.out.cell (show 0 < 2 by omega); have z1 := S7.out.out.cell (show 1 < 2 by omega); have f0 := S7.out.out.frozen 0; have f1 := S7.out.out.frozen 1; have l0 := S7.out.out.lt
                  obtain ⟨y0, y1, gg0, gg1, l1⟩ := row_facts S7.out.rf
                  simp only [List.length_nil] at *
                  go_wp2
                  obtain ⟨k0, k1, k2, k3⟩ := four_set S7.out.out S7.out.rf (show w.heap.size ≠ w.heap.size + 1 by omega) (.int .i64 0) (.slice a7 0 c7) (.int .i64 c) (.int .i64 a)
                  have hfin := four_below S7.out.hb (Nat.le_refl _) (show w.heap.size ≤ w.heap.size + 1 by omega) (.int .i64 0) (.slice a7 0 c7) (.int .i64 c) (.int .i64 a)
                  have hown := ((((Ho7.out.set (show w.heap.size < w.heap.size + 2 by omega) 0 (.int .i64 0)).set (show w.heap.size < w.heap.size + 2 by omega) 1 (.slice a7 0 c7)).set (show w.heap.size + 1 < w.heap.size + 2 by omega) 0 (.int .i64 c)).set (show w.heap.size + 1 < w.heap.size + 2 by omega) 1 (.int .i64 a)).low (show w.heap.size ≤ w.heap.size + 2 by omega)
                  refine leaves_cons (f := 33) (args := #[.pointer (some ⟨w.heap.size, 0, none⟩), .pointer (some ⟨w.heap.size + 1, 0, none⟩)]) (by simp) (by simp [go_sem]) ?_
                  refine (catch_idle _ _ _).mono ?_
                  rintro e u' wz ⟨rfl, rfl, rfl⟩
                  refine ⟨.tuple #[.agg #[.int .i64 0, .slice a7 0 c7], .agg #[.int .i64 c, .int .i64 a]], by simp [results, Tryd.results15, go_sem, k0, k1, k2, k3], ?_⟩
                  exact ⟨0, [], c, a, Or.inr (Or.inr ⟨Hl.out, L, Hgd.out, by rw [← Hnn.out]; exact Hsp.out, Or.inl ⟨Hc0.out, rfl, rfl⟩⟩), _, hown, hfin, rfl⟩
            · have Hbd := Lib.hid (Hat.out.bad hpl hh Hno.out)
              clear hh
              have ST := Lib.hid (Hst.out.torn hc6)
              refine leaves_cons (f := 33) (args := #[.pointer (some ⟨w.heap.size, 0, none⟩), .pointer (some ⟨w.heap.size + 1, 0, none⟩)]) (by simp) (by simp [go_sem]) ?_
              obtain ⟨_, hro⟩ := ST.out.out
              obtain ⟨_, hrF⟩ := ST.out.rf
              refine (catch_thrown w.heap.size (w.heap.size + 1) _ _ 1 ((p : Nat) : Int) _ hro hrF (by omega)).mono ?_
              rintro e u' wz ⟨rfl, rfl, hcz, hrg, hrf⟩
              have a0 := hrg.cell (show 0 < 2 by omega); have a1 := hrg.cell (show 1 < 2 by omega)
              have b0 := hrf.cell (show 0 < 2 by omega); have b1 := hrf.cell (show 1 < 2 by omega)
              simp only [show ¬ (1 : Nat) = 0 by omega, if_false, if_true] at a0 a1 b0 b1
              have hfin := ST.out.hb.trans (hcz.toBelow ST.out.hb.size fun k hk e => by omega)
              refine ⟨.tuple #[.agg #[.int .i64 0, .slice none 0 0], .agg #[.int .i64 1, .int .i64 ((p : Nat) : Int)]], by simp [results, Tryd.results15, go_sem, a0, a1, b0, b1], ?_⟩
              exact ReadPost.bad Hl.out (Hbd.out) hfin rfl
      · have Hbd := Lib.hid (readG_bad1 Hn0.out (by rw [← Hp0.out]; exact hh))
        rw [← Hp0.out] at Hbd
        clear hh
        have ST := Lib.hid (S4.out.torn hc5)
        refine leaves_cons (f := 33) (args := #[.pointer (some ⟨w.heap.size, 0, none⟩), .pointer (some ⟨w.heap.size + 1, 0, none⟩)]) (by simp) (by simp [go_sem]) ?_
        obtain ⟨_, hro⟩ := ST.out.out
        obtain ⟨_, hrF⟩ := ST.out.rf
        refine (catch_thrown w.heap.size (w.heap.size + 1) _ _ 1 ((p0 : Nat) : Int) _ hro hrF (by omega)).mono ?_
        rintro e u' wz ⟨rfl, rfl, hcz, hrg, hrf⟩
        have a0 := hrg.cell (show 0 < 2 by omega); have a1 := hrg.cell (show 1 < 2 by omega)
        have b0 := hrf.cell (show 0 < 2 by omega); have b1 := hrf.cell (show 1 < 2 by omega)
        simp only [show ¬ (1 : Nat) = 0 by omega, if_false, if_true] at a0 a1 b0 b1
        have hfin := ST.out.hb.trans (hcz.toBelow ST.out.hb.size fun k hk e => by omega)
        refine ⟨.tuple #[.agg #[.int .i64 0, .slice none 0 0], .agg #[.int .i64 1, .int .i64 ((p0 : Nat) : Int)]], by simp [results, Tryd.results15, go_sem, a0, a1, b0, b1], ?_⟩
        exact ReadPost.bad Hl.out (Hbd.out) hfin rfl
  · have hl2 : (20000 : Int) < (b.length : Int) := by omega
    have Hl := Lib.hid hl
    go_wp2_with fail
    refine (cofault_any 2 0 w1).mono ?_
    rintro e w2 ⟨rfl, rfl⟩
    have S0 := Lib.hid (R0.out.alloc (Obj.cells #[.int .i64 2, .int .i64 0] 27))
    have S1 := Lib.hid (R1.out.alloc (Obj.cells #[.int .i64 2, .int .i64 0] 27))
    have hb2 := Lib.hid (upq Hb.out (below1 w1 (Obj.cells #[.int .i64 2, .int .i64 0] 27)))
    clear hsz1
    generalize w1.alloc (Obj.cells #[.int .i64 2, .int .i64 0] 27) = w2 at *
    obtain ⟨z0, z1, f0, f1, l0⟩ := row_facts S0.out
    obtain ⟨y0, y1, g0, g1, l1⟩ := row_facts S1.out
    go_wp2
    obtain ⟨c0, c1, c2, c3⟩ := four_set S0.out S1.out (show w.heap.size ≠ w.heap.size + 1 by omega) (.int .i64 0) (.slice none 0 0) (.int .i64 2) (.int .i64 0)
    have hfin := four_below hb2.out (Nat.le_refl _) (show w.heap.size ≤ w.heap.size + 1 by omega) (.int .i64 0) (.slice none 0 0) (.int .i64 2) (.int .i64 0)
    refine ⟨.tuple #[.agg #[.int .i64 0, .slice none 0 0], .agg #[.int .i64 2, .int .i64 0]], by simp [results, Tryd.results15, go_sem, c0, c1, c2, c3], ?_⟩
    exact ⟨0, [], 2, 0, Or.inl ⟨by have := Hl.out; omega, rfl, rfl, rfl, rfl⟩, _, OwnE.nil _ _, hfin, rfl⟩

end Go.Proofs.YtokjcapheogkoaaDoor
