/- arborref.Reads: the walk. -/
import Derived.Test.YtokjcapheogkoaaDoorReadS
import Derived.Test.YtokjcapheogkoaaDoorPrdW
import Derived.Deep.RegionHeld3
namespace Go.Proofs.YtokjcapheogkoaaDoor
open Go Go.RowKit

theorem badR_any (a : Int) (w : World) :
    Calls Tryd.prog 37 #[.int .i64 a] w fun e w' => e = .returned (.tuple #[.agg #[.int .i64 0, .slice none 0 0], .agg #[.int .i64 1, .int .i64 a]]) ∧ Below w.heap.size w w' := by
  have r0 := (two_row w (.int .i64 0) (.slice none 0 0) 24).alloc (Obj.cells #[.int .i64 0, .int .i64 0] 27)
  have r1 := two_row (w.alloc (Obj.cells #[.int .i64 0, .slice none 0 0] 24)) (.int .i64 0) (.int .i64 0) 27
  rw [World.size_alloc] at r1
  have hb := below2 w (Obj.cells #[.int .i64 0, .slice none 0 0] 24) (Obj.cells #[.int .i64 0, .int .i64 0] 27)
  have R0 := Lib.hid r0; have R1 := Lib.hid r1; have Hb := Lib.hid hb
  clear r0 r1 hb
  go_enter Tryd.func37, Tryd.ntmps37
  go_upto_region 1 with fail
  generalize (w.alloc (Obj.cells #[.int .i64 0, .slice none 0 0] 24)).alloc (Obj.cells #[.int .i64 0, .int .i64 0] 27) = w1 at *
  go_wp2_with fail
  refine (F_any 1 a w1).mono ?_
  rintro e w2 ⟨rfl, rfl⟩
  have S0 := Lib.hid (R0.out.alloc (Obj.cells #[.int .i64 1, .int .i64 a] 27))
  have S1 := Lib.hid (R1.out.alloc (Obj.cells #[.int .i64 1, .int .i64 a] 27))
  have hb2 := Lib.hid (upq Hb.out (below1 w1 (Obj.cells #[.int .i64 1, .int .i64 a] 27)))
  generalize w1.alloc (Obj.cells #[.int .i64 1, .int .i64 a] 27) = w2 at *
  obtain ⟨z0, z1, f0, f1, l0⟩ := row_facts S0.out
  obtain ⟨y0, y1, g0, g1, l1⟩ := row_facts S1.out
  go_wp2
  obtain ⟨c0, c1, c2, c3⟩ := four_set S0.out S1.out (show w.heap.size ≠ w.heap.size + 1 by omega) (.int .i64 0) (.slice none 0 0) (.int .i64 1) (.int .i64 a)
  have hfin := four_below hb2.out (Nat.le_refl _) (show w.heap.size ≤ w.heap.size + 1 by omega) (.int .i64 0) (.slice none 0 0) (.int .i64 1) (.int .i64 a)
  exact bodyPost_ret (v := .tuple #[.agg #[.int .i64 0, .slice none 0 0], .agg #[.int .i64 1, .int .i64 a]]) (by simp [results, Tryd.results37, go_sem, c0, c1, c2, c3]) rfl ⟨rfl, hfin⟩

/-- What a reading hands back. -/
def ReadPost (b : List UInt8) (w : World) (e : Ending) (w' : World) : Prop := ∃ (N : Nat) (G : List (Int × Int)) (c a : Int), RSpec b N G c a ∧ TwoPost (N : Int) G c a w e w'
theorem ReadPost.bad {b : List UInt8} {w : World} (h : b.length ≤ 20000) {p : Nat} (hp : readG b = .inl p) {e : Ending} {w' : World} (hw : Below w.heap.size w w')
    (he : e = .returned (.tuple #[.agg #[.int .i64 0, .slice none 0 0], .agg #[.int .i64 1, .int .i64 (p : Int)]])) : ReadPost b w e w' :=
  ⟨0, [], 1, p, Or.inr (Or.inl ⟨h, p, hp, rfl, rfl, rfl, rfl⟩), _, OwnE.nil _ _, hw, he⟩

set_option maxHeartbeats 6400000 in
set_option maxRecDepth 100000 in
theorem reads_any (b : List UInt8) (w : World) :
    Calls Tryd.prog 17 #[.string (bA b)] w (ReadPost b w) := by
  have r0 := (two_row w (.int .i64 0) (.slice none 0 0) 24).alloc (Obj.cells #[.int .i64 0, .int .i64 0] 27)
  have r1 := two_row (w.alloc (Obj.cells #[.int .i64 0, .slice none 0 0] 24)) (.int .i64 0) (.int .i64 0) 27
  rw [World.size_alloc] at r1
  have hb := below2 w (Obj.cells #[.int .i64 0, .slice none 0 0] 24) (Obj.cells #[.int .i64 0, .int .i64 0] 27)
  have hsz1 : ((w.alloc (Obj.cells #[.int .i64 0, .slice none 0 0] 24)).alloc (Obj.cells #[.int .i64 0, .int .i64 0] 27)).heap.size = w.heap.size + 2 := by simp
  have R0 := Lib.hid r0; have R1 := Lib.hid r1; have Hb := Lib.hid hb
  clear r0 r1 hb
  have hix := fun i => bA_at b i
  have Hix := Lib.hid hix
  have hsz := bA_size b
  have Fig := Lib.hid fun p => figure_any b p
  obtain ⟨s, hs⟩ : ∃ s, s = bA b := ⟨_, rfl⟩
  rw [← hs] at hsz ⊢
  rw [← hs] at Fig
  rw [← hs] at Hix
  clear hix hs
  go_enter Tryd.func17, Tryd.ntmps17
  go_upto_region 1 with fail
  generalize (w.alloc (Obj.cells #[.int .i64 0, .slice none 0 0] 24)).alloc (Obj.cells #[.int .i64 0, .int .i64 0] 27) = w1 at *
  by_cases hl : b.length ≤ 20000
  · have Hl := Lib.hid hl
    go_wp2_with fail
    refine (Fig.out 0 w1 (Nat.zero_le _) hl).mono ?_
    rintro e w2 ⟨rfl, ⟨hn0, rfl⟩ | ⟨hn0, rfl⟩⟩
    · have Hn0 := Lib.hid hn0
      have hp0l := numE_le (b := b) (p := 0) (Nat.zero_le _)
      have hv0 := numV_few hn0
      obtain ⟨p0, hp0⟩ : ∃ p0, p0 = numE b 0 := ⟨_, rfl⟩
      obtain ⟨nn, hnn⟩ : ∃ nn, nn = numV b 0 := ⟨_, rfl⟩
      rw [← hp0] at hp0l
      rw [← hnn] at hv0
      have Hp0 := Lib.hid hp0; have Hnn := Lib.hid hnn
      rw [← hp0, ← hnn]
      have hneg : decide ((p0 : Int) < 0) = false := decide_eq_false (by omega)
      clear hn0 hp0 hnn
      by_cases hc : hasB b p0 58
      · have hlt := hc.1
        have g1 : ((p0 : Int) == (b.length : Int)) = false := by simp; omega
        have hixp := Hix.out p0 hlt
        rw [hc.2] at hixp
        have Hstart := Lib.hid (show AtLine b (p0 + 1) [] from by
          have := AtLine.start Hn0.out (by rw [← Hp0.out]; exact hc)
          rw [← Hp0.out] at this
          exact this)
        clear hc
        go_upto_region 11 with fail
        have hP := two_row w2 (.int .i64 (nn : Int)) (.slice none 0 0) 24
        have St := Lib.hid (show PSt w (w2.alloc (Obj.cells #[.int .i64 (nn : Int), .slice none 0 0] 24)) w2.heap.size w.heap.size 24 (fun i => if i = 0 then .int .i64 0 else .slice none 0 0) (nn : Int) (.slice none 0 0) [] from
          ⟨upq Hb.out (below1 _ _), hP, R0.out.alloc _, R1.out.alloc _, OwnE.nil _ _, by omega, by omega⟩)
        generalize w2.alloc (Obj.cells #[.int .i64 (nn : Int), .slice none 0 0] 24) = w3 at *
        clear hP
        obtain ⟨G, hG⟩ : ∃ G, G = w.heap.size + 2 := ⟨_, rfl⟩
        rw [hsz1, ← hG] at St
        rw [← hG]
        have HG := Lib.hid hG
        clear hsz1 hG
        clear hixp g1 hneg
        go_wp2
        go_loopg [6] (b.length + 1 - (p0 + 1)) (fun g s6 wr => ∃ (p : Nat) (v : Value) (L : List (Int × Int)), p ≤ b.length ∧ 0 < p ∧ g = b.length + 1 - p ∧ s6 = .int .i64 (p : Int) ∧ AtLine b p L ∧ L.length ≤ p ∧ PSt w wr G w.heap.size 24 (fun i => if i = 0 then .int .i64 0 else .slice none 0 0) (nn : Int) v L)
        case atStart => exact ⟨p0 + 1, _, [], by omega, by omega, rfl, by go_num, Hstart.out, by simp, St.out⟩
        case round =>
          obtain ⟨p, v, L, hpl, hpp, rfl, rfl, hat, hLp, hst⟩ := hrel
          have Hst := Lib.hid hst; have Hat := Lib.hid hat
          clear hst hat
          by_cases hend : p = b.length
          · have g1 : ((p : Int) == (b.length : Int)) = true := by simp [hend]
            have hbd := Hat.out.bad hpl (fun h => by have := h.1; omega) (fun h => by have := h.1; omega)
            have Hbd := Lib.hid hbd
            clear hbd hend
            go_wp2_with fail
            refine (badR_any ((p : Nat) : Int) wr).mono ?_
            rintro e wz ⟨rfl, hbz⟩
            have S0 := Lib.hid ((Hst.out.ox).of_block (hbz.block _ (Hst.out.ox).lt))
            have S1 := Lib.hid ((Hst.out.rf).of_block (hbz.block _ (Hst.out.rf).lt))
            have Hz := Lib.hid (upq (Hst.out.hb) hbz)
            clear hbz
            obtain ⟨z0, z1, f0, f1, l0⟩ := row_facts S0.out
            obtain ⟨y0, y1, g0, g1, l1⟩ := row_facts S1.out
            go_wp2
            obtain ⟨c0, c1, c2, c3⟩ := four_set S0.out S1.out (show w.heap.size ≠ w.heap.size + 1 by omega) (.int .i64 0) (.slice none 0 0) (.int .i64 1) (.int .i64 ((p : Nat) : Int))
            have hfin := four_below Hz.out (Nat.le_refl _) (show w.heap.size ≤ w.heap.size + 1 by omega) (.int .i64 0) (.slice none 0 0) (.int .i64 1) (.int .i64 ((p : Nat) : Int))
            exact bodyPost_ret (v := .tuple #[.agg #[.int .i64 0, .slice none 0 0], .agg #[.int .i64 1, .int .i64 ((p : Nat) : Int)]]) (by simp [results, Tryd.results17, go_sem, c0, c1, c2, c3]) rfl (ReadPost.bad Hl.out (Hbd.out) hfin rfl)
          · have g1 : ((p : Int) == (b.length : Int)) = false := by simp; omega
            have hlt : p < b.length := by omega
            have hix := Hix.out p hlt
            obtain ⟨x, hx⟩ : ∃ x, x = bt b p := ⟨_, rfl⟩
            rw [← hx] at hix
            have Hx := Lib.hid hx
            clear hx
            by_cases h10 : x = 10
            · have g2 : ((x : Int) == 10) = true := by simp [h10]
              have H10 := Lib.hid (show hasB b p 10 from ⟨hlt, by rw [← Hx.out]; exact h10⟩)
              clear h10
              obtain ⟨p1, hp1⟩ : ∃ p1, p1 = p + 1 := ⟨_, rfl⟩
              have eq1 : (p : Int) + 1 = (p1 : Int) := by omega
              have Hp1 := Lib.hid hp1
              by_cases hmore : p1 < b.length
              · have g5 : (p1 : Int) < (b.length : Int) := by omega
                have Hbd := Lib.hid (Hat.out.more hpl H10.out (by omega))
                rw [← Hp1.out] at Hbd
                clear hp1 hmore
                go_wp2_with fail
                refine (badR_any ((p1 : Nat) : Int) wr).mono ?_
                rintro e wz ⟨rfl, hbz⟩
                have S0 := Lib.hid ((Hst.out.ox).of_block (hbz.block _ (Hst.out.ox).lt))
                have S1 := Lib.hid ((Hst.out.rf).of_block (hbz.block _ (Hst.out.rf).lt))
                have Hz := Lib.hid (upq (Hst.out.hb) hbz)
                clear hbz
                obtain ⟨z0, z1, f0, f1, l0⟩ := row_facts S0.out
                obtain ⟨y0, y1, g0, g1, l1⟩ := row_facts S1.out
                go_wp2
                obtain ⟨c0, c1, c2, c3⟩ := four_set S0.out S1.out (show w.heap.size ≠ w.heap.size + 1 by omega) (.int .i64 0) (.slice none 0 0) (.int .i64 1) (.int .i64 ((p1 : Nat) : Int))
                have hfin := four_below Hz.out (Nat.le_refl _) (show w.heap.size ≤ w.heap.size + 1 by omega) (.int .i64 0) (.slice none 0 0) (.int .i64 1) (.int .i64 ((p1 : Nat) : Int))
                exact bodyPost_ret (v := .tuple #[.agg #[.int .i64 0, .slice none 0 0], .agg #[.int .i64 1, .int .i64 ((p1 : Nat) : Int)]]) (by simp [results, Tryd.results17, go_sem, c0, c1, c2, c3]) rfl (ReadPost.bad Hl.out (Hbd.out) hfin rfl)
              · have g5 : ¬ (p1 : Int) < (b.length : Int) := by omega
                have Hgd := Lib.hid (Hat.out.last hpl H10.out (by omega))
                clear hp1 hmore
                obtain ⟨a2, c2, rfl⟩ := Hst.out.own.form
                have co0 := Hst.out.out.cell (show 0 < 2 by omega)
                have co1 := Hst.out.out.cell (show 1 < 2 by omega)
                simp only [show ¬ (1 : Nat) = 0 by omega, if_false, if_true] at co0 co1
                go_wp2_with fail
                refine (rcheck_any L (nn : Int) (.slice a2 L.length c2) wr Hst.out.own.edges).mono ?_
                rintro e w4 ⟨c, a, hsp, rfl, hb4⟩
                have S4 := Lib.hid (Hst.out.below hb4)
                have Hsp := Lib.hid hsp
                clear hb4 co0 co1
                by_cases hc0 : c = 0
                · subst hc0
                  obtain ⟨rfl, hn0, hn1, hl1, hok⟩ := graph_good' hsp
                  have Hok := Lib.hid hok
                  have S5 := Lib.hid (S4.out.below (below1 w4 (Obj.cells #[.int .i64 0, .int .i64 0] 27)))
                  have e01 := (two_cells w4 (.int .i64 0) (.int .i64 0) 27).1
                  clear hsp hok
                  have co0 := S5.out.out.cell (show 0 < 2 by omega)
                  have co1 := S5.out.out.cell (show 1 < 2 by omega)
                  simp only [show ¬ (1 : Nat) = 0 by omega, if_false, if_true] at co0 co1
                  go_wp2_with fail
                  clear co0 co1 e01
                  generalize w4.alloc (Obj.cells #[.int .i64 0, .int .i64 0] 27) = w5 at *
                  refine (gridOf_any L nn (.slice a2 L.length c2) w5 S5.out.own.edges (by omega) Hok.out).mono ?_
                  rintro e w6 ⟨gv, rfl, hg6, hb6⟩
                  have HG6 := Lib.hid (show HasGrid w6 gv nn (adj L) from ⟨_, hg6⟩)
                  have S6 := Lib.hid (S5.out.below hb6)
                  clear hg6 hb6
                  go_wp2_with fail
                  refine (of_any nn (adj L) gv w6 (by omega) HG6.out).mono ?_
                  rintro e w7 ⟨v7, ho7, hb7, rfl⟩
                  have S7 := Lib.hid (S6.out.below hb7)
                  obtain ⟨a7, c7, rfl⟩ := ho7.form
                  have Ho7 := Lib.hid (ho7.low (show w.heap.size + 2 ≤ w6.heap.size by have := S6.out.out.lt; have := HG.out; omega))
                  clear ho7 hb7
                  obtain ⟨z0, z1, f0, f1, l0⟩ := row_facts S7.out.ox
                  obtain ⟨y0, y1, gg0, gg1, l1⟩ := row_facts S7.out.rf
                  obtain ⟨gl, hgl⟩ : ∃ gl, gl = (prsTo nn (adj L) nn).length := ⟨_, rfl⟩
                  have Hgl := Lib.hid hgl
                  rw [← hgl]
                  clear hgl
                  go_wp2
                  obtain ⟨k0, k1, k2, k3⟩ := four_set S7.out.ox S7.out.rf (show w.heap.size ≠ w.heap.size + 1 by omega) (.int .i64 (nn : Int)) (.slice a7 gl c7) (.int .i64 0) (.int .i64 0)
                  have hfin := four_below S7.out.hb (Nat.le_refl _) (show w.heap.size ≤ w.heap.size + 1 by omega) (.int .i64 (nn : Int)) (.slice a7 gl c7) (.int .i64 0) (.int .i64 0)
                  have hown := ((((Ho7.out.set (show w.heap.size < w.heap.size + 2 by omega) 0 (.int .i64 (nn : Int))).set (show w.heap.size < w.heap.size + 2 by omega) 1 (.slice a7 gl c7)).set (show w.heap.size + 1 < w.heap.size + 2 by omega) 0 (.int .i64 0)).set (show w.heap.size + 1 < w.heap.size + 2 by omega) 1 (.int .i64 0)).low (show w.heap.size ≤ w.heap.size + 2 by omega)
                  rw [← Hgl.out] at hown
                  exact bodyPost_ret (v := .tuple #[.agg #[.int .i64 (nn : Int), .slice a7 gl c7], .agg #[.int .i64 0, .int .i64 0]]) (by simp [results, Tryd.results17, go_sem, k0, k1, k2, k3]) rfl
                    ⟨nn, prsTo nn (adj L) nn, 0, 0, Or.inr (Or.inr ⟨Hl.out, L, Hgd.out, by rw [← Hnn.out]; exact Hsp.out, Or.inr ⟨rfl, Hnn.out, by rw [← Hnn.out]⟩⟩), _, hown, hfin, rfl⟩
                · have q : (c != 0) = true := by simpa using hc0
                  have Hc0 := Lib.hid hc0
                  have e01 := two_cells w4 (.int .i64 c) (.int .i64 a) 27
                  have S5 := Lib.hid (S4.out.below (below1 w4 (Obj.cells #[.int .i64 c, .int .i64 a] 27)))
                  have n1 : w.heap.size ≠ w4.heap.size := by have := S4.out.ox.lt; omega
                  have n2 : w.heap.size + 1 ≠ w4.heap.size := by have := S4.out.rf.lt; omega
                  clear hsp hc0
                  go_wp2_with fail
                  obtain ⟨z0, z1, f0, f1, l0⟩ := row_facts S5.out.ox
                  obtain ⟨y0, y1, gg0, gg1, l1⟩ := row_facts S5.out.rf
                  generalize w4.alloc (Obj.cells #[.int .i64 c, .int .i64 a] 27) = w5 at *
                  obtain ⟨e0, e1⟩ := e01
                  have n3 : w.heap.size ≠ w.heap.size + 1 := by omega
                  generalize w4.heap.size = E at *
                  go_region_held3 (fun w' => w'.cell? ⟨E, 0, none⟩ = some (.int .i64 c) ∧ w'.cell? ⟨E, 1, none⟩ = some (.int .i64 a)) (go_keep) (fail)
                  all_goals have SD := S5.out
                  all_goals obtain ⟨k0, k1, k2, k3⟩ := four_set SD.ox SD.rf (show w.heap.size ≠ w.heap.size + 1 by omega) (.int .i64 0) (.slice none 0 0) (.int .i64 c) (.int .i64 a)
                  all_goals have hfin := four_below SD.hb (Nat.le_refl _) (show w.heap.size ≤ w.heap.size + 1 by omega) (.int .i64 0) (.slice none 0 0) (.int .i64 c) (.int .i64 a)
                  all_goals
                    go_wp2
                    exact bodyPost_ret (v := .tuple #[.agg #[.int .i64 0, .slice none 0 0], .agg #[.int .i64 c, .int .i64 a]]) (by simp [results, Tryd.results17, go_sem, k0, k1, k2, k3]) rfl
                      ⟨0, [], c, a, Or.inr (Or.inr ⟨Hl.out, L, Hgd.out, by rw [← Hnn.out]; exact Hsp.out, Or.inl ⟨Hc0.out, rfl, rfl⟩⟩), _, OwnE.nil _ _, hfin.drew, rfl⟩
            · have g2 : ((x : Int) == 10) = false := by simp; omega
              by_cases h32 : x = 32
              · have g3 : ((x : Int) != 32) = false := by simp [h32]
                have H32 := Lib.hid (show hasB b p 32 from ⟨hlt, by rw [← Hx.out]; exact h32⟩)
                obtain ⟨p1, hp1⟩ : ∃ p1, p1 = p + 1 := ⟨_, rfl⟩
                have eq1 : (p : Int) + 1 = (p1 : Int) := by omega
                have hp1l : p1 ≤ b.length := by omega
                have Hp1 := Lib.hid hp1
                clear h10 h32 hend hp1
                go_wp2_with fail
                refine (Fig.out p1 wr hp1l hl).mono ?_
                rintro e w4 ⟨rfl, ⟨hn1, rfl⟩ | ⟨hn1, rfl⟩⟩
                · have hp2l := numE_le (b := b) (p := p1) hp1l
                  have hp12 := numE_gt hn1
                  have hva := numV_few hn1
                  obtain ⟨p2, hp2⟩ : ∃ p2, p2 = numE b p1 := ⟨_, rfl⟩
                  obtain ⟨va, hvv⟩ : ∃ va, va = numV b p1 := ⟨_, rfl⟩
                  have Hp2 := Lib.hid hp2; have Hva := Lib.hid hvv; have Hn1 := Lib.hid hn1
                  rw [← hp2] at hp2l hp12
                  rw [← hvv] at hva
                  rw [← hp2, ← hvv]
                  have hneg : decide ((p2 : Int) < 0) = false := decide_eq_false (by omega)
                  clear hn1 hp2 hvv
                  by_cases hc : hasB b p2 45
                  · have hlt2 := hc.1
                    have k1 : ((p2 : Int) == (b.length : Int)) = false := by simp; omega
                    have hix2 := Hix.out p2 hlt2
                    rw [hc.2] at hix2
                    have Hc := Lib.hid hc
                    obtain ⟨p3, hp3⟩ : ∃ p3, p3 = p2 + 1 := ⟨_, rfl⟩
                    have eq3 : (p2 : Int) + 1 = (p3 : Int) := by omega
                    have hp3l : p3 ≤ b.length := by omega
                    have Hp3 := Lib.hid hp3
                    clear hc hp3
                    go_wp2_with fail
                    refine (Fig.out p3 w4 hp3l hl).mono ?_
                    rintro e w5 ⟨rfl, ⟨hn3, rfl⟩ | ⟨hn3, rfl⟩⟩
                    · have hp4l := numE_le (b := b) (p := p3) hp3l
                      have hp34 := numE_gt hn3
                      have hvb := numV_few hn3
                      have hnx := Hat.out.next hpl H32.out (by rw [← Hp1.out]; exact Hn1.out) (by rw [← Hp1.out, ← Hp2.out]; exact Hc.out) (by rw [← Hp1.out, ← Hp2.out, ← Hp3.out]; exact hn3)
                      rw [← Hp1.out, ← Hp2.out, ← Hp3.out] at hnx
                      obtain ⟨p4, hp4⟩ : ∃ p4, p4 = numE b p3 := ⟨_, rfl⟩
                      obtain ⟨vb, hvw⟩ : ∃ vb, vb = numV b p3 := ⟨_, rfl⟩
                      rw [← hp4] at hp4l hp34
                      rw [← hvw] at hvb
                      rw [← hp4, ← hvw]
                      rw [← hp4, ← hvw, ← Hva.out] at hnx
                      have Hnx := Lib.hid hnx
                      have hneg2 : decide ((p4 : Int) < 0) = false := decide_eq_false (by omega)
                      clear hn3 hp4 hvw hnx
                      obtain ⟨a2, c2, rfl⟩ := Hst.out.own.form
                      have co := Hst.out.out.cell (show 1 < 2 by omega)
                      simp only [show ¬ (1 : Nat) = 0 by omega, if_false] at co
                      have M3 := Lib.hid (Hst.out.below (below1 w5 (Obj.cells #[.int .i64 (va : Int), .int .i64 (vb : Int)] 40)))
                      have hbz : w.heap.size + 3 ≤ (w5.alloc (Obj.cells #[.int .i64 (va : Int), .int .i64 (vb : Int)] 40)).heap.size := by have := M3.out.out.lt; have := HG.out; omega
                      have hOl := Hst.out.out.lt
                      have Hbz := Lib.hid hbz
                      clear hbz hlt2 hlt
                      go_wp2_with (at_builtin; refine wpList_append_edges rfl (.tmp 116) (.tmp 120) 22 rfl (w.heap.size + 3) Tryd.underlying22 info2 _ L rfl M3.out.own _ [((va : Int), (vb : Int))] rfl (edge_one _ _ _ _ rfl) _ rfl (by simp; omega) (by have := Hbz.out; simpa using this) ?_; intro a5 c5 w6 ho5 hg5; have r5 := M3.out.after hg5; have co5 := r5.cell (show 1 < 2 by omega); have fo5 := r5.frozen 1; have lo5 := r5.lt; have Hn := Lib.hid (M3.out.put ho5 hg5); clear hg5 ho5 r5)
                      go_roundg (b.length + 1 - p4)
                      case measure => go_light; omega
                      case rel => exact ⟨p4, .slice a5 (L.length + 1) c5, _, hp4l, by omega, rfl, by go_num, Hnx.out, by simp; omega, by have h9 := Hn.out; simp only [List.length_append, List.length_cons, List.length_nil, Nat.zero_add] at h9; exact h9⟩
                    · have Hbd := Lib.hid (Hat.out.bad3 hpl H32.out (by rw [← Hp1.out]; exact Hn1.out) (by rw [← Hp1.out, ← Hp2.out]; exact Hc.out) (by rw [← Hp1.out, ← Hp2.out, ← Hp3.out]; exact hn3))
                      rw [← Hp1.out, ← Hp2.out, ← Hp3.out] at Hbd
                      clear hn3
                      go_wp2_with fail
                      refine (badR_any ((p3 : Nat) : Int) w5).mono ?_
                      rintro e wz ⟨rfl, hbz⟩
                      have S0 := Lib.hid ((Hst.out.ox).of_block (hbz.block _ (Hst.out.ox).lt))
                      have S1 := Lib.hid ((Hst.out.rf).of_block (hbz.block _ (Hst.out.rf).lt))
                      have Hz := Lib.hid (upq (Hst.out.hb) hbz)
                      clear hbz
                      obtain ⟨z0, z1, f0, f1, l0⟩ := row_facts S0.out
                      obtain ⟨y0, y1, g0, g1, l1⟩ := row_facts S1.out
                      go_wp2
                      obtain ⟨c0, c1, c2, c3⟩ := four_set S0.out S1.out (show w.heap.size ≠ w.heap.size + 1 by omega) (.int .i64 0) (.slice none 0 0) (.int .i64 1) (.int .i64 ((p3 : Nat) : Int))
                      have hfin := four_below Hz.out (Nat.le_refl _) (show w.heap.size ≤ w.heap.size + 1 by omega) (.int .i64 0) (.slice none 0 0) (.int .i64 1) (.int .i64 ((p3 : Nat) : Int))
                      exact bodyPost_ret (v := .tuple #[.agg #[.int .i64 0, .slice none 0 0], .agg #[.int .i64 1, .int .i64 ((p3 : Nat) : Int)]]) (by simp [results, Tryd.results17, go_sem, c0, c1, c2, c3]) rfl (ReadPost.bad Hl.out (Hbd.out) hfin rfl)
                  · have Hbd := Lib.hid (Hat.out.bad2 hpl H32.out (by rw [← Hp1.out]; exact Hn1.out) (by rw [← Hp1.out, ← Hp2.out]; exact hc))
                    rw [← Hp1.out, ← Hp2.out] at Hbd
                    by_cases hlt2 : p2 < b.length
                    · have k1 : ((p2 : Int) == (b.length : Int)) = false := by simp; omega
                      have hix2 := Hix.out p2 hlt2
                      have k2 : ((bt b p2 : Int) != 45) = true := by
                        have : bt b p2 ≠ 45 := fun h => hc ⟨hlt2, h⟩
                        simp; omega
                      generalize bt b p2 = x2 at *
                      clear hc
                      go_wp2_with fail
                      refine (badR_any ((p2 : Nat) : Int) w4).mono ?_
                      rintro e wz ⟨rfl, hbz⟩
                      have S0 := Lib.hid ((Hst.out.ox).of_block (hbz.block _ (Hst.out.ox).lt))
                      have S1 := Lib.hid ((Hst.out.rf).of_block (hbz.block _ (Hst.out.rf).lt))
                      have Hz := Lib.hid (upq (Hst.out.hb) hbz)
                      clear hbz
                      obtain ⟨z0, z1, f0, f1, l0⟩ := row_facts S0.out
                      obtain ⟨y0, y1, g0, g1, l1⟩ := row_facts S1.out
                      go_wp2
                      obtain ⟨c0, c1, c2, c3⟩ := four_set S0.out S1.out (show w.heap.size ≠ w.heap.size + 1 by omega) (.int .i64 0) (.slice none 0 0) (.int .i64 1) (.int .i64 ((p2 : Nat) : Int))
                      have hfin := four_below Hz.out (Nat.le_refl _) (show w.heap.size ≤ w.heap.size + 1 by omega) (.int .i64 0) (.slice none 0 0) (.int .i64 1) (.int .i64 ((p2 : Nat) : Int))
                      exact bodyPost_ret (v := .tuple #[.agg #[.int .i64 0, .slice none 0 0], .agg #[.int .i64 1, .int .i64 ((p2 : Nat) : Int)]]) (by simp [results, Tryd.results17, go_sem, c0, c1, c2, c3]) rfl (ReadPost.bad Hl.out (Hbd.out) hfin rfl)
                    · have k1 : ((p2 : Int) == (b.length : Int)) = true := by simp; omega
                      clear hc hlt2
                      go_wp2_with fail
                      refine (badR_any ((p2 : Nat) : Int) w4).mono ?_
                      rintro e wz ⟨rfl, hbz⟩
                      have S0 := Lib.hid ((Hst.out.ox).of_block (hbz.block _ (Hst.out.ox).lt))
                      have S1 := Lib.hid ((Hst.out.rf).of_block (hbz.block _ (Hst.out.rf).lt))
                      have Hz := Lib.hid (upq (Hst.out.hb) hbz)
                      clear hbz
                      obtain ⟨z0, z1, f0, f1, l0⟩ := row_facts S0.out
                      obtain ⟨y0, y1, g0, g1, l1⟩ := row_facts S1.out
                      go_wp2
                      obtain ⟨c0, c1, c2, c3⟩ := four_set S0.out S1.out (show w.heap.size ≠ w.heap.size + 1 by omega) (.int .i64 0) (.slice none 0 0) (.int .i64 1) (.int .i64 ((p2 : Nat) : Int))
                      have hfin := four_below Hz.out (Nat.le_refl _) (show w.heap.size ≤ w.heap.size + 1 by omega) (.int .i64 0) (.slice none 0 0) (.int .i64 1) (.int .i64 ((p2 : Nat) : Int))
                      exact bodyPost_ret (v := .tuple #[.agg #[.int .i64 0, .slice none 0 0], .agg #[.int .i64 1, .int .i64 ((p2 : Nat) : Int)]]) (by simp [results, Tryd.results17, go_sem, c0, c1, c2, c3]) rfl (ReadPost.bad Hl.out (Hbd.out) hfin rfl)
                · have Hbd := Lib.hid (Hat.out.bad1 hpl H32.out (by rw [← Hp1.out]; exact hn1))
                  rw [← Hp1.out] at Hbd
                  clear hn1
                  go_wp2_with fail
                  refine (badR_any ((p1 : Nat) : Int) w4).mono ?_
                  rintro e wz ⟨rfl, hbz⟩
                  have S0 := Lib.hid ((Hst.out.ox).of_block (hbz.block _ (Hst.out.ox).lt))
                  have S1 := Lib.hid ((Hst.out.rf).of_block (hbz.block _ (Hst.out.rf).lt))
                  have Hz := Lib.hid (upq (Hst.out.hb) hbz)
                  clear hbz
                  obtain ⟨z0, z1, f0, f1, l0⟩ := row_facts S0.out
                  obtain ⟨y0, y1, g0, g1, l1⟩ := row_facts S1.out
                  go_wp2
                  obtain ⟨c0, c1, c2, c3⟩ := four_set S0.out S1.out (show w.heap.size ≠ w.heap.size + 1 by omega) (.int .i64 0) (.slice none 0 0) (.int .i64 1) (.int .i64 ((p1 : Nat) : Int))
                  have hfin := four_below Hz.out (Nat.le_refl _) (show w.heap.size ≤ w.heap.size + 1 by omega) (.int .i64 0) (.slice none 0 0) (.int .i64 1) (.int .i64 ((p1 : Nat) : Int))
                  exact bodyPost_ret (v := .tuple #[.agg #[.int .i64 0, .slice none 0 0], .agg #[.int .i64 1, .int .i64 ((p1 : Nat) : Int)]]) (by simp [results, Tryd.results17, go_sem, c0, c1, c2, c3]) rfl (ReadPost.bad Hl.out (Hbd.out) hfin rfl)
              · have g3 : ((x : Int) != 32) = true := by simp; omega
                have Hbd := Lib.hid (Hat.out.bad hpl (fun h => h10 (Hx.out.trans h.2)) (fun h => h32 (Hx.out.trans h.2)))
                clear h10 h32 hend
                go_wp2_with fail
                refine (badR_any ((p : Nat) : Int) wr).mono ?_
                rintro e wz ⟨rfl, hbz⟩
                have S0 := Lib.hid ((Hst.out.ox).of_block (hbz.block _ (Hst.out.ox).lt))
                have S1 := Lib.hid ((Hst.out.rf).of_block (hbz.block _ (Hst.out.rf).lt))
                have Hz := Lib.hid (upq (Hst.out.hb) hbz)
                clear hbz
                obtain ⟨z0, z1, f0, f1, l0⟩ := row_facts S0.out
                obtain ⟨y0, y1, g0, g1, l1⟩ := row_facts S1.out
                go_wp2
                obtain ⟨c0, c1, c2, c3⟩ := four_set S0.out S1.out (show w.heap.size ≠ w.heap.size + 1 by omega) (.int .i64 0) (.slice none 0 0) (.int .i64 1) (.int .i64 ((p : Nat) : Int))
                have hfin := four_below Hz.out (Nat.le_refl _) (show w.heap.size ≤ w.heap.size + 1 by omega) (.int .i64 0) (.slice none 0 0) (.int .i64 1) (.int .i64 ((p : Nat) : Int))
                exact bodyPost_ret (v := .tuple #[.agg #[.int .i64 0, .slice none 0 0], .agg #[.int .i64 1, .int .i64 ((p : Nat) : Int)]]) (by simp [results, Tryd.results17, go_sem, c0, c1, c2, c3]) rfl (ReadPost.bad Hl.out (Hbd.out) hfin rfl)
      · have Hbd := Lib.hid (readG_bad1 Hn0.out (by rw [← Hp0.out]; exact hc))
        rw [← Hp0.out] at Hbd
        by_cases hlt : p0 < b.length
        · have g1 : ((p0 : Int) == (b.length : Int)) = false := by simp; omega
          have hix := Hix.out p0 hlt
          have g2 : ((bt b p0 : Int) != 58) = true := by
            have : bt b p0 ≠ 58 := fun h => hc ⟨hlt, h⟩
            simp; omega
          generalize bt b p0 = x at *
          clear hc
          go_wp2_with fail
          refine (badR_any ((p0 : Nat) : Int) w2).mono ?_
          rintro e wz ⟨rfl, hbz⟩
          have S0 := Lib.hid ((R0.out).of_block (hbz.block _ (R0.out).lt))
          have S1 := Lib.hid ((R1.out).of_block (hbz.block _ (R1.out).lt))
          have Hz := Lib.hid (upq (Hb.out) hbz)
          clear hbz
          obtain ⟨z0, z1, f0, f1, l0⟩ := row_facts S0.out
          obtain ⟨y0, y1, g0, g1, l1⟩ := row_facts S1.out
          go_wp2
          obtain ⟨c0, c1, c2, c3⟩ := four_set S0.out S1.out (show w.heap.size ≠ w.heap.size + 1 by omega) (.int .i64 0) (.slice none 0 0) (.int .i64 1) (.int .i64 ((p0 : Nat) : Int))
          have hfin := four_below Hz.out (Nat.le_refl _) (show w.heap.size ≤ w.heap.size + 1 by omega) (.int .i64 0) (.slice none 0 0) (.int .i64 1) (.int .i64 ((p0 : Nat) : Int))
          exact bodyPost_ret (v := .tuple #[.agg #[.int .i64 0, .slice none 0 0], .agg #[.int .i64 1, .int .i64 ((p0 : Nat) : Int)]]) (by simp [results, Tryd.results17, go_sem, c0, c1, c2, c3]) rfl (ReadPost.bad Hl.out (Hbd.out) hfin rfl)
        · have g1 : ((p0 : Int) == (b.length : Int)) = true := by simp; omega
          clear hc hlt
          go_wp2_with fail
          refine (badR_any ((p0 : Nat) : Int) w2).mono ?_
          rintro e wz ⟨rfl, hbz⟩
          have S0 := Lib.hid ((R0.out).of_block (hbz.block _ (R0.out).lt))
          have S1 := Lib.hid ((R1.out).of_block (hbz.block _ (R1.out).lt))
          have Hz := Lib.hid (upq (Hb.out) hbz)
          clear hbz
          obtain ⟨z0, z1, f0, f1, l0⟩ := row_facts S0.out
          obtain ⟨y0, y1, g0, g1, l1⟩ := row_facts S1.out
          go_wp2
          obtain ⟨c0, c1, c2, c3⟩ := four_set S0.out S1.out (show w.heap.size ≠ w.heap.size + 1 by omega) (.int .i64 0) (.slice none 0 0) (.int .i64 1) (.int .i64 ((p0 : Nat) : Int))
          have hfin := four_below Hz.out (Nat.le_refl _) (show w.heap.size ≤ w.heap.size + 1 by omega) (.int .i64 0) (.slice none 0 0) (.int .i64 1) (.int .i64 ((p0 : Nat) : Int))
          exact bodyPost_ret (v := .tuple #[.agg #[.int .i64 0, .slice none 0 0], .agg #[.int .i64 1, .int .i64 ((p0 : Nat) : Int)]]) (by simp [results, Tryd.results17, go_sem, c0, c1, c2, c3]) rfl (ReadPost.bad Hl.out (Hbd.out) hfin rfl)
    · have Hbd := Lib.hid (readG_bad0 hn0)
      clear hn0
      go_wp2_with fail
      refine (badR_any (0 : Int) w2).mono ?_
      rintro e wz ⟨rfl, hbz⟩
      have S0 := Lib.hid ((R0.out).of_block (hbz.block _ (R0.out).lt))
      have S1 := Lib.hid ((R1.out).of_block (hbz.block _ (R1.out).lt))
      have Hz := Lib.hid (upq (Hb.out) hbz)
      clear hbz
      obtain ⟨z0, z1, f0, f1, l0⟩ := row_facts S0.out
      obtain ⟨y0, y1, g0, g1, l1⟩ := row_facts S1.out
      go_wp2
      obtain ⟨c0, c1, c2, c3⟩ := four_set S0.out S1.out (show w.heap.size ≠ w.heap.size + 1 by omega) (.int .i64 0) (.slice none 0 0) (.int .i64 1) (.int .i64 (0 : Int))
      have hfin := four_below Hz.out (Nat.le_refl _) (show w.heap.size ≤ w.heap.size + 1 by omega) (.int .i64 0) (.slice none 0 0) (.int .i64 1) (.int .i64 (0 : Int))
      exact bodyPost_ret (v := .tuple #[.agg #[.int .i64 0, .slice none 0 0], .agg #[.int .i64 1, .int .i64 (0 : Int)]]) (by simp [results, Tryd.results17, go_sem, c0, c1, c2, c3]) rfl (ReadPost.bad Hl.out (Hbd.out) hfin rfl)
  · have hl2 : (20000 : Int) < (b.length : Int) := by omega
    have Hl := Lib.hid hl
    go_wp2_with fail
    refine (F_any 2 0 w1).mono ?_
    rintro e w2 ⟨rfl, rfl⟩
    have S0 := Lib.hid (R0.out.alloc (Obj.cells #[.int .i64 2, .int .i64 0] 27))
    have S1 := Lib.hid (R1.out.alloc (Obj.cells #[.int .i64 2, .int .i64 0] 27))
    have hb2 := Lib.hid (upq Hb.out (below1 w1 (Obj.cells #[.int .i64 2, .int .i64 0] 27)))
    clear hsz1
    generalize w1.alloc (Obj.cells #[.int .i64 2, .int .i64 0] 27) = w2 at *
    obtain ⟨z0, z1, f0, f1, l0⟩ := row_facts S0.out
    obtain ⟨y0, y1, g0, g1, l1⟩ := row_facts S1.out
    go_wp2
    obtain ⟨c0, c1, c2, c3⟩ := four_set S0.out S1.out (show w.heap.size ≠ w.heap.size + 1 by omega) (.int .i64 0) (.slice none 0 0) (.int .i64 2) (.int .i64 0)
    have hfin := four_below hb2.out (Nat.le_refl _) (show w.heap.size ≤ w.heap.size + 1 by omega) (.int .i64 0) (.slice none 0 0) (.int .i64 2) (.int .i64 0)
    exact bodyPost_ret (v := .tuple #[.agg #[.int .i64 0, .slice none 0 0], .agg #[.int .i64 2, .int .i64 0]]) (by simp [results, Tryd.results17, go_sem, c0, c1, c2, c3]) rfl ⟨0, [], 2, 0, Or.inl ⟨by have := Hl.out; omega, rfl, rfl, rfl, rfl⟩, _, OwnE.nil _ _, hfin, rfl⟩

end Go.Proofs.YtokjcapheogkoaaDoor
