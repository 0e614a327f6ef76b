/- chords.ring: a ring of four nodes or more without a chord, or there is none. -/
import Derived.Test.YtnhhohhhpaejmaaShoW
namespace Go.Proofs.Ytnhhohhhpaejmaa
open Go Go.RowKit

/-- No hole at the triples ahead of one. -/
def NoHole (N : Nat) (G : Nat → Nat → Bool) (X : Nat → Bool) (i j k : Nat) : Prop := ∀ v a b, b < a → (v < i ∨ (v = i ∧ (a < j ∨ (a = j ∧ b < k)))) → ¬ HoleAt N G X v a b
section
variable {N : Nat} {G : Nat → Nat → Bool} {X : Nat → Bool} {i j k : Nat}
theorem NoHole.start : NoHole N G X 0 0 0 := fun v a b _ h => by omega
theorem NoHole.step (h : NoHole N G X i j k) (hn : ¬ HoleAt N G X i j k) : NoHole N G X i j (k + 1) := fun v a b hlt hc => by
  by_cases e : v = i ∧ a = j ∧ b = k
  · rw [e.1, e.2.1, e.2.2]; exact hn
  · exact h v a b hlt (by omega)
theorem NoHole.row (h : NoHole N G X i j j) : NoHole N G X i (j + 1) 0 := fun v a b hlt hc => h v a b hlt (by omega)
theorem NoHole.col (h : NoHole N G X i N 0) : NoHole N G X (i + 1) 0 0 := fun v a b hlt hc hh => h v a b hlt (by have := hh.ha; omega) hh
theorem NoHole.all (h : NoHole N G X N 0 0) : ∀ v a b, b < a → ¬ HoleAt N G X v a b := fun v a b hlt hh => h v a b hlt (by have := hh.hv; omega) hh
end
/-- What chords.ring answers. -/
def RnhPost (N : Nat) (G : Nat → Nat → Bool) (X : Nat → Bool) (w : World) (e : Ending) (w' : World) : Prop :=
  ∃ v, e = .returned v ∧ Below w.heap.size w w' ∧ ((v = .slice none 0 0 ∧ ∀ v a b, b < a → ¬ HoleAt N G X v a b) ∨ ∃ m, w'.ownsRow w.heap.size 3 1 v m.length (nvals m) ∧ HolR N G m)
theorem ownsRow_some {w : World} {base : Nat} {e : TypeId} {v : Value} {n : Nat} {xs : List Value} (h : w.ownsRow base e 1 v (n + 1) xs) : ∃ g c, v = .slice (some ⟨g, 0, none⟩) (n + 1) c := by
  rcases h.2 with ⟨rfl, h2⟩ | ⟨g, cap, cur, rfl, -⟩
  · have := h.1; omega
  · exact ⟨g, cap, rfl⟩

theorem cell_new (w : World) (v : Value) (t : TypeId) : (w.alloc (.cells #[v] t)).cell? ⟨w.heap.size, 0, none⟩ = some v := by rw [World.cell?_alloc_at _ _ _ _ rfl]; rfl
theorem eg_ropn : ∀ args w, (callFunc 53 args).run Try.prog w = .ok (.enter 53 args) w := enters_of Try.func53 (by kernel_rfl) rfl
/-- The test of chords.ring. -/
def skipB (G : Nat → Nat → Bool) (X : Nat → Bool) (v a b : Nat) : Bool := X v || X a || X b || !G v a || !G v b || G a b
theorem skip_no {N : Nat} {G : Nat → Nat → Bool} {X : Nat → Bool} {v a b : Nat} (h : skipB G X v a b = true) : ¬ HoleAt N G X v a b := fun hh => by
  unfold skipB at h
  rw [hh.xv, hh.xa, hh.xb, hh.va, hh.vb, hh.ab] at h
  cases h
theorem skip_pre {N : Nat} {G : Nat → Nat → Bool} {X : Nat → Bool} {v a b : Nat} (h : skipB G X v a b = false) (hv : v < N) (ha : a < N) (hb : b < N) (hlt : b < a) : HolePre N G X v a b := by
  unfold skipB at h
  simp only [Bool.or_eq_false_iff, Bool.not_eq_false'] at h
  obtain ⟨⟨⟨⟨⟨h1, h2⟩, h3⟩, h4⟩, h5⟩, h6⟩ := h
  exact ⟨hv, ha, hb, by omega, h1, h2, h3, h4, h5, h6⟩

set_option maxHeartbeats 6400000 in
set_option maxRecDepth 100000 in
theorem rnh_any {N bX : Nat} {G : Nat → Nat → Bool} {X : Nat → Bool} {gv : Value} (w : World) (hN : N ≤ 100) (hsym : ∀ i j, i < N → j < N → G i j = G j i) (hirr : ∀ i, i < N → G i i = false) (hg : HasGrid w gv N G) (hX : w.rowIs bX 4 N (rb X)) :
    Calls Try.prog 32 #[gv, .slice (some ⟨bX, 0, none⟩) N N] w (RnhPost N G X w) := by
  have Hg := Lib.hid hg; have HX := Lib.hid hX; have Hsym := Lib.hid hsym; have Hirr := Lib.hid hirr
  obtain ⟨Bg, ga, gc, gb, go', R, rfl, hgc, hga, hgrid⟩ := hg
  have Hgr := Lib.hid hgrid; have Hga := Lib.hid hga
  clear hgrid hga hX hsym hirr
  go_enter Try.func32, Try.ntmps32
  go_upto_region 1 with fail
  have hB2 : Below w.heap.size w ((w.alloc (.cells #[.slice ga N gc] 34)).alloc (.cells #[.slice (some ⟨bX, 0, none⟩) N N] 39)) := (below1 w _).alloc (by rw [World.size_alloc]; omega) _
  have ct2 : ((w.alloc (.cells #[.slice ga N gc] 34)).alloc (.cells #[.slice (some ⟨bX, 0, none⟩) N N] 39)).cell? ⟨w.heap.size, 0, none⟩ = some (.slice ga N gc) := below_cell (below1 _ _) (cell_new _ _ _)
  have cx2 : ((w.alloc (.cells #[.slice ga N gc] 34)).alloc (.cells #[.slice (some ⟨bX, 0, none⟩) N N] 39)).cell? ⟨w.heap.size + 1, 0, none⟩ = some (.slice (some ⟨bX, 0, none⟩) N N) := by
    have := cell_new (w.alloc (.cells #[.slice ga N gc] 34)) (.slice (some ⟨bX, 0, none⟩) N N) 39
    rw [World.size_alloc] at this; exact this
  have HB2 := Lib.hid hB2
  generalize (w.alloc (.cells #[.slice ga N gc] 34)).alloc (.cells #[.slice (some ⟨bX, 0, none⟩) N N] 39) = w2 at *
  have Ct2 := Lib.hid ct2; have Cx2 := Lib.hid cx2
  clear hB2 cx2
  generalize w.heap.size + 1 = BX at *
  go_wp2
  clear ct2
  go_loopg [12] N (fun g s12 wr => ∃ v : Nat, v ≤ N ∧ g = N - v ∧ s12 = .int .i64 (v : Int) ∧ Below w2.heap.size w2 wr ∧ NoHole N G X v 0 0)
  case atStart => exact ⟨0, Nat.zero_le _, rfl, rfl, Below.refl _ _, NoHole.start⟩
  case round =>
    obtain ⟨v, hv, rfl, rfl, hbw, hno⟩ := hrel
    have Hno := Lib.hid hno; have Hb := Lib.hid hbw
    clear hno
    by_cases hvl : v < N
    · clear hbw
      go_upto_region 4 with fail
      have ct3 := below_cell (below1 wr (.cells #[.int .i64 (v : Int)] 3)) (below_cell Hb.out Ct2.out)
      have Cx3 := Lib.hid (below_cell (below1 wr (.cells #[.int .i64 (v : Int)] 3)) (below_cell Hb.out Cx2.out))
      have Cv3 := Lib.hid (cell_new wr (.int .i64 (v : Int)) 3)
      have HB3 := Lib.hid ((Hb.out.trans ((below1 wr (.cells #[.int .i64 (v : Int)] 3)).mono Hb.out.size)))
      generalize wr.alloc (.cells #[.int .i64 (v : Int)] 3) = w3 at *
      generalize wr.heap.size = BV at *
      have Ct3 := Lib.hid ct3
      go_wp2
      clear ct3
      go_loopg [17] N (fun g s17 wi => ∃ a : Nat, a ≤ N ∧ g = N - a ∧ s17 = .int .i64 (a : Int) ∧ Below w3.heap.size w3 wi ∧ NoHole N G X v a 0)
      case atStart => exact ⟨0, Nat.zero_le _, rfl, rfl, Below.refl _ _, Hno.out⟩
      case round =>
        clear Hno
        obtain ⟨a, ha, rfl, rfl, hbw, hno⟩ := hrel
        have Hno := Lib.hid hno; have Hb3 := Lib.hid hbw
        clear hno hbw
        obtain ⟨wi, rfl⟩ : ∃ wi : World, wi = wr := ⟨_, rfl⟩
        by_cases hal : a < N
        · go_upto_region 7 with fail
          go_wp2
          go_loopg [21] a (fun g s21 wj => ∃ b : Nat, b ≤ a ∧ g = a - b ∧ s21 = .int .i64 (b : Int) ∧ Below w3.heap.size w3 wj ∧ NoHole N G X v a b)
          case atStart => exact ⟨0, Nat.zero_le _, rfl, rfl, Hb3.out, Hno.out⟩
          case round =>
            clear Hno
            obtain ⟨b, hb, rfl, rfl, hbw, hno⟩ := hrel
            have Hno := Lib.hid hno; have Hb4 := Lib.hid hbw
            clear hno hbw
            obtain ⟨wj, rfl⟩ : ∃ wj : World, wj = wr := ⟨_, rfl⟩
            by_cases hbl : b < a
            · have hbN : b < N := by omega
              go_upto_region 10 with fail
              have hl4 := below1 wj (.cells #[.int .i64 (b : Int)] 3)
              have HB4 := Lib.hid (Hb4.out.trans (hl4.mono Hb4.out.size))
              have HBw := Lib.hid (HB2.out.trans ((HB3.out.trans (HB4.out.mono HB3.out.size)).mono HB2.out.size))
              have ct4 := below_cell HB4.out Ct3.out
              have cx4 := below_cell HB4.out Cx3.out
              have cv4 := below_cell HB4.out Cv3.out
              have cb4 := cell_new wj (.int .i64 (b : Int)) 3
              generalize wj.alloc (.cells #[.int .i64 (b : Int)] 3) = w4 at *
              generalize wj.heap.size = BB at *
              have hg4 := Hg.out.below HBw.out
              have hX4 := HX.out.of_block (HBw.out.block _ HX.out.lt)
              have Env := Lib.hid (OpnEnv.mk cx4 cv4 cb4 ct4 hX4 hg4)
              have hgr4 := Hgr.out.below HBw.out
              obtain rfl := (Hga.out (by omega)).1
              have tv := hgr4.head _ hvl
              have ta := hgr4.head _ hal
              have c1 := hX4.cell hvl
              have c2 := hX4.cell hal
              have c3 := hX4.cell hbN
              have c4 := hgr4.cell hvl hal
              have c5 := hgr4.cell hvl hbN
              have c6 := hgr4.cell hal hbN
              simp only [rb] at c1 c2 c3
              obtain ⟨tb, htb⟩ : ∃ tb, tb = skipB G X v a b := ⟨_, rfl⟩
              have Htb := Lib.hid htb
              have Hsk := Lib.hid (htb.trans rfl : tb = (X v || X a || X b || !G v a || !G v b || G a b))
              clear htb hl4 hg4 hX4 hgr4
              go_cut [68] from 24 to 68 (fun s68 wx => s68 = .bool tb ∧ ∃ n, w4.drewN n = wx)
              case first =>
                generalize X v = x1 at *
                generalize X a = x2 at *
                generalize X b = x3 at *
                generalize G v a = g1 at *
                generalize G v b = g2 at *
                generalize G a b = g3 at *
                rcases x1 with _ | _
                · rcases x2 with _ | _
                  · rcases x3 with _ | _
                    · rcases g1 with _ | _
                      · have E := Lib.hid (show tb = true by rw [Hsk.out]; simp)
                        go_quiet (fail)
                        go_wp2
                        go_meet
                        exact ⟨by rw [E.out], _, rfl⟩
                      · rcases g2 with _ | _
                        · have E := Lib.hid (show tb = true by rw [Hsk.out]; simp)
                          go_quiet (fail)
                          go_wp2
                          go_meet
                          exact ⟨by rw [E.out], _, rfl⟩
                        · have E := Lib.hid (show tb = g3 by rw [Hsk.out]; simp)
                          go_quiet (fail)
                          go_wp2
                          go_meet
                          exact ⟨by rw [E.out], _, rfl⟩
                    · have E := Lib.hid (show tb = true by rw [Hsk.out]; simp)
                      go_quiet (fail)
                      go_wp2
                      go_meet
                      exact ⟨by rw [E.out], _, rfl⟩
                  · have E := Lib.hid (show tb = true by rw [Hsk.out]; simp)
                    go_quiet (fail)
                    go_wp2
                    go_meet
                    exact ⟨by rw [E.out], _, rfl⟩
                · have E := Lib.hid (show tb = true by rw [Hsk.out]; simp)
                  go_quiet (fail)
                  go_wp2
                  go_meet
                  exact ⟨by rw [E.out], _, rfl⟩
              case rest =>
              obtain ⟨rfl, nd, rfl⟩ := hcut
              clear tv ta c1 c2 c3 c4 c5 c6 ct4 cx4 cv4 cb4 Hsk
              have HB5 := Lib.hid (Below.drewN' HB4.out nd)
              have HBw5 := Lib.hid (Below.drewN' HBw.out nd)
              have Env5 := Lib.hid (Env.out.below (Below.drewN' (Below.refl _ _) nd))
              clear HB4 HBw Env
              generalize w4.drewN nd = w5 at *
              cases tb with
              | true =>
                have Hn := Lib.hid (skip_no (N := N) Htb.out.symm)
                go_wp2
                go_roundg (a - (b + 1))
                case measure => go_light; omega
                case rel => exact ⟨b + 1, by omega, rfl, by go_num, HB5.out, Hno.out.step Hn.out⟩
              | false =>
                have Hpre := Lib.hid (skip_pre (N := N) Htb.out.symm hvl hal hbN hbl)
                obtain ⟨cx5, cv5, cb5, ct5, -, -⟩ := Env5.out
                have Hcall := Lib.hid (shortest_any (S := holeS G X v a b) (opnB G X v b) #[.pointer (some ⟨BX, 0, none⟩), .pointer (some ⟨BV, 0, none⟩), .pointer (some ⟨BB, 0, none⟩), .pointer (some ⟨w.heap.size, 0, none⟩)] w5 hN hal hbN Env5.out.grid (fun u => holeS_opn) eg_ropn (fun u W hu hW => ropn_any hN hvl hu (Env5.out.below hW)))
                go_upto_region 13 with (go_at_call 54; refine Hcall.out.mono ?_; rintro e w' ⟨F, P, vs, rfl, hsh, hbw, hcase⟩)
                have Hsh := Lib.hid hsh
                have HB6 := Lib.hid (HB5.out.trans (hbw.mono HB5.out.size))
                have HBw6 := Lib.hid (HBw5.out.trans (hbw.mono HBw5.out.size))
                have cv6 := below_cell hbw cv5
                have Hbw := Lib.hid hbw
                clear cx5 cv5 cb5 ct5 hsh hbw Hcall
                rcases hcase with ⟨hneg, rfl⟩ | ⟨hpos, hown⟩
                · have Hn := Lib.hid (show ¬ HoleAt N G X v a b from fun hh => by
                    have := Hsh.out.of_reach hh.way
                    omega)
                  clear hneg cv6
                  go_wp2
                  go_roundg (a - (b + 1))
                  case measure => go_light; omega
                  case rel => exact ⟨b + 1, by omega, rfl, by go_num, HB6.out, Hno.out.step Hn.out⟩
                · have Hring := Lib.hid (Hpre.out.ring hN Hsym.out Hirr.out Hsh.out hpos)
                  have hFN := Hsh.out.far.rng a hal
                  have hk100 : (F a).toNat < 100 := by omega
                  generalize (F a).toNat = k at *
                  obtain ⟨gq, cq, rfl⟩ := ownsRow_some hown
                  have Hown := Lib.hid hown
                  clear hown hpos hFN
                  have hlit := World.ownsRow_lit (base := w'.heap.size) (e := 3) (size := 1) w' #[.int .i64 (v : Int)] 1 (Nat.le_refl _) (by decide) rfl
                  have Hlit := Lib.hid hlit
                  have hz6 := HBw6.out.size
                  have Hsrc := Lib.hid (((IsInts.owned (l := ints (wayN P a (k + 1))) Hown.out).below (below1 w' (.cells #[.int .i64 (v : Int)] 3))).cells)
                  have Hle : (ints (wayN P a (k + 1))).length = k + 1 := by simp [ints, wayN_len]
                  rw [Hle] at Hsrc
                  clear hlit
                  go_wp2_with (at_builtin; refine wpList_append_has rfl (.tmp 78) (.tmp 79) 29 rfl w'.heap.size 3 (.int .i64 0) 8 Try.underlying29 info3 rfl (.slice (some ⟨w'.heap.size, 0, none⟩) 1 1) 1 (nvals [v]) rfl Hlit.out _ (k + 1) (nvals (wayN P a (k + 1))) rfl Hsrc.out (by omega) (by omega) (by simp) ?_; intro a8 c8 w8 ho8 hg8; have B8 := Lib.hid ((HBw6.out.alloc hz6 (Obj.cells #[.int .i64 (v : Int)] 3)).grown hg8 (by simp; omega) (fun g e => Nat.le_trans hz6 (Hlit.out.lt g e).1)); have Ho8 := Lib.hid ho8; clear ho8 hg8)
                  go_ret
                  refine ⟨_, rfl, B8.out, .inr ⟨v :: wayN P a (k + 1), ?_, Hring.out⟩⟩
                  have hm : (v :: wayN P a (k + 1)).length = 1 + (k + 1) := by simp [wayN_len]; omega
                  rw [hm]
                  exact ownsRow_low (b' := w.heap.size) Ho8.out hz6
            · obtain rfl : a = b := by omega
              go_wp2
              go_roundg (N - (a + 1))
              case measure => go_light; omega
              case rel => exact ⟨a + 1, by omega, rfl, by go_num, Hb4.out, Hno.out.row⟩
        · obtain rfl : N = a := by omega
          go_wp2
          go_roundg (N - (v + 1))
          case measure => go_light; omega
          case rel => exact ⟨v + 1, by omega, rfl, by go_num, HB3.out.trans (Hb3.out.mono HB3.out.size), Hno.out.col⟩
    · obtain rfl : N = v := by omega
      clear hbw
      go_wp2
      go_ret
      exact ⟨_, rfl, HB2.out.trans (Hb.out.mono HB2.out.size), .inl ⟨rfl, Hno.out.all⟩⟩

end Go.Proofs.Ytnhhohhhpaejmaa
