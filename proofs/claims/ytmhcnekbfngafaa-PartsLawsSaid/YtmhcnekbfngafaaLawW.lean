/- arborlaw.PartsLaws answers true: the walk. -/
import Derived.Test.YtmhcnekbfngafaaBow
import Derived.Test.YtmhcnekbfngafaaPartB
import Derived.Test.YtmhcnekbfngafaaCompW
import Derived.Test.YtmhcnekbfngafaaBriW
import Derived.Test.YtmhcnekbfngafaaPG
import Derived.Test.YtmhcnekbfngafaaShutW
import Derived.Test.YtmhcnekbfngafaaPairsW
import Derived.Test.YtmhcnekbfngafaaPF
import Derived.Deep.RegionHeld3
namespace Go.Proofs.Ytmhcnekbfngafaa
open Go Go.RowKit

/-- The argument's box. -/
structure GBx (w wr : World) (n : Int) (s : Value) (l : List (Int × Int)) : Prop where
  hb : Below w.heap.size w wr
  cn : wr.cell? ⟨w.heap.size, 0, none⟩ = some (.int .i64 n)
  cs : wr.cell? ⟨w.heap.size, 1, none⟩ = some s
  he : IsEdges wr s l
theorem GBx.below {w wr w' : World} {n : Int} {s : Value} {l : List (Int × Int)} (h : GBx w wr n s l) (hb : Below wr.heap.size wr w') : GBx w w' n s l :=
  ⟨h.hb.trans (hb.mono h.hb.size), below_cell hb h.cn, below_cell hb h.cs, h.he.below hb⟩
theorem upL {a b c : World} (h : Below a.heap.size a b) (k : Below b.heap.size b c) : Below a.heap.size a c := h.trans (k.mono h.size)
theorem FV.back {w : World} {b : Nat} {c a : Int} (h : FV w b c a) (c' a' : Int) : Below b w ((w.setCell ⟨b, 0, none⟩ (.int .i64 c')).setCell ⟨b, 1, none⟩ (.int .i64 a')) :=
  ((Below.refl b w).setCell (p := ⟨b, 0, none⟩) (Nat.le_refl _) _).setCell (p := ⟨b, 1, none⟩) (Nat.le_refl _) _
/-- The blocks' edges among the first j of a block. -/
abbrev inTo (b : List (Int × Int)) (j : Nat) : Nat → Bool := fun q => inB (b.take j) q
theorem flat_succ {L : List (List (Int × Int))} {i : Nat} (hi : i < L.length) : (L.take (i + 1)).flatten = (L.take i).flatten ++ L.getD i [] := by
  rw [List.take_add_one, List.getElem?_eq_getElem hi, List.flatten_append, List.getD, List.getElem?_eq_getElem hi]; simp

set_option maxHeartbeats 6400000 in
set_option maxRecDepth 100000 in
theorem lawsLaw_any (n : Int) (l : List (Int × Int)) (sv : Value) (w : World) (h : IsEdges w sv l) :
    Calls Try.prog 7 #[.agg #[.int .i64 n, sv]] w fun e w' => e = .returned (.bool true) ∧ Below w.heap.size w w' := by
  obtain ⟨ad, cap, rfl⟩ := h.form
  have hb1 := below1 w (Obj.cells #[.int .i64 n, .slice ad l.length cap] 24)
  have c0 := two_cells w (.int .i64 n) (.slice ad l.length cap) 24
  have G1 := Lib.hid (show GBx w (w.alloc (Obj.cells #[.int .i64 n, .slice ad l.length cap] 24)) n (.slice ad l.length cap) l from ⟨hb1, c0.1, c0.2, h.below hb1⟩)
  obtain ⟨c, a, hs⟩ := GraphSpec.ex n l
  have Hsp := Lib.hid hs
  clear hb1 c0 h hs
  go_enter Try.func7, Try.ntmps7
  go_upto_region 1 with fail
  generalize w.alloc (Obj.cells #[.int .i64 n, .slice ad l.length cap] 24) = w1 at *
  go_wp2_with fail
  refine (partsBegun_any w1).mono ?_
  rintro e w2 ⟨rfl, hb2⟩
  have G2 := Lib.hid (G1.out.below hb2)
  clear hb2 G1
  have cn := G2.out.cn
  have cs := G2.out.cs
  by_cases hc : c = 0
  · subst hc
    obtain ⟨hgood, rfl⟩ := Hsp.out.good
    have hn0 := hgood.lo
    have hn1 := hgood.hi
    obtain ⟨N, rfl⟩ := Int.eq_ofNat_of_zero_le hn0
    have Hg := Lib.hid hgood
    have HG := Lib.hid (good_gr hgood)
    have hN : N ≤ 100 := by omega
    clear hgood
    go_wp2_with fail
    refine (pblocks_ok Hg.out _ _ G2.out.he).mono ?_
    rintro e w3 ⟨v, L, rfl, hv, hb3, hr⟩
    obtain ⟨aL, cL, rfl⟩ := hv.form
    have HC := Lib.hid (blks_cls Hg.out hr)
    have HL := Lib.hid hr
    have G3 := Lib.hid (G2.out.below hb3)
    have L3 := Lib.hid hv
    have l3 : w.heap.size < w3.heap.size := Nat.lt_of_lt_of_le (World.block_lt_of_cell? _ _ cn) hb3.size
    have b4 := below1 w3 (Obj.cells #[.int .i64 0, .int .i64 0] 27)
    have F4 := Lib.hid (FV.new w3 0 0)
    have B4 := Lib.hid b4
    have G4 := Lib.hid (G3.out.below b4)
    clear cn cs hb3 hv hr G2 b4
    go_upto_region 4 with fail
    generalize w3.alloc (Obj.cells #[.int .i64 0, .int .i64 0] 27) = w4 at *
    have cn := G4.out.cn
    have cs := G4.out.cs
    obtain ⟨f0, f1, f2, f3, f4⟩ := F4.out.facts
    go_upto_region 6 with fail
    go_wp2_with fail
    refine (pbridges_ok Hg.out _ _ G4.out.he).mono ?_
    rintro e w5 ⟨vB, L2, rfl, hoB, hb5, hr2⟩
    have hLL : L2 = L := ClsOk.uniq (Twn.eqs HG.out).1 (Twn.eqs HG.out).2 (blks_cls Hg.out hr2) HC.out
    rw [hLL] at hoB
    obtain ⟨aB, cB, rfl⟩ := hoB.form
    have F5 := F4.out.below hb5
    have F6 := Lib.hid (F5.put 0 0)
    have B6 := Lib.hid ((upL B4.out hb5).trans (F5.back 0 0))
    have O6 := Lib.hid ((hoB.set f4 0 (.int .i64 0)).set f4 1 (.int .i64 0))
    obtain ⟨g0, g1, g2, g3, g4⟩ := F5.facts
    clear f0 f1 f2 f3 cn cs hoB hb5 hr2 hLL F5 F4 G4
    go_upto_region 7 with fail
    generalize (w5.setCell ⟨w3.heap.size, 0, none⟩ (.int .i64 0)).setCell ⟨w3.heap.size, 1, none⟩ (.int .i64 0) = w6 at *
    clear g0 g1 g2 g3 g4 f4
    have G6 := Lib.hid (G3.out.below B6.out)
    have cn := G6.out.cn
    have cs := G6.out.cs
    go_wp2_with fail
    refine (pcuts_ok Hg.out _ _ G6.out.he).mono ?_
    rintro e w7 ⟨vV, rfl, hoV, hb7⟩
    obtain ⟨VL, hVL⟩ : ∃ VL, cutsL N (blkD l N) = VL := ⟨_, rfl⟩
    rw [hVL] at hoV
    have HVL := Lib.hid (show cutsL N L = VL from by rw [HL.out.cuts N, hVL])
    clear hVL
    obtain ⟨aV, cV, rfl⟩ := ownsRow_form hoV
    have b8 := upL hb7 (below1 w7 (Obj.cells #[.int .i64 0, .int .i64 0] 27))
    have B8 := Lib.hid (upL B6.out b8)
    have O8 := Lib.hid (O6.out.below b8)
    have F8 := Lib.hid (F6.out.below b8)
    have Q8 := Lib.hid (FV.new w7 0 0)
    have V8 := Lib.hid ((IsInts.owned hoV).below (below1 w7 (Obj.cells #[.int .i64 0, .int .i64 0] 27)))
    clear cn cs hoV hb7 b8 O6 F6 G6
    go_upto_region 8 with fail
    generalize w7.alloc (Obj.cells #[.int .i64 0, .int .i64 0] 27) = w8 at *
    generalize w7.heap.size = Q7 at *
    have G8 := Lib.hid (G3.out.below B8.out)
    have cn := G8.out.cn
    have cs := G8.out.cs
    go_wp2_with fail
    refine (pcomps_ok Hg.out _ _ G8.out.he).mono ?_
    rintro e w9 ⟨vC, rfl, hpC, hb9⟩
    obtain ⟨CL, hCL⟩ : ∃ CL, compsL N (adj l) = CL := ⟨_, rfl⟩
    rw [hCL] at hpC
    have HCL := Lib.hid hCL
    clear hCL
    obtain ⟨aC, cC, rfl⟩ := hpC.form
    have b10 := upL hb9 (below1 w9 (Obj.cells #[.int .i64 0, .int .i64 0] 27))
    have B10 := Lib.hid (upL B8.out b10)
    have O10 := Lib.hid (O8.out.below b10)
    have F10 := Lib.hid (F8.out.below b10)
    have Q10 := Lib.hid (Q8.out.below b10)
    have V10 := Lib.hid (V8.out.below b10)
    have R10 := Lib.hid (FV.new w9 0 0)
    clear cn cs hb9 b10 hpC O8 F8 Q8 V8 G8
    go_upto_region 9 with fail
    generalize w9.alloc (Obj.cells #[.int .i64 0, .int .i64 0] 27) = w10 at *
    generalize w9.heap.size = Q9 at *
    have G10 := Lib.hid (G3.out.below B10.out)
    have L10 := Lib.hid (L3.out.below B10.out)
    obtain ⟨f0, f1, -, -, -⟩ := F10.out.facts
    obtain ⟨g0, g1, -, -, -⟩ := Q10.out.facts
    obtain ⟨h0, h1, -, -, -⟩ := R10.out.facts
    go_upto_region 12 with fail
    clear f0 f1 g0 g1 h0 h1 F10 Q10 R10 G3 L3 B4 B6 B8 B10
    have cn := G10.out.cn
    have hmkI := run_make_row' (P := Try.prog) 39 3 (.int .i64 0) 8 Try.underlying39 info3 rfl .i64 .i64 N (by omega) (by omega)
    have hmkB := run_make_row' (P := Try.prog) 60 4 (.bool false) 1 Try.underlying60 info4 rfl .i64 .i64 N (by omega) (by omega)
    have hz11 : (w10.alloc (zrow N)).heap.size = w10.heap.size + 1 := World.size_alloc _ _
    have M11 := Lib.hid (show LwM w10 (w10.alloc (zrow N)) N w10.heap.size (.slice none 0 0) (.slice none 0 0) [] [] (fun _ => 0) from ⟨below1 _ _, OwnE.nil _ _, OwnE.nil _ _, (fun g e => by cases e), zrow_is w10 N, Nat.le_refl _⟩)
    -- bounds
    have hML : L.length ≤ 100 := by
      rw [HL.out.length]
      have := (allD_ok (nbrs_ask (l := l) hN) N (Nat.le_refl _)).blk
      unfold blkD; omega
    have hflat := HC.out.flat (rise_nodup (prsTo_rise N (adj l) N)) (Twn.eqs HG.out).1 (Twn.eqs HG.out).2
    have hfl : L.flatten.length = l.length := by rw [hflat.length_eq]; exact form_length Hg.out
    have hl1000 := Hg.out.len
    have Hfl := Lib.hid (show ∀ i, i < L.length → (L.take i).flatten.length + (L.getD i []).length ≤ 1000 from fun i hi => by
      have h1 := congrArg List.length (flat_succ hi)
      rw [List.length_append] at h1
      have h2 : (L.take (i + 1)).flatten.length ≤ L.flatten.length := by
        have h3 : L.flatten = (L.take (i + 1)).flatten ++ (L.drop (i + 1)).flatten := by rw [← List.flatten_append, List.take_append_drop]
        rw [h3, List.length_append]; omega
      omega)
    have Hpair := Lib.hid (show ∀ i, i < L.length → ∀ j, j < (L.getD i []).length → ∃ x y : Nat, x < y ∧ y < N ∧ (L.getD i []).getD j (0, 0) = ((x : Int), (y : Int)) from fun i hi j hj => by
      have h0 : L.getD i [] ∈ L := getD_mem hi
      have h1 := ((HC.out.mem _ h0 ((L.getD i []).getD j (0, 0))).1 (getD_mem hj)).1
      obtain ⟨x, y, hxy, hA, e⟩ := edG_iff.1 h1
      exact ⟨x, y, hxy, hA.2.1, e⟩)
    have HAt := Lib.hid (fun j (hj : j < L.length) => L10.out.at hj)
    have Hflat := Lib.hid hflat; have Hfll := Lib.hid hfl
    have Hone := Lib.hid (fun k (hk : k < L.length) => oneTo_succ hk)
    have Hfs := Lib.hid (fun k (hk : k < L.length) => flat_succ hk)
    have Hbc := Lib.hid (fun k q (hk : k < L.length) => bcnt_snoc hk q)
    clear hflat hfl
    obtain ⟨M, hM⟩ : ∃ M, L.length = M := ⟨_, rfl⟩
    have HM := Lib.hid hM
    rw [hM] at hML Hfl Hpair HAt Hone Hfs Hbc ⊢
    clear hM
    go_upto_region 13 with fail
    clear hmkI
    generalize w10.alloc (zrow N) = w11 at *
    generalize w10.heap.size = bK at *
    go_wp2
    go_loopg [10, 11, 13] M (fun g s10 s11 s13 wr => ∃ i : Nat, i ≤ M ∧ g = M - i ∧ s13 = .int .i64 i ∧ LwM w10 wr N bK s10 s11 (L.take i).flatten (oneTo L i) (bcnt (L.take i)))
    case atStart => exact ⟨0, Nat.zero_le _, rfl, rfl, M11.out.congr fun q _ => by simp [bcnt]⟩
    case round =>
      obtain ⟨i, hi, rfl, rfl, hm⟩ := hrel
      by_cases hlt : i < M
      · obtain ⟨gL, r, e1, c1, he1⟩ := HAt.out i hlt
        subst e1
        have hfl := Hfl.out i hlt
        have hpr := Hpair.out i hlt
        have Hfs1 := Lib.hid (Hfs.out i hlt); have Hone1 := Lib.hid (Hone.out i hlt); have Hbc1 := Lib.hid (fun q => Hbc.out i q hlt)
        have cnw := below_cell hm.hb G10.out.cn
        obtain ⟨ar, cr, br, or_, rfl, hcapr, hmaxr, hadr, -, hcell⟩ := he1
        have Hcell := Lib.hid hcell; have Hadr := Lib.hid hadr; have Hpr := Lib.hid hpr
        have Hm := Lib.hid hm
        have hz := hm.hb.size
        generalize hA0 : (L.take i).flatten = A0 at *
        generalize hS0 : oneTo L i = S0 at *
        generalize hf0 : bcnt (L.take i) = fc at *
        generalize hbk : L.getD i [] = bk at *
        have HA0 := Lib.hid hA0; have HS0 := Lib.hid hS0; have Hf0 := Lib.hid hf0; have Hbk := Lib.hid hbk
        clear hA0 hS0 hf0 hbk hcell hadr hpr
        obtain ⟨nb, hnb⟩ : ∃ nb, bk.length = nb := ⟨_, rfl⟩
        have Hnb := Lib.hid hnb
        rw [hnb] at hfl hcapr c1 Hcell Hadr Hpr
        have hr2 := (World.rowIs_made wr (.bool false) N 4).congr (g := rb fun _ => false) fun _ _ => rfl
        have hz2 : (wr.alloc (.cells (madeCells #[.bool false] N) 4)).heap.size = wr.heap.size + 1 := World.size_alloc _ _
        have hm2 := hm.below (below1 wr (.cells (madeCells #[.bool false] N) 4))
        have B2 := Lib.hid (below1 wr (.cells (madeCells #[.bool false] N) 4))
        have Hr2 := Lib.hid hr2; have Hm2 := Lib.hid hm2
        obtain ⟨aA, cA, rfl⟩ := hm.all.form
        obtain ⟨aS, cS, rfl⟩ := hm.sg.form
        clear hr2 hm2 hm hnb
        go_upto_region 17 with fail
        clear cnw
        generalize wr.alloc (.cells (madeCells #[.bool false] N) 4) = wI at *
        generalize hbI : wr.heap.size = bI at *
        have HbI := Lib.hid hbI
        clear hbI B2
        have C1 := Lib.hid c1
        have hbI2 : w10.heap.size ≤ bI := hz
        clear c1 hz
        go_wp2
        go_loopg [10, 15] nb (fun g s10 s15 wi => ∃ j : Nat, j ≤ nb ∧ g = nb - j ∧ s15 = .int .i64 j ∧ LwM w10 wi N bK s10 (.slice aS S0.length cS) (A0 ++ bk.take j) S0 fc ∧ wi.rowIs bI 4 N (rb (inTo bk j)))
        case atStart => exact ⟨0, Nat.zero_le _, rfl, rfl, by rw [List.take_zero, List.append_nil]; exact Hm2.out, Hr2.out.congr fun q _ => by simp [inTo, inB, rb]⟩
        case round =>
          obtain ⟨j, hj, rfl, rfl, hm, hr⟩ := hrel
          have c1 := below_cell hm.hb C1.out
          have hz3 := hm.hb.size
          have Hm3 := Lib.hid hm; have Hr3 := Lib.hid hr
          have hAl : (A0 ++ bk.take j).length ≤ 1000 := by rw [List.length_append, List.length_take, Hnb.out]; omega
          generalize hAA : A0 ++ bk.take j = AA at *
          have HAA := Lib.hid hAA
          clear hAA
          obtain ⟨aA2, cA2, rfl⟩ := hm.all.form
          by_cases hjn : j < nb
          · obtain ⟨x, y, hxy, hyN, he⟩ := Hpr.out j hjn
            have He := Lib.hid he
            obtain rfl := Hadr.out (by omega)
            have c2 := (Hcell.out j hjn).1
            have c3 := (Hcell.out j hjn).2
            rw [he] at c2 c3
            simp only at c2 c3
            have c2 := below_cell hm.hb c2
            have c3 := below_cell hm.hb c3
            have b4 := below1 wr (Obj.cells #[.int .i64 (x : Int), .int .i64 (y : Int)] 61)
            have Hm4 := Lib.hid (hm.below b4)
            have Hr4 := Lib.hid (hr.of_block (b4.block _ hr.lt))
            have Hx4 := Lib.hid (two_cells wr (.int .i64 (x : Int)) (.int .i64 (y : Int)) 61)
            have hlI := hr.lt
            clear he hm hr b4
            go_upto_region 21 with fail
            generalize hw4 : wr.alloc (Obj.cells #[.int .i64 (x : Int), .int .i64 (y : Int)] 61) = w4' at *
            clear hw4 c1 c2 c3
            generalize hE : wr.heap.size = Eb at *
            have HE := Lib.hid hE
            clear hE
            have e0 := Hx4.out.1
            have e1 := Hx4.out.2
            have cn := below_cell Hm4.out.hb G10.out.cn
            have t1 : ¬ (x : Int) < 0 := by omega
            have t2 : ¬ (N : Int) ≤ (y : Int) := by omega
            have t3 : ¬ (y : Int) ≤ (x : Int) := by omega
            have b5 := below1 w4' (Obj.cells #[.int .i64 (x : Int), .int .i64 (y : Int)] 61)
            have Hm5 := Lib.hid (Hm4.out.below b5)
            have Hr5 := Lib.hid (Hr4.out.of_block (b5.block _ Hr4.out.lt))
            have Hx5 := Lib.hid (And.intro (below_cell b5 e0) (below_cell b5 e1))
            have hz5 := Hm5.out.hb.size
            clear b5
            go_upto_region 24 with (at_builtin; refine wpList_append_edges_at rfl (.tmp 108) (.tmp 110) 22 rfl w10.heap.size Try.underlying22 info2 (.slice aA2 AA.length cA2) AA rfl Hm5.out.all _ [((x : Int), (y : Int))] rfl (edge_one _ _ _ _ rfl) (by simp) _ rfl (by simp; omega) hz5 ?_; intro a6 c6 w6' ho6 hg6 hat6; have Hm6 := Lib.hid (Hm5.out.appA ho6 hg6 hat6); have Hr6 := Lib.hid (row_kept (e := 61) (size := 2) Hr5.out Hm5.out.all (by decide) hg6); have Hx6 := Lib.hid hg6; clear ho6 hg6 hat6)
            have hltA : ∀ g, (Value.slice aA2 AA.length cA2).ownBlock = some g → g < Eb := fun g e => by have := (World.ownsRow.lt Hm3.out.all g e).2; rw [HE.out] at this; exact this
            have hlE : Eb < w4'.heap.size := World.block_lt_of_cell? _ _ e0
            have hbk := Hx6.out.block Eb (by rw [World.size_alloc]; omega) (fun e => by have := hltA Eb e.symm; omega)
            have d0 : w6'.cell? ⟨Eb, 0, none⟩ = some (.int .i64 (x : Int)) := by have h := Hx5.out.1; unfold World.cell? at h ⊢; rw [hbk]; exact h
            have d1 : w6'.cell? ⟨Eb, 1, none⟩ = some (.int .i64 (y : Int)) := by have h := Hx5.out.2; unfold World.cell? at h ⊢; rw [hbk]; exact h
            have hxN : x < N := by omega
            have p0 := Hr6.out.cell hxN
            have p1 := Hr6.out.cell hyN
            have p2 := Hr6.out.frozen x
            have p3 := Hr6.out.frozen y
            have p4 := Hr6.out.lt
            have hIE : bI ≠ Eb := by have := HE.out; omega
            simp only [rb] at p0 p1
            clear e0 e1 cn t1 t2 t3 hltA hbk
            go_region_held3 (fun w' => w'.cell? ⟨Eb, 0, none⟩ = some (.int .i64 (x : Int)) ∧ w'.cell? ⟨Eb, 1, none⟩ = some (.int .i64 (y : Int))) (go_keep) (fail)
            have Hm8 := Lib.hid (((Hm6.out.setI Hr6.out hbI2 x true).setI (row_set_rb Hr6.out x true) hbI2 y true).below (Below.refl _ _).drew)
            have Hr8 := Lib.hid (show (((w6'.setCell ⟨bI, x, none⟩ (.bool true)).setCell ⟨bI, y, none⟩ (.bool true)).drew).rowIs bI 4 N (rb (inTo bk (j + 1))) from
              row_rb (row_set_rb (row_set_rb Hr6.out x true) y true) fun q _ => by
                have h1 := inB_snoc (b := bk) (k := j) (by rw [Hnb.out]; exact hjn) q
                rw [He.out] at h1
                show _ = inB (bk.take (j + 1)) q
                rw [h1]
                by_cases e1 : q = y
                · subst e1; simp
                · rw [if_neg e1]
                  by_cases e2 : q = x
                  · subst e2; simp
                  · rw [if_neg e2]
                    have k1 : ¬ (x : Int) = (q : Int) := by omega
                    have k2 : ¬ (y : Int) = (q : Int) := by omega
                    simp [k1, k2, inTo])
            have Hap := Lib.hid (show A0 ++ bk.take (j + 1) = AA ++ [((x : Int), (y : Int))] from by rw [take_snoc (by rw [Hnb.out]; exact hjn) He.out, ← List.append_assoc, HAA.out])
            clear d0 d1 p0 p1 p2 p3 p4
            go_wp2
            go_roundg (nb - (j + 1))
            case measure => go_light; omega
            case rel => exact ⟨j + 1, by omega, rfl, by go_num, by rw [Hap.out]; have h9 := Hm8.out; simpa only [List.length_append, List.length_cons, List.length_nil, Nat.zero_add] using h9, Hr8.out⟩
          · obtain rfl : nb = j := by omega
            have hAA2 : AA = (L.take (i + 1)).flatten := by rw [Hfs1.out, ← HAA.out]; rw [← Hnb.out, List.take_length]
            have hr9 : wr.rowIs bI 4 N (rb (inB bk)) := row_rb hr fun q _ => by
              show inB (bk.take nb) q = _
              rw [← Hnb.out, List.take_length]
            have HAA2 := Lib.hid hAA2; have Hr9 := Lib.hid hr9
            clear hr hr9 hAA2 Hr3 HAA
            have Hh := Lib.hid Hone1.out
            go_upto_if 125 with fail
            go_cut [11] from 125 to 134 (fun s11 wx => LwM w10 wx N bK (.slice aA2 AA.length cA2) s11 AA (oneTo L (i + 1)) fc ∧ wx.rowIs bI 4 N (rb (inB bk)))
            case first =>
              have hone := Hone1.out
              by_cases h1 : nb = 1
              · obtain rfl := Hadr.out (by omega)
                obtain ⟨x, y, hxy, hyN, he⟩ := Hpr.out 0 (by omega)
                have hbk1 : bk = [((x : Int), (y : Int))] := by
                  have h2 := Hnb.out
                  rw [h1] at h2
                  match bk, h2, he with
                  | [e], _, he => simp at he; rw [he]
                have hone2 : oneTo L (i + 1) = S0 ++ [((x : Int), (y : Int))] := by
                  rw [hone, hbk1]; rfl
                have c2 := (Hcell.out 0 (by omega)).1
                have c3 := (Hcell.out 0 (by omega)).2
                rw [he] at c2 c3
                simp only [Nat.zero_mul, Nat.add_zero] at c2 c3
                have c2 := below_cell hm.hb c2
                have c3 := below_cell hm.hb c3
                have b5 := below1 wr (Obj.cells #[.int .i64 (x : Int), .int .i64 (y : Int)] 61)
                have Hm5 := Lib.hid (hm.below b5)
                have Hr5 := Lib.hid (Hr9.out.of_block (b5.block _ Hr9.out.lt))
                have hS0 : S0.length ≤ 100 := by have h3 := oneTo_len L i; rw [HS0.out] at h3; omega
                have Hone2 := Lib.hid hone2
                have hz5 := Hm5.out.hb.size
                clear hone hone2 hbk1 he b5 hm
                have h2 : ((nb : Int) == 1) = true := by simp; omega
                have h5 : 0 < nb := by omega
                have h6 : (0 : Int) < (nb : Int) := by omega
                clear h1
                go_wp2_with (at_builtin; refine wpList_append_edges_at rfl (.tmp 126) (.tmp 133) 22 rfl w10.heap.size Try.underlying22 info2 (.slice aS S0.length cS) S0 rfl Hm5.out.sg _ [((x : Int), (y : Int))] rfl (edge_one _ _ _ _ rfl) (by simp) _ rfl (by simp; omega) hz5 ?_; intro a6 c6 w6' ho6 hg6 hat6; have Hm6 := Lib.hid (Hm5.out.appS ho6 hg6 hat6); have Hr6 := Lib.hid (row_kept (e := 61) (size := 2) Hr5.out Hm5.out.sg (by decide) hg6); clear ho6 hg6 hat6)
                go_meet
                exact ⟨by rw [Hone2.out]; have h9 := Hm6.out; simpa only [List.length_append, List.length_cons, List.length_nil, Nat.zero_add] using h9, Hr6.out⟩
              · have h2 : ((nb : Int) == 1) = false := by simp; omega
                have hone2 : oneTo L (i + 1) = S0 := by
                  rw [hone, if_neg (by rw [Hnb.out]; exact h1), List.append_nil]
                have Hone2 := Lib.hid hone2
                clear hone hone2 h1
                go_wp2_with fail
                go_meet
                exact ⟨by rw [Hone2.out]; exact Hm3.out, Hr9.out⟩
            case rest =>
            obtain ⟨hm11, hr11⟩ := hcut
            obtain ⟨aS2, cS2, rfl⟩ := hm11.sg.form
            have Hm11 := Lib.hid hm11; have Hr11 := Lib.hid hr11
            have Hfle := Lib.hid (show ∀ q, fc q ≤ 100 from fun q => by
              rw [← Hf0.out]
              have := bcnt_le (L.take i) q
              rw [List.length_take] at this
              omega)
            generalize hS1 : oneTo L (i + 1) = S1 at *
            have HS1 := Lib.hid hS1
            clear hS1 hm11 hr11 hm Hh c1
            go_wp2
            go_loopg [17] N (fun g s17 wi => ∃ k : Nat, k ≤ N ∧ g = N - k ∧ s17 = .int .i64 k ∧ LwM w10 wi N bK (.slice aA2 AA.length cA2) (.slice aS2 S1.length cS2) AA S1 (fun q => fc q + if (decide (q < k) && inB bk q) = true then 1 else 0) ∧ wi.rowIs bI 4 N (rb (inB bk)))
            case atStart => exact ⟨0, Nat.zero_le _, rfl, rfl, Hm11.out.congr fun q _ => by simp, Hr11.out⟩
            case round =>
              obtain ⟨k, hk, rfl, rfl, hm, hr⟩ := hrel
              have cn := below_cell hm.hb G10.out.cn
              have Hm := Lib.hid hm; have Hr := Lib.hid hr
              by_cases hkN : k < N
              · have ti := hr.cell hkN
                simp only [rb] at ti
                have tk := hm.cnt.cell hkN
                have fk := hm.cnt.frozen k
                have lk := hm.cnt.lt
                have hfk := Hfle.out k
                simp only [rn] at tk
                rw [if_neg (by simp), Nat.add_zero] at tk
                clear hm hr
                cases hin : inB bk k with
                | true =>
                  rw [hin] at ti
                  have Hin := Lib.hid hin
                  have hoff := Hm.out.offK Hr.out
                  have Hmn := Lib.hid ((Hm.out.setK k (fc k + 1)).congr (f' := fun q => fc q + if (decide (q < k + 1) && inB bk q) = true then 1 else 0) fun q _ => by
                    by_cases e : q = k
                    · subst e; simp [Hin.out]
                    · rw [if_neg e]
                      have : decide (q < k + 1) = decide (q < k) := by simp; omega
                      rw [this])
                  have Hrn := Lib.hid (Hr.out.setOther (a := ⟨bK, k, none⟩) hoff (.int .i64 ((fc k + 1 : Nat) : Int)))
                  clear hin hoff
                  generalize fc k = y at *
                  go_wp2
                  go_roundg (N - (k + 1))
                  case measure => go_light; omega
                  case rel => exact ⟨k + 1, by omega, rfl, by go_num, Hmn.out, Hrn.out⟩
                | false =>
                  rw [hin] at ti
                  have Hmn := Lib.hid (Hm.out.congr (f' := fun q => fc q + if (decide (q < k + 1) && inB bk q) = true then 1 else 0) fun q _ => by
                    by_cases e : q = k
                    · subst e; simp [hin]
                    · have : decide (q < k + 1) = decide (q < k) := by simp; omega
                      rw [this])
                  clear hin tk fk lk
                  go_wp2
                  go_roundg (N - (k + 1))
                  case measure => go_light; omega
                  case rel => exact ⟨k + 1, by omega, rfl, by go_num, Hmn.out, Hr.out⟩
              · obtain rfl : N = k := by omega
                have Hfin := Lib.hid (Hm.out.congr (f' := bcnt (L.take (i + 1))) fun q hq => by
                  rw [Hbc1.out q]
                  simp [hq])
                clear hm hr
                go_wp2
                go_roundg (M - (i + 1))
                case measure => go_light; omega
                case rel => exact ⟨i + 1, by omega, rfl, by go_num, by rw [← HAA2.out, HS1.out]; exact Hfin.out⟩
      · obtain rfl : M = i := by omega
        have hti : L.take M = L := by rw [← HM.out, List.take_length]
        have hoi : oneTo L M = oneL L := by unfold oneTo; rw [hti]
        rw [hti, hoi] at hm
        obtain ⟨aA, cA, rfl⟩ := hm.all.form
        obtain ⟨aS, cS, rfl⟩ := hm.sg.form
        obtain ⟨FL, hFL⟩ : ∃ FL, L.flatten = FL := ⟨_, rfl⟩
        obtain ⟨BL, hBL⟩ : ∃ BL, oneL L = BL := ⟨_, rfl⟩
        have HBL := Lib.hid (show BL = (edG N (adj l)).filter (bridgeB N (adj l)) from by rw [← hBL]; exact oneL_ok HG.out HC.out)
        have Hflat2 := Lib.hid (show FL.Perm (edG N (adj l)) from by rw [← hFL]; exact Hflat.out)
        have Hfl2 := Lib.hid (show FL.length = l.length from by rw [← hFL]; exact Hfll.out)
        rw [hFL, hBL] at hm
        have O10b := Lib.hid (show OwnE w10 w4.heap.size (.slice aB BL.length cB) BL from by rw [← hBL]; exact O10.out)
        rw [hFL, hBL]
        have Hm := Lib.hid hm
        have Hbq := Lib.hid (show ∀ q, bcnt L q ≤ 100 from fun q => Nat.le_trans (bcnt_le L q) (by rw [HM.out]; exact hML))
        clear hm hFL hBL hti hoi Hfl Hpair HAt Hone Hfs Hbc Hflat Hfll O10
        obtain ⟨wB, rfl⟩ : ∃ wB : World, wB = wr := ⟨_, rfl⟩
        have hlK := Hm.out.cnt.lt
        go_wp2
        go_loopg [18, 19] N (fun g s18 s19 wi => ∃ k : Nat, k ≤ N ∧ g = N - k ∧ s19 = .int .i64 k ∧ wi.ownsRow wB.heap.size 3 1 s18 (cutsTo L k).length (nvals (cutsTo L k)) ∧ Below wB.heap.size wB wi)
        case atStart => exact ⟨0, Nat.zero_le _, rfl, rfl, World.ownsRow_nil _ _ _ _, Below.refl _ _⟩
        case round =>
          obtain ⟨k, hk, rfl, rfl, ho, hb⟩ := hrel
          obtain ⟨a2, c2, rfl⟩ := ownsRow_form ho
          have hz := hb.size
          have cn := below_cell (upL Hm.out.hb hb) G10.out.cn
          by_cases hlt : k < N
          · have ci := (Hm.out.cnt.of_block (hb.block _ hlK)).cell hlt
            simp only [rn] at ci
            have hsu := cutsTo_succ L k
            have hcl : (cutsTo L k).length ≤ 100 := by have := List.length_filter_le (fun q => decide (1 < bcnt L q)) (List.range k); rw [List.length_range] at this; exact Nat.le_trans this (by omega)
            have hbi := Hbq.out k
            generalize bcnt L k = bi at *
            have Ho := Lib.hid ho; have Hb := Lib.hid hb; have Hsu := Lib.hid hsu
            clear ho hb hsu
            by_cases h1 : 1 < bi
            · have hI : (1 : Int) < (bi : Int) := by omega
              have Hsu2 := Lib.hid (show cutsTo L (k + 1) = cutsTo L k ++ [k] by rw [Hsu.out, if_pos h1])
              generalize hcc : cutsTo L k = cc at *
              have Hcc := Lib.hid hcc
              clear h1 hcc
              go_wp2_with (at_builtin; refine wpList_append_has rfl (.tmp 162) (.tmp 164) 39 rfl wB.heap.size 3 (.int .i64 0) 8 Try.underlying39 info3 rfl (.slice a2 cc.length c2) cc.length (nvals cc) rfl (Ho.out.alloc _) _ 1 (nvals [k]) rfl (HasCells.one _ _ _ rfl) (by omega) (by omega) (by simp; omega) ?_; intro a5 c5 w5' ho5 hg5; have Ho5 := Lib.hid ho5; have Hb5 := Lib.hid ((Hb.out.alloc hz (Obj.cells #[.int .i64 (k : Int)] 3)).grown hg5 (by simp; omega) (fun g e => (Ho.out.lt g e).1)); clear ho5 hg5)
              go_roundg (N - (k + 1))
              case measure => go_light; omega
              case rel => exact ⟨k + 1, by omega, rfl, by go_num, by rw [Hsu2.out]; have h5 := Ho5.out; simpa [nvals, ints] using h5, Hb5.out⟩
            · have hI : ¬ (1 : Int) < (bi : Int) := by omega
              have Hsu2 := Lib.hid (show cutsTo L (k + 1) = cutsTo L k by rw [Hsu.out, if_neg h1, List.append_nil])
              clear h1
              go_wp2
              go_roundg (N - (k + 1))
              case measure => go_light; omega
              case rel => exact ⟨k + 1, by omega, rfl, by go_num, by rw [Hsu2.out]; exact Ho.out, Hb.out⟩
          · obtain rfl : N = k := by omega
            rw [show cutsTo L N = VL from HVL.out] at ho ⊢
            have HiC := Lib.hid (IsInts.owned ho)
            have hbT := upL Hm.out.hb hb
            have HA20 := Lib.hid (Hm.out.all.edges.below hb)
            have HS20 := Lib.hid (Hm.out.sg.edges.below hb)
            have G20 := Lib.hid (G10.out.below hbT)
            have HBT := Lib.hid hbT
            have Hadj := Lib.hid (show ∀ i j, i < N → j < N → adj FL i j = adj l i j from fun i j hi hj => by rw [adj_perm Hflat2.out]; exact adj_edG HG.out hi hj)
            have Hok := Lib.hid (show ∀ j, j < l.length → EndsOk (N : Int) (l.getD j (0, 0)) ∧ (l.getD j (0, 0)).1 ≠ (l.getD j (0, 0)).2 from fun j hj => ⟨(Hg.out.fine j hj).1, (Hg.out.fine j hj).2.1⟩)
            have Hok2 := Lib.hid (show ∀ j, j < FL.length → EndsOk (N : Int) (FL.getD j (0, 0)) ∧ (FL.getD j (0, 0)).1 ≠ (FL.getD j (0, 0)).2 from fun j hj => by
              have hmF : FL.getD j (0, 0) ∈ FL := getD_mem hj
              obtain ⟨x, y, hxy, hA, e⟩ := edG_iff.1 (Hflat2.out.mem_iff.1 hmF)
              rw [e]
              have := hA.2.1
              unfold EndsOk
              simp only
              omega)
            clear ho hb hbT HC HL HVL hmkB
            go_upto_region 38 with fail
            go_wp2_with fail
            refine (gridOf_any FL N _ _ HA20.out hN Hok2.out).mono ?_
            rintro e w21 ⟨vT, rfl, hgT, hb21⟩
            have HT := Lib.hid (HasGrid.congr ⟨_, hgT⟩ Hadj.out)
            obtain ⟨aT, cT, rfl⟩ := HT.out.form
            have G21 := Lib.hid (G20.out.below hb21); have HA21 := Lib.hid (HA20.out.below hb21); have HS21 := Lib.hid (HS20.out.below hb21); have HI21 := Lib.hid (HiC.out.below hb21)
            have HB21 := Lib.hid (upL HBT.out hb21)
            have V21 := Lib.hid (V10.out.below HB21.out)
            have OB21 := Lib.hid (O10b.out.edges.below HB21.out)
            clear hgT hb21 cn G20 HA20 HS20 HiC HBT Hok2
            have cn := G21.out.cn
            have cs := G21.out.cs
            have hbl : ((FL.length : Int) != (l.length : Int)) = false := by rw [Hfl2.out]; simp
            go_upto_region 39 with fail
            go_cut [197] from 171 to 197 (fun s197 wx => s197 = .bool false ∧ Below w21.heap.size w21 wx)
            case first =>
              have hcur : Below w21.heap.size w21 w21.drew := (Below.refl _ _).drew
              generalize hED : edG N (adj l) = ED at *
              have HED := Lib.hid hED
              clear hED
              go_region_held3 (fun w' => w'.cell? ⟨w.heap.size, 0, none⟩ = some (.int .i64 (N : Int)) ∧ w'.cell? ⟨w.heap.size, 1, none⟩ = some (.slice ad l.length cap))
                (first | exact ⟨cn, cs⟩ | exact ⟨below_cell hcur cn, below_cell hcur cs⟩)
                (first
                  | (go_at_call_of 38 (Value.slice aT N cT); refine (of_any N (adj l) _ _ hN (HT.out.below hcur)).mono ?_; rintro e wA ⟨vA2, hoA, hbA, rfl⟩; rw [show prsTo N (adj l) N = ED from HED.out] at hoA; have hcur := upL hcur hbA)
                  | (go_at_call 22; refine (gridOf_any l N _ _ (G21.out.he.below hcur) hN Hok.out).mono ?_; rintro e wG ⟨vG, rfl, hgG, hbG⟩; obtain ⟨aG, cG, rfl⟩ := HasGrid.form ⟨_, hgG⟩; have hcur := upL hcur hbG)
                  | (go_at_call 38; refine (of_any N (adj l) _ _ hN (by first | exact ⟨_, hgG⟩ | exact HasGrid.below ⟨_, hgG⟩ hbA)).mono ?_; rintro e wO ⟨vO, hoO, hbO, rfl⟩; rw [show prsTo N (adj l) N = ED from HED.out] at hoO; have hcur := upL hcur hbO)
                  | (go_at_call 37; refine (same_any ED ED (N : Int) (N : Int) _ _ _ (by first | exact hoA.edges | exact hoA.edges.below hbO | exact hoA.edges.below (upL hbG hbO)) (by first | exact hoO.edges | exact hoO.edges.below hbA)).mono ?_; rintro e wS ⟨rfl, hbS⟩; rw [show decide ((N : Int) = (N : Int) ∧ ED = ED) = true by simp]; have hcur := upL hcur hbS)
                  | (go_at_call 30; refine (rpairs_any BL BL _ _ _ (OB21.out.below hcur) (HS21.out.below hcur)).mono ?_; rintro e wP ⟨rfl, hbP⟩; rw [show decide (BL = BL) = true by simp]; have hcur := upL hcur hbP)
                  | (go_at_call 23; refine (ints_any (ints VL) (ints VL) _ _ _ (V21.out.below hcur) (HI21.out.below hcur)).mono ?_; rintro e wI2 ⟨rfl, hdI⟩; rw [show decide (ints VL = ints VL) = true by simp]; have hcur := upL hcur hdI.below))
              all_goals (go_wp2_with fail; go_meet; exact ⟨rfl, hcur⟩)
            case rest =>
            obtain ⟨rfl, hb22⟩ := hcut
            rename World => w22
            have G22 := Lib.hid (G21.out.below hb22); have HT22 := Lib.hid (HT.out.below hb22); have OB22 := Lib.hid (OB21.out.below hb22)
            have hb22w := Lib.hid (upL G10.out.hb (upL HB21.out hb22))
            have hCL : CL.length ≤ 100 := by rw [← HCL.out, List.length_map]; exact Nat.le_trans (lds_len _ _) hN
            have HBe := Lib.hid (show ∀ j, j < BL.length → ∃ x y : Nat, BL.getD j (0, 0) = ((x : Int), (y : Int)) ∧ AG N (adj l) x y ∧ bridgeB N (adj l) ((x : Int), (y : Int)) = true from fun j hj => by
              have h1 : BL.getD j (0, 0) ∈ (edG N (adj l)).filter (bridgeB N (adj l)) := by rw [← HBL.out]; exact getD_mem hj
              obtain ⟨h2, h3⟩ := List.mem_filter.1 h1
              obtain ⟨x, y, hxy, hA, e⟩ := edG_iff.1 h2
              rw [e] at h3
              exact ⟨x, y, e, hA, h3⟩)
            have HBlt := Lib.hid (show ∀ j, j < BL.length → ∀ x y : Nat, BL.getD j (0, 0) = ((x : Int), (y : Int)) → x < y from fun j hj x y e => by
              have h1 : BL.getD j (0, 0) ∈ (edG N (adj l)).filter (bridgeB N (adj l)) := by rw [← HBL.out]; exact getD_mem hj
              obtain ⟨x', y', hxy, -, e2⟩ := edG_iff.1 (List.mem_filter.1 h1).1
              rw [e] at e2
              simp only [Prod.mk.injEq, Int.ofNat_inj] at e2
              omega)
            obtain ⟨ab, cb, bb, ob, e0, hcap, hmax, hadr, -, hcell⟩ := OB22.out
            simp only [Value.slice.injEq] at e0
            obtain ⟨rfl, -, rfl⟩ := e0
            have Hcell := Lib.hid hcell; have Hadr := Lib.hid hadr
            obtain ⟨nB, hnB⟩ : ∃ nB, BL.length = nB := ⟨_, rfl⟩
            have HnB := Lib.hid hnB
            rw [hnB] at hcap HBe HBlt Hadr Hcell ⊢
            clear hnB hcell hadr hb22 G21 HT OB21 HA21 HS21 HI21 HB21 V21 cn cs hbl
            obtain ⟨nC, hnC⟩ : ∃ nC, CL.length = nC := ⟨_, rfl⟩
            have HCLn := Lib.hid hnC
            rw [hnC] at hCL ⊢
            clear hnC
            go_upto_region 42 with fail
            go_wp2
            go_loopg [21] nB (fun g s21 wi => ∃ j : Nat, j ≤ nB ∧ g = nB - j ∧ s21 = .int .i64 j ∧ Below w22.heap.size w22 wi)
            case atStart => exact ⟨0, Nat.zero_le _, rfl, rfl, Below.refl _ _⟩
            case round =>
              obtain ⟨j, hj, rfl, rfl, hb⟩ := hrel
              have Hb := Lib.hid hb
              by_cases hlt : j < nB
              · obtain ⟨x, y, he, hA, hbr⟩ := HBe.out j hlt
                have hxy := HBlt.out j hlt x y he
                obtain rfl := Hadr.out (by omega)
                have c2 := (Hcell.out j hlt).1
                have c3 := (Hcell.out j hlt).2
                rw [he] at c2 c3
                simp only at c2 c3
                have c2 := below_cell hb c2
                have c3 := below_cell hb c3
                have HTj := Lib.hid (HT22.out.below hb)
                have hmore := comps_more Hg.out hbr hA
                clear he hA hbr hb
                go_wp2_with fail
                refine (without_any N (adj l) (x : Int) (y : Int) _ wr hN HTj.out).mono ?_
                rintro e w23 ⟨v23, rfl, hg23, hb23⟩
                have Hg23 := Lib.hid (hg23.congr fun i j hi hj => but_less HG.out hxy hi hj)
                clear hg23
                go_wp2_with fail
                refine (of_any N (lessG (adj l) x y) _ w23 hN Hg23.out).mono ?_
                rintro e w24 ⟨v24, ho24, hb24, rfl⟩
                obtain ⟨LE, hLE⟩ : ∃ LE, prsTo N (lessG (adj l) x y) N = LE := ⟨_, rfl⟩
                have hgood := less_good Hg.out x y
                rw [show edG N (lessG (adj l) x y) = LE from hLE] at hgood hmore
                rw [hLE] at ho24
                obtain ⟨a24, c24, rfl⟩ := ho24.form
                have e24 := two_cells w24 (.int .i64 (N : Int)) (.slice a24 LE.length c24) 24
                have b25 := below1 w24 (Obj.cells #[.int .i64 (N : Int), .slice a24 LE.length c24] 24)
                have He25 := Lib.hid (ho24.edges.below b25)
                have B25 := Lib.hid (upL Hb.out (upL hb23 (upL hb24 b25)))
                have E25 := Lib.hid e24
                have Hgl := Lib.hid hgood
                clear hLE hgood e24 b25 ho24 hb23 hb24
                go_upto_region 45 with fail
                generalize w24.alloc (Obj.cells #[.int .i64 (N : Int), .slice a24 LE.length c24] 24) = w25 at *
                clear c2 c3
                have e0 := E25.out.1
                have e1 := E25.out.2
                go_wp2_with fail
                refine (pcomps_ok Hgl.out _ w25 He25.out).mono ?_
                rintro e w26 ⟨v26, rfl, hp26, hb26⟩
                obtain ⟨XL, hXL⟩ : ∃ XL, compsL N (adj LE) = XL := ⟨_, rfl⟩
                rw [hXL] at hp26 hmore
                obtain ⟨a26, c26, rfl⟩ := hp26.form
                have hlen : XL.length = nC + 1 := by rw [hmore, ← HCLn.out, HCL.out]
                have B27 := Lib.hid (upL B25.out (upL hb26 (below1 w26 (Obj.cells #[.int .i64 0, .int .i64 0] 27))))
                have F27 := Lib.hid (FV.new w26 0 0)
                have q1 : ((XL.length : Int) != (nC : Int) + 1) = false := by rw [hlen]; simp
                clear hXL hmore hp26 hb26 hlen e0 e1
                go_upto_region 46 with fail
                generalize w26.alloc (Obj.cells #[.int .i64 0, .int .i64 0] 27) = w27 at *
                obtain ⟨f0, f1, -, -, -⟩ := F27.out.facts
                go_wp2
                go_roundg (nB - (j + 1))
                case measure => go_light; omega
                case rel => exact ⟨j + 1, by omega, rfl, by go_num, B27.out⟩
              · obtain rfl : nB = j := by omega
                go_wp2
                go_ret
                exact ⟨rfl, upL hb22w.out Hb.out⟩
  · have q2 : (c != 0) = true := by simp [hc]
    have Hc := Lib.hid hc
    clear hc
    go_wp2_with fail
    refine (pblocks_bad Hsp.out Hc.out _ _ G2.out.he).mono ?_
    rintro e w3 ⟨rfl, hb3⟩
    have b4 := upL hb3 (below1 w3 (Obj.cells #[.int .i64 c, .int .i64 a] 27))
    have G4 := Lib.hid (G2.out.below b4)
    have F4 := Lib.hid (FV.new w3 c a)
    clear cn cs hb3 b4 G2
    go_upto_region 4 with fail
    generalize w3.alloc (Obj.cells #[.int .i64 c, .int .i64 a] 27) = w4 at *
    generalize w3.heap.size = F at *
    obtain ⟨f0, f1, -, -, -⟩ := F4.out.facts
    go_wp2
    go_ret
    exact ⟨rfl, G4.out.hb⟩

end Go.Proofs.Ytmhcnekbfngafaa
