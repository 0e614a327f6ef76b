/- poly.Matchings: the walk. -/
import Derived.Test.YtmhcnekbfngafaaPMat1
import Derived.Test.YtmhcnekbfngafaaPE
import Derived.Test.YtmhcnekbfngafaaPSmall
import Derived.Test.YtmhcnekbfngafaaTable
import Derived.Test.YtmhcnekbfngafaaHasGrid
import Derived.BigQuiet
namespace Go.Proofs.Ytmhcnekbfngafaa
open Go Go.RowKit

theorem Memo.below {w w' : World} {base b n N : Nat} {l : EL} {z : Bool} {No : Nat → Prop} (h : Memo w base b n N l z No) (hb : Below w.heap.size w w') : Memo w' base b n N l z No :=
  h.kept (row := none) ⟨hb.os, hb.tape, hb.output, hb.size, fun k hk _ => hb.block k hk⟩ (fun g e => by cases e) (fun e => by cases e)
/-- poly.Matchings comes back. -/
def MatPost (n : Int) (l : List (Int × Int)) (w : World) (e : Ending) (w' : World) : Prop :=
  ∃ c a v, e = .returned (.tuple #[v, .agg #[.int .i64 c, .int .i64 a]]) ∧ SmallSpec n l 12 c a ∧ Below w.heap.size w w' ∧
    ((c ≠ 0 ∧ v = .slice none 0 0) ∨ (c = 0 ∧ a = 0 ∧ ∃ (N : Nat) (L : List Int), n = N ∧ IsCnt L (matA (elN l) fun i => (2 ^ N - 1).testBit i) ∧ IsInts w' v L))

set_option maxHeartbeats 6400000 in
set_option maxRecDepth 100000 in
theorem pmat_any (n : Int) (l : List (Int × Int)) (sv : Value) (w : World) (h : IsEdges w sv l) :
    Calls Try.prog 19 #[.agg #[.int .i64 n, sv]] w (MatPost n l w) := by
  have hsv := h
  obtain ⟨ad, cap, bb, o, rfl, hcap, hmax, hadr, -, hcell⟩ := h
  have hg := GRes.start w n (.slice ad l.length cap)
  have He := Lib.hid hsv; have Hg := Lib.hid hg; have Hcell := Lib.hid hcell; have Hadr := Lib.hid hadr
  have cn := hg.cn
  have cs := hg.cs
  clear hsv hg  hcell hadr
  go_enter Try.func19, Try.ntmps19
  go_upto_region 1 with fail
  generalize (w.alloc (Obj.cells #[.int .i64 n, .slice ad l.length cap] 24)).alloc (Obj.cells #[Value.int IntKind.i64 0, Value.int IntKind.i64 0] 27) = w1 at *
  go_upto_region 2 with (go_at_call 53; refine (psmall_any n l _ w1 (He.out.below Hg.out.hb)).mono ?_; rintro e w2 ⟨c, a, hsp, rfl, hb2⟩; have Hsp := Lib.hid hsp; have H3 := Lib.hid (Hg.out.below (upc hb2 (below1 w2 (Obj.cells #[.int .i64 c, .int .i64 a] 27)))); have F3 := Lib.hid (FV.new w2 c a); clear hsp hb2)
  generalize w2.alloc (Obj.cells #[.int .i64 c, .int .i64 a] 27) = w3 at *
  generalize w2.heap.size = F at *
  clear cn cs Hg
  have cn := H3.out.cn
  have cs := H3.out.cs
  have hAB := H3.out.hA
  obtain ⟨f0, f1, -, -, -⟩ := F3.out.facts
  by_cases hc : c = 0
  · subst hc
    obtain ⟨rfl, hn0, hn1, hl1, hok⟩ := small_good Hsp.out
    obtain ⟨N, rfl⟩ := Int.eq_ofNat_of_zero_le hn0
    have hN : N ≤ 12 := by omega
    have Hok := Lib.hid hok
    have HFn := Lib.hid (small_fine Hsp.out)
    clear hok hn0 hn1
    go_upto_region 5 with (go_at_call 54; refine (table_any l N _ w3 (He.out.below H3.out.hb) (by omega) Hok.out).mono ?_; rintro e w4 ⟨v4, rfl, hg4, hb4⟩; have Hb4 := Lib.hid hb4; have H4 := Lib.hid (H3.out.below hb4); obtain ⟨ga, gc, gb, go, R, rfl, -, hga, hgr⟩ := hg4; have Hgr := Lib.hid hgr; have Hga := Lib.hid hga; clear hga hgr hb4)
    clear f0 f1 F3 cn cs
    have hmm := @run_makeMap Try.prog
    have Hcg := Lib.hid (show (w4.alloc (Obj.cells #[.slice ga N gc] 44)).cell? ⟨w4.heap.size, 0, none⟩ = some (.slice ga N gc) by rw [World.cell?_alloc_at _ _ _ _ rfl]; rfl)
    have Hb5 := Lib.hid (Hb4.out.trans ((below1 w4 (Obj.cells #[.slice ga N gc] 44)).mono Hb4.out.size))
    have Hb45 := Lib.hid (below1 w4 (Obj.cells #[.slice ga N gc] 44))
    have hsz5 : (w4.alloc (Obj.cells #[.slice ga N gc] 44)).heap.size = w4.heap.size + 1 := by simp
    have Hsz5 := Lib.hid hsz5
    clear hsz5
    generalize w4.alloc (Obj.cells #[.slice ga N gc] 44) = w5 at *
    have hc1 : IsCnt [1] (matA (elN l) fun i => (0 : Nat).testBit i) := cnt_one _ fun k => by
      by_cases e : k = 0
      · rw [if_pos e, e, matA_zero]
      · rw [if_neg e, matA_none _ k e fun u => Nat.zero_testBit u]
    have m1 := (Memo.made w5 (w5.heap.size + 1) N (elN l) (fun _ => False)).kept (World.grownBy_alloc (w5.alloc (.map #[] 0)) (Obj.cells #[.int .i64 1] 3) none) (fun g e => by cases e) (fun e => by cases e)
    have o1 := World.ownsRow_lit (base := w5.heap.size + 1) (e := 3) (size := 1) (w5.alloc (.map #[] 0)) #[.int .i64 1] 1 (by simp) (by decide) rfl
    have hz6 : (w5.alloc (.map #[] 0)).heap.size = w5.heap.size + 1 := by simp
    rw [hz6] at o1
    obtain ⟨w6, hput, hm6, hg6⟩ := m1.put hN (Nat.lt_succ_self _) (by omega) (S := 0) (Nat.two_pow_pos N) (L := [1]) (by decide) hc1 o1 (fun g _ h => h)
    have hput : (Instr.mapUpdate 83 (.map (some w5.heap.size)) (.int .i64 0) (.slice (some ⟨w5.heap.size + 1, 0, none⟩) 1 1)).run Try.prog ((w5.alloc (.map #[] 0)).alloc (Obj.cells #[.int .i64 1] 3)) = .ok () w6 := hput
    have Hm6 := Lib.hid hm6
    have Hb6 := Lib.hid (show Below w5.heap.size w5 w6 from (below2 w5 (.map #[] 0) (Obj.cells #[.int .i64 1] 3)).grown hg6 (by simp; omega) (fun g e => by have := Option.some.inj e; omega))
    have hs6 := hg6.size
    rw [World.size_alloc, hz6] at hs6
    clear m1 o1 hm6 hg6 hc1 hz6
    go_upto_region 6 with fail
    clear hput hmm
    have Hcm := Lib.hid (show (w6.alloc (Obj.cells #[.map (some w5.heap.size)] 83)).cell? ⟨w6.heap.size, 0, none⟩ = some (.map (some w5.heap.size)) by rw [World.cell?_alloc_at _ _ _ _ rfl]; rfl)
    have Hb67 := Lib.hid (below1 w6 (Obj.cells #[.map (some w5.heap.size)] 83))
    generalize w6.alloc (Obj.cells #[.map (some w5.heap.size)] 83) = w7 at *
    have hfn := run_store_fn (P := Try.prog) (w7.alloc (Obj.cells #[Value.nilFunc] 81)) ⟨w7.heap.size, 0, none⟩ (.func 55) #[] #[.pointer (some ⟨w6.heap.size, 0, none⟩), .pointer (some ⟨w7.heap.size, 0, none⟩), .pointer (some ⟨w.heap.size, 0, none⟩), .pointer (some ⟨w4.heap.size, 0, none⟩)]
    have hsz7 := Hb67.out.size
    go_upto_region 8 with fail
    clear hfn
    have hct : (w7.alloc (Obj.cells #[Value.func (.func 55) #[] #[.pointer (some ⟨w6.heap.size, 0, none⟩), .pointer (some ⟨w7.heap.size, 0, none⟩), .pointer (some ⟨w.heap.size, 0, none⟩), .pointer (some ⟨w4.heap.size, 0, none⟩)]] 81)).cell? ⟨w7.heap.size, 0, none⟩ = some (Value.func (.func 55) #[] #[.pointer (some ⟨w6.heap.size, 0, none⟩), .pointer (some ⟨w7.heap.size, 0, none⟩), .pointer (some ⟨w.heap.size, 0, none⟩), .pointer (some ⟨w4.heap.size, 0, none⟩)]) := by rw [World.cell?_alloc_at _ _ _ _ rfl]; rfl
    have Hb78 := Lib.hid (below1 w7 (Obj.cells #[Value.func (.func 55) #[] #[.pointer (some ⟨w6.heap.size, 0, none⟩), .pointer (some ⟨w7.heap.size, 0, none⟩), .pointer (some ⟨w.heap.size, 0, none⟩), .pointer (some ⟨w4.heap.size, 0, none⟩)]] 81))
    generalize w7.alloc (Obj.cells #[Value.func (.func 55) #[] #[.pointer (some ⟨w6.heap.size, 0, none⟩), .pointer (some ⟨w7.heap.size, 0, none⟩), .pointer (some ⟨w.heap.size, 0, none⟩), .pointer (some ⟨w4.heap.size, 0, none⟩)]] 81) = w8 at *
    have Hct := Lib.hid hct
    have B68 := Lib.hid (Hb67.out.trans (Hb78.out.mono Hb67.out.size))
    have B58 := Lib.hid (Hb6.out.trans (B68.out.mono Hb6.out.size))
    have B48 := Lib.hid (Hb45.out.trans (B58.out.mono Hb45.out.size))
    have H8 := Lib.hid (H4.out.below B48.out)
    have hlt4 : w.heap.size + 1 < w4.heap.size := H4.out.hz.lt
    have hlt5 := Hsz5.out
    have hEv : MEnv w8 w6.heap.size w7.heap.size w.heap.size w4.heap.size w5.heap.size gb go gc N ga R (elN l) := ⟨below_cell Hb78.out Hcm.out, Hct.out, H8.out.cn, below_cell B58.out Hcg.out, fun h => (Hga.out h).1, fun i hi => below_cell B48.out (Hgr.out.head i hi), fun i j hi hj => by
        rw [adjE_adj (fine_ends HFn.out)]
        exact below_cell B48.out (Hgr.out.cell hi hj), by omega, by omega, by omega, by omega, fun h => by
        have := World.block_lt_of_cell? _ _ (Hgr.out.head 0 h)
        simp only at this
        omega, fun i hi => by
        have := World.block_lt_of_cell? _ _ (Hgr.out.cell hi hi)
        simp only at this
        omega⟩
    have hMv : Memo w8 (w5.heap.size + 1) w5.heap.size 1 N (elN l) true (fun _ => False) := Hm6.out.below B68.out
    have hsz8 := B68.out.size
    have hp : pow2 N ≤ 4096 := by unfold pow2; exact Nat.pow_le_pow_right (n := 2) (by decide) hN
    have hp0 : 0 < pow2 N := Nat.two_pow_pos N
    have hPlt : pow2 N - 1 < 2 ^ N := by show 2 ^ N - 1 < 2 ^ N; have := Nat.two_pow_pos N; omega
    have hbig : 1 + 13 ^ cnt (fun i => (pow2 N - 1).testBit i) N ≤ 100000000000000 := by
      have h2 : 13 ^ cnt (fun i => (pow2 N - 1).testBit i) N ≤ 13 ^ 12 := Nat.pow_le_pow_right (by decide) (Nat.le_trans (cnt_le _ N) hN)
      have h3 : 13 ^ 12 = 23298085122481 := by decide
      omega
    have HC := Lib.hid (pm1_any hN (fine_good HFn.out) (hEv.chg (Chg.refl _ _).drew) (Nat.lt_succ_self _) (2 ^ N) (pow2 N - 1) 1 (fun _ => False) w8.drew hPlt hPlt (Chg.refl _ _) (by show w5.heap.size + 1 ≤ w8.heap.size; omega) hMv (fun g h => h.elim) hbig)
    have cn := H8.out.cn
    have ct := Hct.out
    have b0 := H8.out.hz.cell (show 0 < 2 by omega)
    have b1 := H8.out.hz.cell (show 1 < 2 by omega)
    have d0 := H8.out.hz.frozen 0
    have d1 := H8.out.hz.frozen 1
    have hBl := H8.out.hz.lt
    have e1 := op_shl (show N < 62 by omega)
    have e2 : IntKind.i64.wrap ((pow2 N : Int) - 1) = ((pow2 N - 1 : Nat) : Int) := by rw [show (pow2 N : Int) - 1 = ((pow2 N - 1 : Nat) : Int) by omega]; exact wrap_nat (by omega)
    clear hct hEv hMv hp hp0 hPlt hbig
    go_region_with (go_at_call 55; refine HC.out.mono ?_; rintro e w9 ⟨v9, L9, rfl, -, hL9, ho9, -, hch9, -⟩; have HL9 := Lib.hid hL9; have Ho9 := Lib.hid ho9; clear hL9 ho9; have H9 := Lib.hid (H8.out.chg (((Chg.refl _ _).drew).trans hch9) (show w.heap.size + 1 < w5.heap.size by omega) (by omega)); clear hch9; have b90 := H9.out.hz.cell (show 0 < 2 by omega); have b91 := H9.out.hz.cell (show 1 < 2 by omega); have d90 := H9.out.hz.frozen 0; have d91 := H9.out.hz.frozen 1; have hB9 := H9.out.hz.lt)
    all_goals
      obtain ⟨e0, e1, e2⟩ := H9.out.put (.int .i64 0) (.int .i64 0)
      go_wp2
      have hi := IsInts.owned Ho9.out
      have hne : ∀ g, v9.ownBlock = some g → w.heap.size + 1 ≠ g := fun g e => by
        have h1 := (World.ownsRow.lt Ho9.out g e).1
        omega
      exact bodyPost_ret (v := .tuple #[v9, .agg #[.int .i64 0, .int .i64 0]]) (by simp [results, Try.results19, go_sem, e0, e1]) rfl ⟨0, 0, _, rfl, Hsp.out, e2, Or.inr ⟨rfl, rfl, N, L9, rfl, HL9.out, (hi.setOff hne).setOff hne⟩⟩
  · have q : (c != 0) = true := by simp [hc]
    have Hc := Lib.hid hc
    clear hc
    have b0 := H3.out.hz.cell (show 0 < 2 by omega)
    have b1 := H3.out.hz.cell (show 1 < 2 by omega)
    have d0 := H3.out.hz.frozen 0
    have d1 := H3.out.hz.frozen 1
    have hBl := H3.out.hz.lt
    go_wp2
    go_region
    all_goals
      obtain ⟨e0, e1, e2⟩ := H3.out.put (.int .i64 c) (.int .i64 a)
      go_wp2
      exact bodyPost_ret (v := .tuple #[.slice none 0 0, .agg #[.int .i64 c, .int .i64 a]]) (by simp [results, Try.results19, go_sem, e0, e1]) rfl ⟨c, a, _, rfl, Hsp.out, e2.drew, Or.inl ⟨Hc.out, rfl⟩⟩

end Go.Proofs.Ytmhcnekbfngafaa
