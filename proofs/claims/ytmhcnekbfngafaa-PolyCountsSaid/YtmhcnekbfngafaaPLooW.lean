/- poly.Loose: the walk. -/
import Derived.Test.YtmhcnekbfngafaaPLoo1
import Derived.Test.YtmhcnekbfngafaaPSmall
import Derived.Test.YtmhcnekbfngafaaPE
import Derived.Deep.LoopGhost
import Derived.Deep.Light
import Derived.BigQuiet
import Derived.Deep.RegionWith
namespace Go.Proofs.Ytmhcnekbfngafaa
open Go Go.RowKit

theorem LEnv.start {w3 wr : World} {N : Nat} {M : Nat → Nat} (h : MB w3 wr w3.heap.size (w3.heap.size + 1) N M) {W : World} (hW : W = wr.alloc (Obj.cells #[Value.func (.func 56) #[] #[.pointer (some ⟨wr.heap.size, 0, none⟩), .pointer (some ⟨w3.heap.size + 1, 0, none⟩)]] 81)) :
    LEnv W wr.heap.size (w3.heap.size + 1) w3.heap.size N M ∧ Below wr.heap.size wr W := by
  subst hW
  have hb := below1 wr (Obj.cells #[Value.func (.func 56) #[] #[.pointer (some ⟨wr.heap.size, 0, none⟩), .pointer (some ⟨w3.heap.size + 1, 0, none⟩)]] 81)
  refine ⟨⟨?_, below_cell hb h.cs, h.row.of_block (hb.block _ h.row.lt)⟩, hb⟩
  rw [World.cell?_alloc_at _ _ _ _ (by simp)]; rfl
theorem LEnv.set {w0 : World} {TT NN R N A k : Nat} {x : Value} {M : Nat → Nat} (h : LEnv w0 TT NN R N M) (h1 : A ≠ TT) (h2 : A ≠ NN) (h3 : A ≠ R) : LEnv (w0.setCell ⟨A, k, none⟩ x) TT NN R N M := by
  refine ⟨?_, ?_, h.row.setOther (a := ⟨A, k, none⟩) (Ne.symm h3) x⟩
  · rw [World.cell?_setCell_far _ _ _ _ h1]; exact h.ct
  · rw [World.cell?_setCell_far _ _ _ _ h2]; exact h.cn

/-- poly.Loose comes back. -/
def LooPost (n : Int) (l : List (Int × Int)) (w : World) (e : Ending) (w' : World) : Prop :=
  ∃ c a v, e = .returned (.tuple #[v, .agg #[.int .i64 c, .int .i64 a]]) ∧ SmallSpec n l 12 c a ∧ Below w.heap.size w w' ∧
    ((c ≠ 0 ∧ v = .slice none 0 0) ∨ (c = 0 ∧ a = 0 ∧ ∃ (N : Nat) (L : List Int), n = N ∧ IsCnt L (looA N (adj l) (2 ^ N - 1)) ∧ IsInts w' v L))

set_option maxHeartbeats 6400000 in
set_option maxRecDepth 100000 in
theorem ploose_any (n : Int) (l : List (Int × Int)) (sv : Value) (w : World) (h : IsEdges w sv l) :
    Calls Try.prog 20 #[.agg #[.int .i64 n, sv]] w (LooPost n l w) := by
  have hsv := h
  obtain ⟨ad, cap, bb, o, rfl, hcap, hmax, hadr, -, hcell⟩ := h
  have hg := GRes.start w n (.slice ad l.length cap)
  have He := Lib.hid hsv; have Hg := Lib.hid hg; have Hcell := Lib.hid hcell; have Hadr := Lib.hid hadr
  have cn := hg.cn
  have cs := hg.cs
  clear hsv hg  hcell hadr
  go_enter Try.func20, Try.ntmps20
  go_upto_region 1 with fail
  generalize (w.alloc (Obj.cells #[.int .i64 n, .slice ad l.length cap] 24)).alloc (Obj.cells #[Value.int IntKind.i64 0, Value.int IntKind.i64 0] 27) = w1 at *
  go_upto_region 2 with (go_at_call 53; refine (psmall_any n l _ w1 (He.out.below Hg.out.hb)).mono ?_; rintro e w2 ⟨c, a, hsp, rfl, hb2⟩; have Hsp := Lib.hid hsp; have H3 := Lib.hid (Hg.out.below (upc hb2 (below1 w2 (Obj.cells #[.int .i64 c, .int .i64 a] 27)))); have F3 := Lib.hid (FV.new w2 c a); clear hsp hb2)
  generalize w2.alloc (Obj.cells #[.int .i64 c, .int .i64 a] 27) = w3 at *
  generalize w2.heap.size = F at *
  clear cn cs Hg
  have cn := H3.out.cn
  have cs := H3.out.cs
  have hAB := H3.out.hA
  obtain ⟨f0, f1, -, -, -⟩ := F3.out.facts
  by_cases hc : c = 0
  · subst hc
    obtain ⟨rfl, hn0, hn1, hl1, hok⟩ := small_good Hsp.out
    obtain ⟨N, rfl⟩ := Int.eq_ofNat_of_zero_le hn0
    have hN : N ≤ 12 := by omega
    have Hok := Lib.hid hok
    clear hok hn0 hn1
    have hmk := run_make_row' (P := Try.prog) 39 3 (.int .i64 0) 8 Try.underlying39 info3 rfl .i64 .i64 N (by omega) (by omega)
    go_upto_region 5 with fail
    clear f0 f1 F3 hmk
    have Hst := Lib.hid (MB.start w3 N)
    have Hlt3 := Lib.hid (show w.heap.size < w3.heap.size from World.block_lt_of_cell? _ _ cn)
    have cs5 := below_cell (below2 w3 (.cells (madeCells #[.int .i64 0] N) 3) (Obj.cells #[.slice (some ⟨w3.heap.size, 0, none⟩) N N] 39)) cs
    have hcs := Hst.out.cs
    generalize (w3.alloc (.cells (madeCells #[.int .i64 0] N) 3)).alloc (Obj.cells #[.slice (some ⟨w3.heap.size, 0, none⟩) N N] 39) = w5 at *
    clear cn cs
    go_wp2
    clear cs5 hcs
    go_loopg [21] l.length (fun g s21 wr => ∃ q : Nat, q ≤ l.length ∧ g = l.length - q ∧ s21 = .int .i64 q ∧ MB w3 wr w3.heap.size (w3.heap.size + 1) N (near (l.take q) N))
    case atStart => exact ⟨0, Nat.zero_le _, rfl, rfl, by
      have e : (fun _ => 0) = near (l.take 0) N := by funext i; exact (near_nil N i).symm
      rw [← e]; exact Hst.out⟩
    case round =>
      obtain ⟨q, hq, rfl, rfl, hm⟩ := hrel
      by_cases hlt : q < l.length
      · obtain rfl := Hadr.out (by omega)
        obtain ⟨x, y, He2, cx, cy⟩ := edges_at Hcell.out (H3.out.hb.trans (hm.hb.mono H3.out.hb.size)) hlt
        have hk1 := Hok.out q hlt
        rw [He2.out] at hk1
        obtain ⟨⟨x0, y0, x1, y1⟩, hxy⟩ := hk1
        simp only at x0 y0 x1 y1 hxy
        obtain ⟨X, rfl⟩ := Int.eq_ofNat_of_zero_le x0
        obtain ⟨Y, rfl⟩ := Int.eq_ofNat_of_zero_le y0
        have hX : X < N := by omega
        have hY : Y < N := by omega
        have Hm := Lib.hid hm
        have Hxy := Lib.hid hxy
        clear hm hxy x0 y0 x1 y1
        go_wp2_with fail
        refine region_tail 10 (by kernel_rfl) (by kernel_rfl) ?_
        have g5 := (Hm.out.below (below1 wr (Obj.cells #[.int .i64 (X : Int), .int .i64 (Y : Int)] 61))).below (Below.refl _ _).drew
        have ce0 : (wr.alloc (Obj.cells #[.int .i64 (X : Int), .int .i64 (Y : Int)] 61)).drew.cell? ⟨wr.heap.size, 0, none⟩ = some (.int .i64 X) := (two_cells wr (.int .i64 X) (.int .i64 Y) 61).1
        have ce1 : (wr.alloc (Obj.cells #[.int .i64 (X : Int), .int .i64 (Y : Int)] 61)).drew.cell? ⟨wr.heap.size, 1, none⟩ = some (.int .i64 Y) := (two_cells wr (.int .i64 X) (.int .i64 Y) 61).2
        have l1 := Hm.out.row.lt
        have n1 : w3.heap.size ≠ wr.heap.size := by omega
        generalize wr.heap.size = E at *
        generalize (wr.alloc (Obj.cells #[.int .i64 (X : Int), .int .i64 (Y : Int)] 61)).drew = w7 at *
        have mX := maskOf_few (adj (l.take q) X) (show N ≤ 62 by omega)
        have mY := maskOf_few (adj (l.take q) Y) (show N ≤ 62 by omega)
        have tn : w7.cell? ⟨w3.heap.size + 1, 0, none⟩ = some (.slice (some ⟨w3.heap.size, 0, none⟩) N N) := g5.cs
        have t1 : w7.cell? ⟨w3.heap.size, X, none⟩ = some (.int .i64 (near (l.take q) N X : Int)) := g5.row.cell hX
        have f1 := g5.row.frozen X
        have e1 := op_shl (show Y < 62 by omega)
        have e2 := op_or mX (pow2_few (show Y < 62 by omega))
        have e3 := op_shl (show X < 62 by omega)
        have e4 := op_or mY (pow2_few (show X < 62 by omega))
        rw [show maskOf (adj (l.take q) X) N = near (l.take q) N X from rfl] at e2
        rw [show maskOf (adj (l.take q) Y) N = near (l.take q) N Y from rfl] at e4
        have g6 := (g5.set X (lor (near (l.take q) N X) (pow2 Y))).below (Below.refl _ _).drew
        have ce0' : (w7.setCell ⟨w3.heap.size, X, none⟩ (.int .i64 (lor (near (l.take q) N X) (pow2 Y) : Nat))).drew.cell? ⟨E, 0, none⟩ = some (.int .i64 X) := by
          show (w7.setCell ⟨w3.heap.size, X, none⟩ _).cell? _ = _
          rw [World.cell?_setCell_far _ _ _ _ n1]; exact ce0
        have ce1' : (w7.setCell ⟨w3.heap.size, X, none⟩ (.int .i64 (lor (near (l.take q) N X) (pow2 Y) : Nat))).drew.cell? ⟨E, 1, none⟩ = some (.int .i64 Y) := by
          show (w7.setCell ⟨w3.heap.size, X, none⟩ _).cell? _ = _
          rw [World.cell?_setCell_far _ _ _ _ n1]; exact ce1
        have tn' := g6.cs
        have t2 := g6.row.cell hY
        simp only [rn, if_neg (show ¬ Y = X by have := Hxy.out; omega)] at t2
        have f2 := g6.row.frozen Y
        have G8 := Lib.hid (g6.set Y (lor (near (l.take q) N Y) (pow2 X)))
        have Ce := Lib.hid (And.intro ce0' (And.intro ce1' (And.intro t2 (And.intro f2 tn'))))
        have E34 := Lib.hid (And.intro e3 e4)
        clear g5 g6 cx cy ce0' ce1' t2 f2 e3 e4 mX mY tn'
        simp only [List.take_succ_cons, List.take_zero, List.drop_succ_cons, List.drop_zero]
        repeat still_step
        refine wpStill_nil ?_
        go_wp2_with fail
        refine region_tail 10 (by kernel_rfl) (by kernel_rfl) ?_
        clear t1 f1 ce0 ce1 e1 e2 tn
        generalize (w7.setCell ⟨w3.heap.size, X, none⟩ (.int .i64 (lor (near (l.take q) N X) (pow2 Y) : Nat))).drew = w9 at *
        obtain ⟨ce0, ce1, t2, f2, tn⟩ := Ce.out
        obtain ⟨e3, e4⟩ := E34.out
        simp only [List.take_succ_cons, List.take_zero, List.drop_succ_cons, List.drop_zero]
        repeat still_step
        refine wpStill_nil ?_
        go_wp2
        go_roundg (l.length - (q + 1))
        case measure => go_light; omega
        case rel => exact ⟨q + 1, by omega, rfl, by go_num, by
          refine ⟨G8.out.hb, G8.out.up, G8.out.ne, G8.out.cs, row_rn G8.out.row fun i _ => ?_⟩
          exact near_succ hlt He2.out hX hY (by have := Hxy.out; omega) i⟩
      · obtain rfl : l.length = q := by omega
        rw [List.take_length] at hm
        have Hm := Lib.hid hm
        clear hm
        have hfn := run_store_fn (P := Try.prog) (wr.alloc (Obj.cells #[Value.nilFunc] 81)) ⟨wr.heap.size, 0, none⟩ (.func 56) #[] #[.pointer (some ⟨wr.heap.size, 0, none⟩), .pointer (some ⟨w3.heap.size + 1, 0, none⟩)]
        have H5 := Lib.hid (H3.out.below Hm.out.hb)
        have hlw := World.block_lt_of_cell? _ _ H5.out.cn
        simp only at hlw
        have Hc0 := Lib.hid (LEnv.start (W := wr.alloc (Obj.cells #[Value.func (.func 56) #[] #[.pointer (some ⟨wr.heap.size, 0, none⟩), .pointer (some ⟨w3.heap.size + 1, 0, none⟩)]] 81)) Hm.out rfl)
        go_upto_region 13 with fail
        clear hfn
        generalize wr.alloc (Obj.cells #[Value.func (.func 56) #[] #[.pointer (some ⟨wr.heap.size, 0, none⟩), .pointer (some ⟨w3.heap.size + 1, 0, none⟩)]] 81) = w6 at *
        obtain ⟨hce, hb6⟩ := Hc0.out
        have Hce := Lib.hid hce; have H6 := Lib.hid (H5.out.below hb6)
        have hsz6 := hb6.size
        have ct := hce.ct
        have cn := H6.out.cn
        have b0 := H6.out.hz.cell (show 0 < 2 by omega)
        have b1 := H6.out.hz.cell (show 1 < 2 by omega)
        have d0 := H6.out.hz.frozen 0
        have d1 := H6.out.hz.frozen 1
        have hBl := H6.out.hz.lt
        have hH := H5.out.hz.lt
        have e1 := op_shl (show N < 62 by omega)
        have hp : pow2 N ≤ 4096 := by unfold pow2; exact Nat.pow_le_pow_right (n := 2) (by decide) hN
        have hp0 : 0 < pow2 N := Nat.two_pow_pos N
        have e2 : IntKind.i64.wrap ((pow2 N : Int) - 1) = ((pow2 N - 1 : Nat) : Int) := by rw [show (pow2 N : Int) - 1 = ((pow2 N - 1 : Nat) : Int) by omega]; exact wrap_nat (by omega)
        have hPlt : pow2 N - 1 < 2 ^ N := by show 2 ^ N - 1 < 2 ^ N; have := Nat.two_pow_pos N; omega
        have hno := adj_self fun j hj => (Hok.out j hj).2
        have HC := Lib.hid (fun W (hW : LEnv W wr.heap.size (w3.heap.size + 1) w3.heap.size N (near l N)) => ploo1_any hN hno hW (2 ^ N) (pow2 N - 1) W hPlt hPlt (Below.refl _ _))
        have hne3 : w.heap.size + 1 < w3.heap.size := by
          have := H3.out.hz.lt
          omega
        have Hset := Lib.hid (fun W k x (hW : LEnv W wr.heap.size (w3.heap.size + 1) w3.heap.size N (near l N)) => hW.set (A := w.heap.size + 1) (k := k) (x := x) (by omega) (by omega) (by omega))
        have HD := Lib.hid (fun W (hW : LEnv W wr.heap.size (w3.heap.size + 1) w3.heap.size N (near l N)) => hW.below (Below.refl _ W).drew)
        clear hce hb6 Hc0 hp hp0 hPlt hno
        go_region_with (go_at_call 56; refine (HC.out _ (by first | exact HD.out _ Hce.out | exact Hset.out _ _ _ (Hset.out _ _ _ (HD.out _ Hce.out)) | exact HD.out _ (Hset.out _ _ _ (Hset.out _ _ _ Hce.out)))).mono ?_; rintro e w8 ⟨v8, L8, rfl, hL8, -, ho8, hb8⟩; have HL8 := Lib.hid hL8; have Ho8 := Lib.hid ho8; have Hb8 := Lib.hid hb8; clear hL8 ho8 hb8; first | (have H8 := Lib.hid (H6.out.below ((Below.refl _ _).drew.trans Hb8.out)); have b80 := H8.out.hz.cell (show 0 < 2 by omega); have b81 := H8.out.hz.cell (show 1 < 2 by omega); have d80 := H8.out.hz.frozen 0; have d81 := H8.out.hz.frozen 1; have hB8 := H8.out.hz.lt) | skip)
        all_goals
          obtain ⟨e0, e1, e2⟩ := H8.out.put (.int .i64 0) (.int .i64 0)
          go_wp2
          have hi := IsInts.owned Ho8.out
          have hne : ∀ g, v8.ownBlock = some g → w.heap.size + 1 ≠ g := fun g e => by
            have h1 := (World.ownsRow.lt Ho8.out g e).1
            have h2 := H6.out.hz.lt
            have h3 : w6.drew.heap.size = w6.heap.size := rfl
            omega
          exact bodyPost_ret (v := .tuple #[v8, .agg #[.int .i64 0, .int .i64 0]]) (by simp [results, Try.results20, go_sem, e0, e1]) rfl ⟨0, 0, _, rfl, Hsp.out, e2, Or.inr ⟨rfl, rfl, N, L8, rfl, HL8.out, (hi.setOff hne).setOff hne⟩⟩
  · have q : (c != 0) = true := by simp [hc]
    have Hc := Lib.hid hc
    clear hc
    have b0 := H3.out.hz.cell (show 0 < 2 by omega)
    have b1 := H3.out.hz.cell (show 1 < 2 by omega)
    have d0 := H3.out.hz.frozen 0
    have d1 := H3.out.hz.frozen 1
    have hBl := H3.out.hz.lt
    go_wp2
    go_region
    all_goals
      obtain ⟨e0, e1, e2⟩ := H3.out.put (.int .i64 c) (.int .i64 a)
      go_wp2
      exact bodyPost_ret (v := .tuple #[.slice none 0 0, .agg #[.int .i64 c, .int .i64 a]]) (by simp [results, Try.results20, go_sem, e0, e1]) rfl ⟨c, a, _, rfl, Hsp.out, e2.drew, Or.inl ⟨Hc.out, rfl⟩⟩

end Go.Proofs.Ytmhcnekbfngafaa
