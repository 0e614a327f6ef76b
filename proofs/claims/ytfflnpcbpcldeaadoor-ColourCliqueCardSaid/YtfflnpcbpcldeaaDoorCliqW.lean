/- colour.Clique: the walk. -/
import Derived.Test.YtfflnpcbpcldeaaDoorCliq1
import Derived.Test.YtfflnpcbpcldeaaDoorSmallC
import Derived.Test.YtfflnpcbpcldeaaDoorOwn
import Derived.Deep.LoopGhost
import Derived.Deep.Light
import Derived.BigQuiet
namespace Go.Proofs.YtfflnpcbpcldeaaDoor
open Go Go.RowKit

/-- The masks under way, where their slice lies in a variable of its own. -/
structure MB (w0 wr : World) (R NN N : Nat) (M : Nat → Nat) : Prop where
  hb : Below w0.heap.size w0 wr
  up : w0.heap.size ≤ R
  ne : R < NN
  cs : wr.cell? ⟨NN, 0, none⟩ = some (.slice (some ⟨R, 0, none⟩) N N)
  row : wr.rowIs R 3 N (rn M)
theorem MB.below {w0 wr w' : World} {R NN N : Nat} {M : Nat → Nat} (h : MB w0 wr R NN N M) (hb : Below wr.heap.size wr w') : MB w0 w' R NN N M :=
  ⟨h.hb.trans (hb.mono h.hb.size), h.up, h.ne, below_cell hb h.cs, h.row.of_block (hb.block _ h.row.lt)⟩
theorem MB.set {w0 wr : World} {R NN N : Nat} {M : Nat → Nat} (h : MB w0 wr R NN N M) (x y : Nat) : MB w0 (wr.setCell ⟨R, x, none⟩ (.int .i64 (y : Int))) R NN N (fun i => if i = x then y else M i) := by
  have := h.up
  have := h.ne
  refine ⟨h.hb.setCell (show w0.heap.size ≤ R by omega) _, h.up, h.ne, ?_, row_set_rn h.row x y⟩
  rw [World.cell?_setCell_far _ _ _ _ (show R ≠ NN by omega)]; exact h.cs
theorem MB.start (w : World) (N : Nat) : MB w ((w.alloc (.cells (madeCells #[.int .i64 0] N) 3)).alloc (Obj.cells #[.slice (some ⟨w.heap.size, 0, none⟩) N N] 29)) w.heap.size (w.heap.size + 1) N (fun _ => 0) := by
  have h1 := World.rowIs_made w (.int .i64 0) N 3
  refine ⟨below2 _ _ _, Nat.le_refl _, by omega, ?_, (h1.of_block ((below1 _ _).block _ h1.lt)).congr fun i _ => rfl⟩
  rw [World.cell?_alloc_at _ _ _ _ (by simp)]; rfl

theorem run_store_fn {P : Program} (w : World) (a : Addr) (f : Fn) (ts cs : Array Value) : (store a (.func f ts cs) .plain).run P w = stored P w a (.func f ts cs) .plain := run_store P w a _ _ rfl

/-- What the function literal finds as it begins. -/
theorem CEnv.start {w3 wr : World} {N : Nat} {M : Nat → Nat} (h : MB w3 wr w3.heap.size (w3.heap.size + 1) N M) (hT : TabAt 1 Lib.deBruijn64tab wr) (h1 : 1 < wr.heap.size) {W : World} (hW : W = ((wr.alloc (Obj.cells #[Value.int IntKind.i64 (-1)] 3)).alloc (Obj.cells #[Value.func (.func 32) #[] #[.pointer (some ⟨wr.heap.size, 0, none⟩), .pointer (some ⟨wr.heap.size + 1, 0, none⟩), .pointer (some ⟨w3.heap.size + 1, 0, none⟩)]] 56))) :
    CEnv W wr.heap.size (wr.heap.size + 1) (w3.heap.size + 1) w3.heap.size N M ∧ CW W W wr.heap.size none ∧ Below wr.heap.size wr W := by
  subst hW
  have hb := below2 wr (Obj.cells #[Value.int IntKind.i64 (-1)] 3) (Obj.cells #[Value.func (.func 32) #[] #[.pointer (some ⟨wr.heap.size, 0, none⟩), .pointer (some ⟨wr.heap.size + 1, 0, none⟩), .pointer (some ⟨w3.heap.size + 1, 0, none⟩)]] 56)
  have l0 := h.row.lt
  have l2 := World.block_lt_of_cell? _ _ h.cs
  simp only at l2
  have r1 := World.rowIs_alloc wr #[Value.int IntKind.i64 (-1)] 3 (ri fun _ => bvI none) (fun i hi => by
    match i, hi with
    | 0, _ => rfl)
  refine ⟨⟨?_, below_cell hb h.cs, h.row.of_block (hb.block _ l0), fun j hj => below_cell hb (hT j hj), by omega, by omega, by omega, by omega⟩, ⟨Chg.refl _ _, r1.of_block ((below1 _ _).block _ r1.lt)⟩, hb⟩
  rw [World.cell?_alloc_at _ _ _ _ (by simp)]; rfl

theorem GRes.chg {w wr w' : World} {A B K : Nat} {n : Int} {s : Value} (h : GRes w wr A B n s) (hc : Chg (· = K) wr w') (hK : B < K) (hw : w.heap.size ≤ K) : GRes w w' A B n s := by
  have hA := h.hA
  have hs := h.hb.size
  refine ⟨h.hb.trans (hc.toBelow hs fun k hk => ?_), hc.cell h.cn (show ¬ A = K by omega), hc.cell h.cs (show ¬ A = K by omega), hc.rowIs h.hz (show ¬ B = K by omega), h.hB, h.hA⟩
  show ¬ k = K
  omega

theorem IsInts.setOff {w : World} {v : Value} {l : List Int} {B k : Nat} {x : Value} (h : IsInts w v l) (hv : ∀ g, v.ownBlock = some g → B ≠ g) : IsInts (w.setCell ⟨B, k, none⟩ x) v l := by
  obtain ⟨a, cap, b, o, rfl, h1, h2, h3, h4, h5⟩ := h
  refine ⟨a, cap, b, o, rfl, h1, h2, h3, h4, fun j hj => ?_⟩
  obtain rfl := h3 (by omega)
  rw [World.cell?_setCell_far _ _ _ _ (hv b rfl)]
  exact h5 j hj

/-- colour.Clique comes back. -/
def CliqPost (n : Int) (l : List (Int × Int)) (w : World) (e : Ending) (w' : World) : Prop :=
  ∃ c a v, e = .returned (.tuple #[v, .agg #[.int .i64 c, .int .i64 a]]) ∧ SmallSpec n l 24 c a ∧ Below w.heap.size w w' ∧
    ((c ≠ 0 ∧ v = .slice none 0 0) ∨ (c = 0 ∧ a = 0 ∧ ∃ N S : Nat, n = N ∧ Best (card 24) (FamA (adj l) 0 (2 ^ N - 1)) S ∧ IsInts w' v (ints (bitsL N S))))
theorem graph_good {n : Int} {l : List (Int × Int)} {a : Int} (h : GraphSpec n l 0 a) : a = 0 ∧ 0 ≤ n ∧ n ≤ 100 ∧ l.length ≤ 1000 ∧ ∀ j, j < l.length → EndsOk n (l.getD j (0, 0)) ∧ (l.getD j (0, 0)).1 ≠ (l.getD j (0, 0)).2 := by
  rcases h with ⟨_, h, _⟩ | ⟨hb, ⟨_, _, _, hw, _⟩ | ⟨h, _, h2⟩⟩
  · cases h
  · exact absurd rfl hw.ne0
  · unfold TooBig at hb
    exact ⟨h2, by omega, by omega, by omega, fun j hj => ⟨(h j hj).1, (h j hj).2.1⟩⟩

set_option maxHeartbeats 6400000 in
set_option maxRecDepth 100000 in
theorem clique_any (n : Int) (l : List (Int × Int)) (sv : Value) (w : World) (h : IsEdges w sv l) (hT : TabAt 1 Lib.deBruijn64tab w) :
    Calls Tryd.prog 18 #[.agg #[.int .i64 n, sv]] w (CliqPost n l w) := by
  have hsv := h
  obtain ⟨ad, cap, bb, o, rfl, hcap, hmax, hadr, -, hcell⟩ := h
  have hg := GRes.start w n (.slice ad l.length cap)
  have He := Lib.hid hsv; have Hg := Lib.hid hg; have HT := Lib.hid hT; have Hcell := Lib.hid hcell; have Hadr := Lib.hid hadr
  have cn := hg.cn
  have cs := hg.cs
  clear hsv hg hT hcell hadr
  go_enter Tryd.func18, Tryd.ntmps18
  go_upto_region 1 with fail
  generalize (w.alloc (Obj.cells #[.int .i64 n, .slice ad l.length cap] 24)).alloc (Obj.cells #[Value.int IntKind.i64 0, Value.int IntKind.i64 0] 27) = w1 at *
  go_upto_region 2 with (go_at_call 30; refine (gcheck_any l n _ w1 (He.out.below Hg.out.hb)).mono ?_; rintro e w2 ⟨c, a, hsp, rfl, hb2⟩; have Hsp := Lib.hid hsp; have H3 := Lib.hid (Hg.out.below (upc hb2 (below1 w2 (Obj.cells #[.int .i64 c, .int .i64 a] 27)))); have F3 := Lib.hid (FV.new w2 c a); clear hsp hb2)
  generalize w2.alloc (Obj.cells #[.int .i64 c, .int .i64 a] 27) = w3 at *
  generalize w2.heap.size = F at *
  clear cn cs Hg
  have cn := H3.out.cn
  have cs := H3.out.cs
  have hAB := H3.out.hA
  obtain ⟨f0, f1, -, -, -⟩ := F3.out.facts
  by_cases hc : c = 0
  · subst hc
    obtain ⟨rfl, hn0, -, hl1, hok⟩ := graph_good Hsp.out
    obtain ⟨N, rfl⟩ := Int.eq_ofNat_of_zero_le hn0
    by_cases hN : 24 < N
    · have hNi : (24 : Int) < (N : Int) := by omega
      have Hn := Lib.hid hNi
      have b0 := H3.out.hz.cell (show 0 < 2 by omega)
      have b1 := H3.out.hz.cell (show 1 < 2 by omega)
      have d0 := H3.out.hz.frozen 0
      have d1 := H3.out.hz.frozen 1
      have hBl := H3.out.hz.lt
      go_wp2_with (go_at_call 31; refine (cfault_any _ _ _).mono ?_; rintro e wf ⟨rfl, rfl⟩)
      obtain ⟨e0, e1, e2⟩ := H3.out.putA (.int .i64 2) (.int .i64 0) (Obj.cells #[Value.int .i64 2, .int .i64 0] 27)
      exact bodyPost_ret (v := .tuple #[.slice none 0 0, .agg #[.int .i64 2, .int .i64 0]]) (by simp [results, Tryd.results18, go_sem, e0, e1]) rfl ⟨2, 0, _, rfl, Or.inr ⟨Hsp.out, Or.inl ⟨Hn.out, rfl, rfl⟩⟩, e2, Or.inl ⟨by decide, rfl⟩⟩
    · have hN24 : N ≤ 24 := by omega
      have hNi : ¬ (24 : Int) < (N : Int) := by omega
      have Hok := Lib.hid hok
      clear hok hn0
      have hmk := run_make_row' (P := Tryd.prog) 29 3 (.int .i64 0) 8 Tryd.underlying29 info3 rfl .i64 .i64 N (by omega) (by omega)
      go_upto_region 7 with fail
      clear f0 f1 F3 hmk
      have Hst := Lib.hid (MB.start w3 N)
      have Hlt3 := Lib.hid (show w.heap.size < w3.heap.size from World.block_lt_of_cell? _ _ cn)
      have cs5 := below_cell (below2 w3 (.cells (madeCells #[.int .i64 0] N) 3) (Obj.cells #[.slice (some ⟨w3.heap.size, 0, none⟩) N N] 29)) cs
      have hcs := Hst.out.cs
      generalize (w3.alloc (.cells (madeCells #[.int .i64 0] N) 3)).alloc (Obj.cells #[.slice (some ⟨w3.heap.size, 0, none⟩) N N] 29) = w5 at *
      clear cn cs
      go_wp2
      clear cs5 hcs
      go_loopg [28] l.length (fun g s28 wr => ∃ q : Nat, q ≤ l.length ∧ g = l.length - q ∧ s28 = .int .i64 q ∧ MB w3 wr w3.heap.size (w3.heap.size + 1) N (near (l.take q) N))
      case atStart => exact ⟨0, Nat.zero_le _, rfl, rfl, by
        have e : (fun _ => 0) = near (l.take 0) N := by funext i; exact (near_nil N i).symm
        rw [← e]; exact Hst.out⟩
      case round =>
        obtain ⟨q, hq, rfl, rfl, hm⟩ := hrel
        by_cases hlt : q < l.length
        · obtain rfl := Hadr.out (by omega)
          obtain ⟨x, y, He2, cx, cy⟩ := edges_at Hcell.out (H3.out.hb.trans (hm.hb.mono H3.out.hb.size)) hlt
          have hk1 := Hok.out q hlt
          rw [He2.out] at hk1
          obtain ⟨⟨x0, y0, x1, y1⟩, hxy⟩ := hk1
          simp only at x0 y0 x1 y1 hxy
          obtain ⟨X, rfl⟩ := Int.eq_ofNat_of_zero_le x0
          obtain ⟨Y, rfl⟩ := Int.eq_ofNat_of_zero_le y0
          have hX : X < N := by omega
          have hY : Y < N := by omega
          have Hm := Lib.hid hm
          have Hxy := Lib.hid hxy
          clear hm hxy x0 y0 x1 y1
          go_wp2_with fail
          refine region_tail 10 (by kernel_rfl) (by kernel_rfl) ?_
          have g5 := (Hm.out.below (below1 wr (Obj.cells #[.int .i64 (X : Int), .int .i64 (Y : Int)] 52))).below (Below.refl _ _).drew
          have ce0 : (wr.alloc (Obj.cells #[.int .i64 (X : Int), .int .i64 (Y : Int)] 52)).drew.cell? ⟨wr.heap.size, 0, none⟩ = some (.int .i64 X) := (two_cells wr (.int .i64 X) (.int .i64 Y) 52).1
          have ce1 : (wr.alloc (Obj.cells #[.int .i64 (X : Int), .int .i64 (Y : Int)] 52)).drew.cell? ⟨wr.heap.size, 1, none⟩ = some (.int .i64 Y) := (two_cells wr (.int .i64 X) (.int .i64 Y) 52).2
          have l1 := Hm.out.row.lt
          have n1 : w3.heap.size ≠ wr.heap.size := by omega
          generalize wr.heap.size = E at *
          generalize (wr.alloc (Obj.cells #[.int .i64 (X : Int), .int .i64 (Y : Int)] 52)).drew = w7 at *
          have mX := maskOf_few (adj (l.take q) X) (show N ≤ 62 by omega)
          have mY := maskOf_few (adj (l.take q) Y) (show N ≤ 62 by omega)
          have tn : w7.cell? ⟨w3.heap.size + 1, 0, none⟩ = some (.slice (some ⟨w3.heap.size, 0, none⟩) N N) := g5.cs
          have t1 : w7.cell? ⟨w3.heap.size, X, none⟩ = some (.int .i64 (near (l.take q) N X : Int)) := g5.row.cell hX
          have f1 := g5.row.frozen X
          have e1 := op_shl (show Y < 62 by omega)
          have e2 := op_or mX (pow2_few (show Y < 62 by omega))
          have e3 := op_shl (show X < 62 by omega)
          have e4 := op_or mY (pow2_few (show X < 62 by omega))
          rw [show maskOf (adj (l.take q) X) N = near (l.take q) N X from rfl] at e2
          rw [show maskOf (adj (l.take q) Y) N = near (l.take q) N Y from rfl] at e4
          have g6 := (g5.set X (lor (near (l.take q) N X) (pow2 Y))).below (Below.refl _ _).drew
          have ce0' : (w7.setCell ⟨w3.heap.size, X, none⟩ (.int .i64 (lor (near (l.take q) N X) (pow2 Y) : Nat))).drew.cell? ⟨E, 0, none⟩ = some (.int .i64 X) := by
            show (w7.setCell ⟨w3.heap.size, X, none⟩ _).cell? _ = _
            rw [World.cell?_setCell_far _ _ _ _ n1]; exact ce0
          have ce1' : (w7.setCell ⟨w3.heap.size, X, none⟩ (.int .i64 (lor (near (l.take q) N X) (pow2 Y) : Nat))).drew.cell? ⟨E, 1, none⟩ = some (.int .i64 Y) := by
            show (w7.setCell ⟨w3.heap.size, X, none⟩ _).cell? _ = _
            rw [World.cell?_setCell_far _ _ _ _ n1]; exact ce1
          have tn' := g6.cs
          have t2 := g6.row.cell hY
          simp only [rn, if_neg (show ¬ Y = X by have := Hxy.out; omega)] at t2
          have f2 := g6.row.frozen Y
          have G8 := Lib.hid (g6.set Y (lor (near (l.take q) N Y) (pow2 X)))
          have Ce := Lib.hid (And.intro ce0' (And.intro ce1' (And.intro t2 (And.intro f2 tn'))))
          have E34 := Lib.hid (And.intro e3 e4)
          clear g5 g6 cx cy ce0' ce1' t2 f2 e3 e4 mX mY tn'
          simp only [List.take_succ_cons, List.take_zero, List.drop_succ_cons, List.drop_zero]
          repeat still_step
          refine wpStill_nil ?_
          go_wp2_with fail
          refine region_tail 10 (by kernel_rfl) (by kernel_rfl) ?_
          clear t1 f1 ce0 ce1 e1 e2 tn
          generalize (w7.setCell ⟨w3.heap.size, X, none⟩ (.int .i64 (lor (near (l.take q) N X) (pow2 Y) : Nat))).drew = w9 at *
          obtain ⟨ce0, ce1, t2, f2, tn⟩ := Ce.out
          obtain ⟨e3, e4⟩ := E34.out
          simp only [List.take_succ_cons, List.take_zero, List.drop_succ_cons, List.drop_zero]
          repeat still_step
          refine wpStill_nil ?_
          go_wp2
          go_roundg (l.length - (q + 1))
          case measure => go_light; omega
          case rel => exact ⟨q + 1, by omega, rfl, by go_num, by
            refine ⟨G8.out.hb, G8.out.up, G8.out.ne, G8.out.cs, row_rn G8.out.row fun i _ => ?_⟩
            exact near_succ hlt He2.out hX hY (by have := Hxy.out; omega) i⟩
        · obtain rfl : l.length = q := by omega
          rw [List.take_length] at hm
          have Hm := Lib.hid hm
          clear hm
          have hfn := run_store_fn (P := Tryd.prog) ((wr.alloc (Obj.cells #[Value.int IntKind.i64 (-1)] 3)).alloc (Obj.cells #[Value.nilFunc] 56)) ⟨wr.heap.size + 1, 0, none⟩ (.func 32) #[] #[.pointer (some ⟨wr.heap.size, 0, none⟩), .pointer (some ⟨wr.heap.size + 1, 0, none⟩), .pointer (some ⟨w3.heap.size + 1, 0, none⟩)]
          have H5 := Lib.hid (H3.out.below Hm.out.hb)
          have hTw := TabAt.below (g := 1) HT.out H5.out.hb
          have h1w : 1 < wr.heap.size := by
            have := World.block_lt_of_cell? _ _ (hTw 0 (by decide))
            exact this
          have hlw := World.block_lt_of_cell? _ _ H5.out.cn
          simp only at hlw
          have Hc0 := Lib.hid (CEnv.start Hm.out hTw h1w rfl)
          clear hTw
          go_upto_region 16 with fail
          clear hfn
          generalize (wr.alloc (Obj.cells #[Value.int IntKind.i64 (-1)] 3)).alloc (Obj.cells #[Value.func (.func 32) #[] #[.pointer (some ⟨wr.heap.size, 0, none⟩), .pointer (some ⟨wr.heap.size + 1, 0, none⟩), .pointer (some ⟨w3.heap.size + 1, 0, none⟩)]] 56) = w6 at *
          obtain ⟨hce, hcw, hb6⟩ := Hc0.out
          have Hce := Lib.hid hce; have Hcw := Lib.hid hcw; have H6 := Lib.hid (H5.out.below hb6)
          have hsz6 := hb6.size
          clear hce hcw hb6 Hc0
          refine region_tail 5 (by kernel_rfl) (by kernel_rfl) ?_
          have Hcw7 := Lib.hid Hcw.out.drew
          have H7 := Lib.hid (H6.out.below (Below.refl _ _).drew)
          generalize w6.drew = w7 at *
          obtain ⟨ct, -, -, -, -, -⟩ := Hcw7.out.facts Hce.out
          have cn := H7.out.cn
          have e1 := op_shl (show N < 62 by omega)
          have hp : pow2 N ≤ 16777216 := by unfold pow2; exact Nat.pow_le_pow_right (n := 2) (by decide) hN24
          have hp0 : 0 < pow2 N := Nat.two_pow_pos N
          have e2 : IntKind.i64.wrap ((pow2 N : Int) - 1) = ((pow2 N - 1 : Nat) : Int) := by rw [show (pow2 N : Int) - 1 = ((pow2 N - 1 : Nat) : Int) by omega]; exact wrap_nat (by omega)
          have HPe := Lib.hid (show pow2 N - 1 = 2 ^ N - 1 from rfl)
          have hPlt := Lib.hid (show pow2 N - 1 < 2 ^ N by show 2 ^ N - 1 < 2 ^ N; have := Nat.two_pow_pos N; omega)
          simp only [List.take_succ_cons, List.take_zero, List.drop_succ_cons, List.drop_zero]
          repeat still_step
          refine wpStill_nil ?_
          go_upto_region 17 with (go_at_call 32; refine (clique1_any hN24 (adj_self fun j hj => (Hok.out j hj).2) Hce.out (2 ^ N) 0 (pow2 N - 1) none w7 hPlt.out (InvA.start _) (Nat.two_pow_pos N) hPlt.out (fun m hm => by cases hm) Hcw7.out).mono ?_; rintro e w8 ⟨rfl, b8, h8, r8, m8⟩)
          obtain ⟨S, rfl, hbest⟩ : ∃ S, b8 = some S ∧ Best (card 24) (FamA (adj l) 0 (pow2 N - 1)) S := by
            rcases r8 with ⟨-, B, h, -⟩ | ⟨S, h, -, h2⟩
            · cases h
            · exact ⟨S, h, h2⟩
          have hS := m8 S rfl
          have hS24 : S < 16777216 := by have := HPe.out; have : 2 ^ N ≤ 16777216 := hp; omega
          have Hbest := Lib.hid hbest
          have hBK : w.heap.size + 1 < wr.heap.size := H5.out.hz.lt
          have H8 := Lib.hid (H6.out.chg h8.ch hBK (by omega))
          have cb := h8.cb.cell (show 0 < 1 by omega)
          simp only [ri, bvI] at cb
          have Cb := Lib.hid cb
          have cn := H8.out.cn
          clear r8 hbest hS h8 cb hp e1 e2 hp0 m8 hPlt cn ct
          have cn := H8.out.cn
          go_wp2
          clear cn
          go_loopg [10, 62] N (fun g s10 s62 wx => ∃ k : Nat, k ≤ N ∧ g = N - k ∧ s62 = .int .i64 (k : Int) ∧ wx.ownsRow w8.heap.size 3 1 s10 (bitsL k S).length ((ints (bitsL k S)).map (Value.int .i64)) ∧ Below w8.heap.size w8 wx)
          case atStart => exact ⟨0, Nat.zero_le _, rfl, rfl, World.ownsRow_nil _ _ _ _, Below.refl _ _⟩
          case round =>
            obtain ⟨k, hk, rfl, rfl, hown, hb2⟩ := hrel
            have Hown := Lib.hid hown; have Hb2 := Lib.hid hb2
            have hsz2 := hb2.size
            obtain ⟨a0, c0, rfl⟩ := ownsRow_form hown
            have hll : (bitsL k S).length ≤ k := by rw [bitsL_len]; exact card_le k S
            have cb := below_cell hb2 Cb.out
            have e1 := op_shr S k
            have e2 := op_bit (v := k) (few_24 hS24)
            by_cases hlt : k < N
            · clear hown hb2
              cases hbit : S.testBit k with
              | true =>
                have Hl := Lib.hid hbit
                rw [bit_one hbit, show ((1 : Nat) : Int) = 1 from rfl] at e2
                clear hbit
                generalize shr S k = sk at *
                go_wp2_with (at_builtin; refine wpList_append_has rfl (.tmp 70) (.tmp 72) 29 rfl w8.heap.size 3 (.int .i64 0) 8 Tryd.underlying29 info3 rfl _ (bitsL k S).length ((ints (bitsL k S)).map (Value.int .i64)) rfl (Hown.out.alloc _) _ 1 [.int .i64 (k : Int)] rfl (HasCells.one _ _ _ rfl) (by omega) (by omega) (by simp; omega) ?_; intro a2 c2 w2 hown2 hg2; have Hown2 := Lib.hid hown2; have Hg2 := Lib.hid ((Hb2.out.alloc hsz2 (Obj.cells #[Value.int .i64 (k : Int)] 3)).grown hg2 (by rw [World.size_alloc]; omega) (fun g e => (Hown.out.lt g e).1)); clear hown2 hg2)
                go_roundg (N - (k + 1))
                case measure => go_light; omega
                case rel => exact ⟨k + 1, by omega, rfl, by go_num, by
                  rw [bitsL_succ, if_pos Hl.out, List.length_append, ints_snoc, List.map_append]
                  exact Hown2.out, Hg2.out⟩
              | false =>
                have Hl := Lib.hid hbit
                rw [bit_zero hbit, show ((0 : Nat) : Int) = 0 from rfl] at e2
                clear hbit
                generalize shr S k = sk at *
                go_wp2
                go_roundg (N - (k + 1))
                case measure => go_light; omega
                case rel => exact ⟨k + 1, by omega, rfl, by go_num, by
                  rw [bitsL_succ, if_neg (by rw [Hl.out]; decide)]
                  exact Hown.out, Hb2.out⟩
            · obtain rfl : k = N := by omega
              clear hown hb2 e1 e2 cb
              have H9 := Lib.hid (H8.out.below Hb2.out)
              have b0 := H9.out.hz.cell (show 0 < 2 by omega)
              have b1 := H9.out.hz.cell (show 1 < 2 by omega)
              have d0 := H9.out.hz.frozen 0
              have d1 := H9.out.hz.frozen 1
              have hBl := H9.out.hz.lt
              go_wp2
              obtain ⟨e0, e1, e2⟩ := H9.out.put (.int .i64 0) (.int .i64 0)
              exact bodyPost_ret (v := .tuple #[.slice a0 (bitsL k S).length c0, .agg #[.int .i64 0, .int .i64 0]]) (by simp [results, Tryd.results18, go_sem, e0, e1]) rfl ⟨0, 0, _, rfl, Or.inr ⟨Hsp.out, Or.inr ⟨by omega, rfl, rfl⟩⟩, e2, Or.inr ⟨rfl, rfl, k, S, rfl, by rw [← HPe.out]; exact Hbest.out, by
                have hi := IsInts.owned (w := wr) (base := w8.heap.size) (e := 3) (n := (bitsL k S).length) (l := ints (bitsL k S)) Hown.out
                have hne : ∀ g, (Value.slice a0 (bitsL k S).length c0).ownBlock = some g → w.heap.size + 1 ≠ g := fun g e => by
                  have := (Hown.out.lt g e).1
                  have := H8.out.hz.lt
                  omega
                exact (hi.setOff hne).setOff hne⟩⟩
  · have q : (c != 0) = true := by simp [hc]
    have Hc := Lib.hid hc
    clear hc
    have b0 := H3.out.hz.cell (show 0 < 2 by omega)
    have b1 := H3.out.hz.cell (show 1 < 2 by omega)
    have d0 := H3.out.hz.frozen 0
    have d1 := H3.out.hz.frozen 1
    have hBl := H3.out.hz.lt
    go_wp2
    go_region
    all_goals
      obtain ⟨e0, e1, e2⟩ := H3.out.put (.int .i64 c) (.int .i64 a)
      go_wp2
      exact bodyPost_ret (v := .tuple #[.slice none 0 0, .agg #[.int .i64 c, .int .i64 a]]) (by simp [results, Tryd.results18, go_sem, e0, e1]) rfl ⟨c, a, _, rfl, Or.inl ⟨Hsp.out, Hc.out⟩, e2.drew, Or.inl ⟨Hc.out, rfl⟩⟩

end Go.Proofs.YtfflnpcbpcldeaaDoor
