/- chords.forced: the class of an arc. -/
import Derived.Test.YtnhhohhhpaejmaaFoW1
import Derived.Maps.RangeWalk
import Derived.Deep.CutBlock
import Derived.BigQuiet
namespace Go.Proofs.Ytnhhohhhpaejmaa
open Go Go.RowKit Go.Maps

/-- One arc under way: its queue, and what it has forced so far. -/
structure FoRd (H BM MC N QC n : Nat) (t : Nat → Nat → Bool) (x y a b c : Nat) (v : Value) (I : Nat → Nat → Bool) (M : List (Nat × Nat)) (k : Nat) (w0 w : World) : Prop where
  st : FoSt H BM MC N QC n v I ((a, b) :: M) w0 w
  inv : FInv N t x y I
  qd : QueuedBut N t I M a b
  fo : Fore t I a b c
  len : fals N I + M.length = k
  at' : I a b = true
  mem : ∀ p ∈ M, I p.1 p.2 = true
theorem FoRd.add {H BM MC N QC n n' : Nat} {t : Nat → Nat → Bool} {x y a b c : Nat} {v v' : Value} {I : Nat → Nat → Bool} {M : List (Nat × Nat)} {k : Nat} {w0 w w' : World} (h : FoRd H BM MC N QC n t x y a b c v I M k w0 w) {i j : Nat} (hi : i < N) (hj : j < N)
    (hst : FoSt H BM MC N QC n' v' (addB I i j) (addQ I ((a, b) :: M) i j) w0 w') (hinv : FInv N t x y (addB I i j))
    (h1 : (c ≠ b ∧ t a c = true ∧ t b c = false) → addB I i j a c = true) (h2 : (c ≠ a ∧ t b c = true ∧ t a c = false) → addB I i j c b = true) :
    FoRd H BM MC N QC n' t x y a b (c + 1) v' (addB I i j) (addQ I M i j) k w0 w' :=
  ⟨by rw [← addQ_cons]; exact hst, hinv, h.qd.add i j, h.fo.succ (addB_sub I i j) h1 h2, by rw [fals_addQ hi hj]; exact h.len, addB_sub I i j _ _ h.at', addQ_in h.mem⟩
theorem FoRd.skip {H BM MC N QC n : Nat} {t : Nat → Nat → Bool} {x y a b c : Nat} {v : Value} {I : Nat → Nat → Bool} {M : List (Nat × Nat)} {k : Nat} {w0 w : World} (h : FoRd H BM MC N QC n t x y a b c v I M k w0 w)
    (h1 : ¬ (c ≠ b ∧ t a c = true ∧ t b c = false)) (h2 : ¬ (c ≠ a ∧ t b c = true ∧ t a c = false)) : FoRd H BM MC N QC n t x y a b (c + 1) v I M k w0 w :=
  ⟨h.st, h.inv, h.qd, h.fo.succ (fun _ _ k => k) (fun k => (h1 k).elim) (fun k => (h2 k).elim), h.len, h.at', h.mem⟩
/-- The queue's next cell, and the queue cut in front. -/
theorem FoSt.pop {H BM MC N QC n : Nat} {I : Nat → Nat → Bool} {M : List (Nat × Nat)} {p : Nat × Nat} {w0 w : World} {qb qo qc K : Nat} {f : Nat → Value} (h : FoSt H BM MC N QC n (.slice (some ⟨qb, qo, none⟩) (M.length + 1) qc) I (p :: M) w0 w) (hat : QPAt w (MC + 1) qb qo qc K f (p :: M)) :
    FoSt H BM MC N w.heap.size n (.slice (cutAtP qb qo (qc - 1)) M.length (qc - 1)) I M w0 (w.alloc (Obj.cells #[.slice (cutAtP qb qo (qc - 1)) M.length (qc - 1)] 22)) := by
  have hq := hat.cut
  have hlq := h.lq
  rw [List.length_cons] at hlq
  generalize Value.slice (cutAtP qb qo (qc - 1)) M.length (qc - 1) = v' at *
  have r0 : (w.alloc (Obj.cells #[v'] 22)).rowIs w.heap.size 22 1 (fun _ => v') :=
    World.rowIs_alloc w #[v'] _ _ fun i hi => by
      match i, hi with
      | 0, _ => rfl
  have b1 := below1 w (Obj.cells #[v'] 22)
  have hs := h.below b1
  exact ⟨hs.hb, hs.cm, hs.pm, r0, hs.lo1, hs.lo2, h.cm.lt, hq.below b1, h.few, by omega⟩

/-- The class, half gone through. -/
structure FoRg (w0 w : World) (N MC BM R n : Nat) (I J : Nat → Nat → Bool) (D : DataW Unit) (left : Lit → Bool) (cnt : Nat) : Prop where
  rg : w.ranges Try.prog 52 (plainElem Try.prog 4) BM R n D left cnt
  left : PLeft N I J left
  met : ∀ i j, J i j = true → I j i = false
  hb : Below w0.heap.size w0 w
  cm : w.cell? ⟨MC, 0, none⟩ = some (.map (some BM))

/-- What it tells: the class, and whether it holds an arc with its reverse. -/
def ForcedPost (N : Nat) (t : Nat → Nat → Bool) (x y : Nat) (w : World) (e : Ending) (w' : World) : Prop :=
  ∃ I : Nat → Nat → Bool, IsCls (TN N t) x y (fun a b => I a b = true) ∧ Below w.heap.size w w' ∧
    ((∃ b n, (∀ i j, I i j = true → I j i = false) ∧ n ≤ 10001 ∧ e = .returned (.tuple #[.map (some b), .bool true]) ∧ PSet w' b n N I ∧ w.heap.size ≤ b) ∨
     (∃ i j, I i j = true ∧ I j i = true ∧ e = .returned (.tuple #[.map none, .bool false])))

/-- Memory at the start. -/
theorem FoSt.start {w : World} {N x y : Nat} (hx : x < N) (hy : y < N) (hN : N ≤ 100) {w3 : World} (hp : PSet w3 (w.heap.size + 1) 1 N (addB (fun _ _ => false) x y)) (hg : ((w.alloc (Obj.cells #[.int .i64 (x : Int), .int .i64 (y : Int)] 52)).alloc (.map #[] 0)).grownBy w3 (some (w.heap.size + 1)))
    {w6 : World} (e6 : w6 = ((w3.alloc (Obj.cells #[.map (some (w.heap.size + 1))] 66)).alloc (Obj.cells #[.int .i64 (x : Int), .int .i64 (y : Int)] 52)).alloc (Obj.cells #[.slice (some ⟨w3.heap.size + 1, 0, none⟩) 1 1] 22)) :
    FoSt w.heap.size (w.heap.size + 1) w3.heap.size N (w3.heap.size + 1 + 1) 1 (.slice (some ⟨w3.heap.size + 1, 0, none⟩) 1 1) (addB (fun _ _ => false) x y) [(x, y)] w w6 := by
  subst e6
  have hsz := hg.size
  simp only [World.size_alloc] at hsz
  have b3 : Below w.heap.size w w3 := (below2 w _ _).grown hg (by simp; omega) (fun g e => by have := Option.some.inj e; omega)
  have b4 := below1 w3 (Obj.cells #[.map (some (w.heap.size + 1))] 66)
  generalize h4 : w3.alloc (Obj.cells #[.map (some (w.heap.size + 1))] 66) = w4 at *
  have s4 : w4.heap.size = w3.heap.size + 1 := by rw [← h4]; simp
  have r4 : w4.rowIs w3.heap.size 66 1 (fun _ => .map (some (w.heap.size + 1))) := by
    rw [← h4]
    exact World.rowIs_alloc w3 #[.map (some (w.heap.size + 1))] _ _ fun i hi => by
      match i, hi with
      | 0, _ => rfl
  have b5 := below1 w4 (Obj.cells #[.int .i64 (x : Int), .int .i64 (y : Int)] 52)
  have q5 := QPIs.one w4 (w3.heap.size + 1) x y (by omega)
  have s5 : (w4.alloc (Obj.cells #[.int .i64 (x : Int), .int .i64 (y : Int)] 52)).heap.size = w3.heap.size + 1 + 1 := by simp [s4]
  rw [s4] at q5
  generalize w4.alloc (Obj.cells #[.int .i64 (x : Int), .int .i64 (y : Int)] 52) = w5 at *
  have b6 := below1 w5 (Obj.cells #[.slice (some ⟨w3.heap.size + 1, 0, none⟩) 1 1] 22)
  have r6 : (w5.alloc (Obj.cells #[.slice (some ⟨w3.heap.size + 1, 0, none⟩) 1 1] 22)).rowIs (w3.heap.size + 1 + 1) 22 1 (fun _ => .slice (some ⟨w3.heap.size + 1, 0, none⟩) 1 1) := by
    rw [← s5]
    exact World.rowIs_alloc w5 #[.slice (some ⟨w3.heap.size + 1, 0, none⟩) 1 1] _ _ fun i hi => by
      match i, hi with
      | 0, _ => rfl
  generalize w5.alloc (Obj.cells #[.slice (some ⟨w3.heap.size + 1, 0, none⟩) 1 1] 22) = w6 at *
  have hf := fals_add (N := N) (I := fun _ _ => false) hx hy rfl
  have hl := fals_le N (fun _ _ => false)
  have hNN : N * N ≤ 100 * 100 := Nat.mul_le_mul hN hN
  have b36 := (b4.mono (Nat.le_refl _)).trans ((b5.mono (show w3.heap.size ≤ w4.heap.size by omega)).trans (b6.mono (show w3.heap.size ≤ w5.heap.size by omega)))
  refine ⟨b3.trans (b36.mono (by omega)), ?_, hp.below b36, r6, by omega, by omega, by omega, ?_, by omega, by simp; omega⟩
  · refine r4.of_block ?_
    rw [b6.block _ (by omega), b5.block _ (by omega)]
  · exact q5.below b6

set_option maxHeartbeats 6400000 in
set_option maxRecDepth 100000 in
theorem forced_any {N x y : Nat} {gv : Value} {t : Nat → Nat → Bool} (w : World) (hN : N ≤ 100) (hs : ∀ a b, t a b = t b a) (hi : ∀ a, t a a = false) (hT : TN N t x y) (hg : HasGrid w gv N t) :
    Calls Try.prog 43 #[gv, .agg #[.int .i64 (x : Int), .int .i64 (y : Int)]] w (ForcedPost N t x y w) := by
  obtain ⟨hx, hy, hxy⟩ := hT
  have hmm := @run_makeMap Try.prog
  obtain ⟨i2, hi2, -, hz2, -⟩ := info_parts info2
  have hmf : ∀ (fn : Fn) (first cap : Array Value) (w : World), (Instr.makeFunc fn first cap).run Try.prog w = .ok (.func fn first cap) w := fun _ _ _ _ => rfl
  have hb2 := below2 w (Obj.cells #[.int .i64 (x : Int), .int .i64 (y : Int)] 52) (.map #[] 0)
  have hsz : (w.alloc (Obj.cells #[.int .i64 (x : Int), .int .i64 (y : Int)] 52)).heap.size = w.heap.size + 1 := by simp
  have pm := PSet.made (w.alloc (Obj.cells #[.int .i64 (x : Int), .int .i64 (y : Int)] 52)) N
  rw [hsz] at pm
  obtain ⟨w3, hput, hp3, hg3⟩ := pm.put hx hy (by omega) (by omega)
  have e0 := two_cells w (.int .i64 (x : Int)) (.int .i64 (y : Int)) 52
  have d0 : ((w.alloc (Obj.cells #[.int .i64 (x : Int), .int .i64 (y : Int)] 52)).alloc (.map #[] 0)).cell? ⟨w.heap.size, 0, none⟩ = some (.int .i64 (x : Int)) := below_cell (below1 _ _) e0.1
  have d1 : ((w.alloc (Obj.cells #[.int .i64 (x : Int), .int .i64 (y : Int)] 52)).alloc (.map #[] 0)).cell? ⟨w.heap.size, 1, none⟩ = some (.int .i64 (y : Int)) := below_cell (below1 _ _) e0.2
  have nh : w.heap.size ≠ w.heap.size + 1 := by omega
  have hl3 : w.heap.size < ((w.alloc (Obj.cells #[.int .i64 (x : Int), .int .i64 (y : Int)] 52)).alloc (.map #[] 0)).heap.size := by simp; omega
  have c0 := (World.cell?_of_block (a := ⟨w.heap.size, 0, none⟩) (hg3.block _ hl3 (fun e => nh (Option.some.inj e)))).trans d0
  have c1 := (World.cell?_of_block (a := ⟨w.heap.size, 1, none⟩) (hg3.block _ hl3 (fun e => nh (Option.some.inj e)))).trans d1
  have St := Lib.hid (FoSt.start hx hy hN hp3 hg3 rfl)
  have c0' : (w3.alloc (Obj.cells #[.map (some (w.heap.size + 1))] 66)).cell? ⟨w.heap.size, 0, none⟩ = some (.int .i64 (x : Int)) := below_cell (below1 _ _) c0
  have c1' : (w3.alloc (Obj.cells #[.map (some (w.heap.size + 1))] 66)).cell? ⟨w.heap.size, 1, none⟩ = some (.int .i64 (y : Int)) := below_cell (below1 _ _) c1
  obtain ⟨Bg, ga, gc, gb, gof, R, rfl, hgc, hga, hgrid⟩ := hg
  obtain rfl := (hga (by omega)).1
  have HG := Lib.hid hgrid
  have HS := Lib.hid hs; have HI := Lib.hid hi; have HX := Lib.hid hxy
  clear hp3 hg3 pm hb2 hs hi hxy e0 hgrid
  go_enter Try.func43, Try.ntmps43
  go_wp2
  have hf1 := fals_add (N := N) (I := fun _ _ => false) hx hy rfl
  generalize ((w3.alloc (Obj.cells #[.map (some (w.heap.size + 1))] 66)).alloc (Obj.cells #[.int .i64 (x : Int), .int .i64 (y : Int)] 52)).alloc (Obj.cells #[.slice (some ⟨w3.heap.size + 1, 0, none⟩) 1 1] 22) = w6 at *
  clear hput d0 d1 c0 c1 c0' c1' hl3
  generalize w3.heap.size = MC at *
  go_loopg [7] (fals N (addB (fun _ _ => false) x y) + 1) (fun g s7 wr => ∃ (QC n : Nat) (v : Value) (I : Nat → Nat → Bool) (L : List (Nat × Nat)), s7 = .pointer (some ⟨QC, 0, none⟩) ∧ g = fals N I + L.length ∧ FoSt w.heap.size (w.heap.size + 1) MC N QC n v I L w wr ∧ FInv N t x y I ∧ Queued N t I L ∧ ∀ p ∈ L, I p.1 p.2 = true)
  case atStart => exact ⟨_, 1, _, _, _, rfl, rfl, St.out, FInv.start ⟨hx, hy, HX.out⟩, fun a b k => by
    rcases addB_iff.1 k with k | ⟨rfl, rfl⟩
    · cases k
    · exact .inl (by simp), fun p hp => by rw [List.mem_singleton.1 hp]; exact addB_self _ _ _⟩
  case round =>
    obtain ⟨QC, n, v, I, L, rfl, rfl, hm, hI, hq, hin⟩ := hrel
    have Hm := Lib.hid hm; have HIv := Lib.hid hI; have Hq := Lib.hid hq
    have cq := hm.cq.cell (show 0 < 1 by omega)
    cases L with
    | nil =>
      obtain ⟨D, hD, hP⟩ := hm.pm
      have HP := Lib.hid hP
      have hL0 := Lib.hid hP.left
      have hlo := hm.lo2
      have hlo3 := hm.lo
      have hzc := hm.cm.lt
      obtain ⟨wp, rfl⟩ : ∃ wp : World, wp = wr := ⟨_, rfl⟩
      have cmc := hm.cm.cell (show 0 < 1 by omega)
      have hfew := hm.few
      have hqq := hm.q
      obtain ⟨qa, qc, rfl⟩ := hqq.form
      have hcls := Lib.hid (HIv.out.cls HS.out Hq.out)
      clear hm hI hq hin hP hqq
      go_wp2_with (at_range; refine wpList_range_own _ rfl _ 66 rfl 52 4 pairKeyed Try.underlying66 _ (w.heap.size + 1) n D rfl hD ?_; intro w0 hrg0 hg0 hs0)
      go_frame
      go_loopw [93] (fun _ wr => ∃ (left : Lit → Bool) (cnt : Nat) (J : Nat → Nat → Bool), FoRg w wr N MC (w.heap.size + 1) wp.heap.size n I J D left cnt) (fun _ wr => wr.rangeLeft (w.heap.size + 1) wp.heap.size)
      case atStart => exact ⟨_, _, _, hrg0, hL0.out, fun i j h => (by cases h), Hm.out.hb.grown hg0 (by omega) (fun g e => by cases e), (World.cell?_of_block (a := ⟨MC, 0, none⟩) (hg0.block _ hzc (by simp))).trans cmc⟩
      case round =>
        obtain ⟨left, cnt, J, hst⟩ := hrel
        have Hs1 := Lib.hid hst
        have hrg := hst.rg
        clear hst
        go_wp2_with (first
          | (at_next; refine wpList_next_ranges _ rfl _ rfl 52 pairKeyed _ (fun x : Int × Int => pairV x.1 x.2) (fun v : Value => v) (fun key kl h => pair_inv h) (fun v y h => ⟨v, rfl⟩) (w.heap.size + 1) wp.heap.size n D _ _ rfl hrg ?_ ?_)
          | go_in)
        · intro hc0 hl0
          have hfr : ∀ i j, I i j = true → I j i = false := fun i j k => by
            have hij := hcls.out.edge i j k
            exact Hs1.out.met i j (Hs1.out.left.done hl0 (by omega) hij.1 hij.2.1 k)
          have Hfr := Lib.hid hfr
          have cmc1 := Hs1.out.cm
          have HPs := Lib.hid (show PSet wr (w.heap.size + 1) n N I from ⟨D, hrg.owns, HP.out⟩)
          clear hc0 hl0 hfr hrg
          go_wp2
          refine bodyPost_ret (v := .tuple #[.map (some (w.heap.size + 1)), .bool true]) (by simp [results, Try.results43, go_sem]) rfl ?_
          exact ⟨I, hcls.out, Hs1.out.hb, .inl ⟨_, n, Hfr.out, by omega, rfl, HPs.out, by omega⟩⟩
        · intro x1 x2 c kl y1 y2 w1 cnt1 hkl hlk hyc hat hrg1 hlt1 hg1 hs1 hen
          obtain ⟨i, j, hi, hj, hIij, hJ, hkp⟩ := (Hs1.out.left kl).1 hlk
          have hpe := pairKeyed.inj hkp hkl
          simp only [pairV, Value.agg.injEq, Array.mk.injEq, List.cons.injEq, Value.int.injEq, true_and, and_true] at hpe
          obtain ⟨rfl, rfl⟩ := hpe
          have hszw := Hs1.out.hb.size
          have hwp : w.heap.size ≤ wp.heap.size := by omega
          have b1 := Hs1.out.hb.grown hg1 (by omega) (fun g e => by have := Option.some.inj e; omega)
          have hrl := Hs1.out.rg.lt
          have cm1 := (World.cell?_of_block (a := ⟨MC, 0, none⟩) (hg1.block _ (by show MC < wr.heap.size; omega) (fun e => by have e2 : MC = wp.heap.size := Option.some.inj e; omega))).trans Hs1.out.cm
          have Hen := Lib.hid hen; have Hrg1 := Lib.hid hrg1; have Hkp := Lib.hid hkp; have Hlt1 := Lib.hid hlt1
          have bb := below1 w1 (.cells #[.int .i64 (i : Int), .int .i64 (j : Int)] 52)
          have cells := two_cells w1 (.int .i64 (i : Int)) (.int .i64 (j : Int)) 52
          have cm2 := below_cell bb cm1
          have hr2 := hrg1.alloc (.cells #[.int .i64 (i : Int), .int .i64 (j : Int)] 52)
          have lk := (show PSet _ (w.heap.size + 1) n N I from ⟨D, hr2.owns, HP.out⟩).look hj hi (by omega)
          have Hr2 := Lib.hid hr2
          have hb1s := b1.size
          have hw1 : w1.heap.size = wr.heap.size := hs1
          have B2 := Lib.hid (b1.trans (bb.mono (by omega)))
          have Hij := Lib.hid hIij
          have hnext := Lib.hid (Hs1.out.left.next Hkp.out)
          clear hr2 b1 bb hrg1 hlt1 hg1 hkp hkl hat hyc hrg cm1 hlk hJ hIij
          cases hji : I j i
          · rw [hji] at lk
            have Hji := Lib.hid hji
            have Hfin := Lib.hid (show FoRg w (w1.alloc (.cells #[.int .i64 (i : Int), .int .i64 (j : Int)] 52)) N MC (w.heap.size + 1) wp.heap.size n I (fun a b => J a b || (decide (a = i) && decide (b = j))) D (fun z => left z && !z.sameKey kl) cnt1 from ⟨Hr2.out, hnext.out, fun a b k => by
              simp only [Bool.or_eq_true, Bool.and_eq_true, decide_eq_true_eq] at k
              rcases k with k | ⟨rfl, rfl⟩
              · exact Hs1.out.met a b k
              · exact Hji.out, B2.out, cm2⟩)
            clear hji
            go_wp2
            go_roundw
            case rel => exact ⟨_, _, _, Hfin.out⟩
            case measure =>
              show (w1.alloc (.cells #[.int .i64 (i : Int), .int .i64 (j : Int)] 52)).rangeLeft (w.heap.size + 1) wp.heap.size < _
              rw [Hfin.out.rg.left_eq, Hs1.out.rg.left_eq]; exact Hlt1.out
          · rw [hji] at lk
            have Hji := Lib.hid hji
            clear hji
            go_wp2
            refine bodyPost_ret (v := .tuple #[.map none, .bool false]) (by simp [results, Try.results43, go_sem]) rfl ?_
            exact ⟨I, hcls.out, B2.out, .inr ⟨i, j, Hij.out, Hji.out, rfl⟩⟩
    | cons p M =>
      obtain ⟨a, b⟩ := p
      have hqq := hm.q
      obtain ⟨qb, qo, qc, K, f, rfl, hat⟩ := hqq
      have k0 := hat.cell (show 0 < ((a, b) :: M).length by simp)
      have hlen := hat.len
      simp only [List.getD_cons_zero, Nat.zero_mul, Nat.add_zero] at k0
      obtain ⟨k0, k1⟩ := k0
      simp only [List.length_cons] at hlen
      clear hm hI hq hat
      obtain ⟨wo, rfl⟩ : ∃ wo : World, wo = wr := ⟨_, rfl⟩
      have hab := HIv.out.edge a b (hin (a, b) List.mem_cons_self)
      obtain ⟨ha, hb, htab⟩ := hab
      have hne : a ≠ b := fun e => by subst e; rw [HI.out] at htab; cases htab
      have R0 := Lib.hid (show ∀ m, FoRd w.heap.size (w.heap.size + 1) MC N QC n t x y a b 0 _ I M (fals N I + M.length) w (wo.drewN m) from fun m => ⟨Hm.out.below (Below.drewN' (Below.refl _ _) m), HIv.out, QueuedBut.of Hq.out, fun d hd => absurd hd (Nat.not_lt_zero _), rfl, hin (a, b) List.mem_cons_self, fun p hp => hin p (List.mem_cons_of_mem _ hp)⟩)
      clear hin htab
      go_wp2
      go_quiet (fail)
      go_wp2
      generalize hK : fals N I + M.length = kk at *
      go_loopg [34] N (fun g s34 wr => ∃ (c n' : Nat) (v' : Value) (I' : Nat → Nat → Bool) (M' : List (Nat × Nat)), c ≤ N ∧ g = N - c ∧ s34 = .int .i64 (c : Int) ∧ FoRd w.heap.size (w.heap.size + 1) MC N QC n' t x y a b c v' I' M' kk w wr)
      case atStart => exact ⟨0, n, _, I, M, Nat.zero_le _, rfl, rfl, R0.out _⟩
      case round =>
        obtain ⟨c, n', v', I', M', hc, rfl, rfl, hr⟩ := hrel
        have Hr := Lib.hid hr
        have hbw := hr.st.hb
        clear hr
        by_cases hlt : c < N
        · have g1 := below_cell hbw (HG.out.head a ha)
          have g2 := below_cell hbw (HG.out.head b hb)
          have g3 := below_cell hbw (HG.out.cell ha hlt)
          have g4 := below_cell hbw (HG.out.cell hb hlt)
          by_cases e1 : c = b
          · have Rs := Lib.hid (Hr.out.skip (fun k => k.1 e1) (fun k => by have := k.2.1; rw [e1, HI.out] at this; cases this))
            have hca : ¬ (c : Int) = (a : Int) := by omega
            rw [show t b c = false by rw [e1, HI.out]] at g4
            subst e1
            clear g3
            go_wp2
            go_roundg (N - (c + 1))
            case measure => go_light; omega
            case rel => exact ⟨c + 1, n', v', I', M', by omega, rfl, by go_num, Rs.out⟩
          by_cases e2 : c = a
          · have Rs := Lib.hid (Hr.out.skip (fun k => by have := k.2.1; rw [e2, HI.out] at this; cases this) (fun k => k.1 e2))
            have hcb : ¬ (c : Int) = (b : Int) := by omega
            rw [show t a c = false by rw [e2, HI.out]] at g3
            subst e2
            clear e1 g4
            go_wp2
            go_roundg (N - (c + 1))
            case measure => go_light; omega
            case rel => exact ⟨c + 1, n', v', I', M', by omega, rfl, by go_num, Rs.out⟩
          have hcb : ¬ (c : Int) = (b : Int) := by omega
          have hca : ¬ (c : Int) = (a : Int) := by omega
          cases h3 : t a c <;> cases h4 : t b c <;> rw [h3] at g3 <;> rw [h4] at g4
          · have Rs := Lib.hid (Hr.out.skip (fun k => by rw [h3] at k; cases k.2.1) (fun k => by rw [h4] at k; cases k.2.1))
            clear e1 e2 h3 h4
            go_wp2
            go_roundg (N - (c + 1))
            case measure => go_light; omega
            case rel => exact ⟨c + 1, n', v', I', M', by omega, rfl, by go_num, Rs.out⟩
          · have hinv := Hr.out.inv.tail HS.out Hr.out.at' hlt e2 h4 h3
            have H3 := Lib.hid h3; have H4 := Lib.hid h4; have Hv := Lib.hid hinv
            have E1 := Lib.hid e1; have E2 := Lib.hid e2
            clear e1 e2 h3 h4 hinv
            go_wp2_with (go_at_call 62; refine (fadd_any1 Hr.out.st hN hlt hb).mono ?_; rintro e w5 ⟨rfl, n5, v5, S5'⟩; have S5 := Lib.hid S5'; clear S5')
            have Rs := Lib.hid (Hr.out.add hlt hb S5.out Hv.out (fun k => by rw [H3.out] at k; cases k.2.1) (fun _ => addB_self _ _ _))
            go_roundg (N - (c + 1))
            case measure => go_light; omega
            case rel => exact ⟨c + 1, n5, v5, _, _, by omega, rfl, by go_num, Rs.out⟩
          · have hinv := Hr.out.inv.head Hr.out.at' hlt e1 h3 h4
            have H3 := Lib.hid h3; have H4 := Lib.hid h4; have Hv := Lib.hid hinv
            have E1 := Lib.hid e1; have E2 := Lib.hid e2
            clear e1 e2 h3 h4 hinv
            go_wp2_with (go_at_call 62; refine (fadd_any1 Hr.out.st hN ha hlt).mono ?_; rintro e w5 ⟨rfl, n5, v5, S5'⟩; have S5 := Lib.hid S5'; have f2 := below_cell S5'.hb (HG.out.head b hb); have f4 := below_cell S5'.hb (HG.out.cell hb hlt); rw [H4.out] at f4; clear S5')
            have Rs := Lib.hid (Hr.out.add ha hlt S5.out Hv.out (fun _ => addB_self _ _ _) (fun k => by rw [H4.out] at k; cases k.2.1))
            go_roundg (N - (c + 1))
            case measure => go_light; omega
            case rel => exact ⟨c + 1, n5, v5, _, _, by omega, rfl, by go_num, Rs.out⟩
          · have Rs := Lib.hid (Hr.out.skip (fun k => by rw [h4] at k; cases k.2.2) (fun k => by rw [h3] at k; cases k.2.2))
            clear e1 e2 h3 h4
            go_wp2
            go_roundg (N - (c + 1))
            case measure => go_light; omega
            case rel => exact ⟨c + 1, n', v', I', M', by omega, rfl, by go_num, Rs.out⟩
        · obtain rfl : c = N := by omega
          obtain ⟨w5, rfl⟩ : ∃ w5 : World, w5 = wr := ⟨_, rfl⟩
          have hqr := Hr.out.st.q
          obtain ⟨b5, o5, c5, K5, f5, rfl, hat5⟩ := hqr
          have hst5 := Hr.out.st
          rw [List.length_cons] at hst5
          have S5 := Lib.hid (hst5.pop hat5)
          have hln := hat5.len
          have cq5 := hst5.cq.cell (show 0 < 1 by omega)
          rw [List.length_cons] at hln
          have hcut := run_slice_oneP (P := Try.prog) Try.underlying22 hi2 hz2 b5 o5 M'.length c5 hln
          clear hst5 hat5 hbw
          go_wp2
          go_roundg (fals c I' + M'.length)
          case measure => go_light; have := Hr.out.len; simp only [List.length_cons] at *; omega
          case rel => exact ⟨_, n', _, I', M', rfl, rfl, S5.out, Hr.out.inv, Hr.out.qd.done Hr.out.fo, Hr.out.mem⟩

end Go.Proofs.Ytnhhohhhpaejmaa
