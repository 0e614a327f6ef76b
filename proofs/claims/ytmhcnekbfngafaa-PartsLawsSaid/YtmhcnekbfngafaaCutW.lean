/- parts.Cuts: the nodes of two blocks and more. -/
import Derived.Test.YtmhcnekbfngafaaPartP
import Derived.Test.YtmhcnekbfngafaaIMap
namespace Go.Proofs.Ytmhcnekbfngafaa
open Go Go.RowKit Go.Maps

/-- A list of nodes that comes back. -/
def NodesPost (m : List Nat) (w : World) (e : Ending) (w' : World) : Prop :=
  ∃ v, e = .returned (.tuple #[v, .agg #[.int .i64 0, .int .i64 0]]) ∧ w'.ownsRow w.heap.size 3 1 v m.length (nvals m) ∧ Below w.heap.size w w'

/-- Behind k blocks. -/
structure CuSt (w5 wr : World) (N bC S : Nat) (f : Nat → Nat) : Prop where
  g : w5.grownBy wr (some bC)
  row : wr.rowIs bC 3 N (rn f)
  lt : bC < S
theorem CuSt.edges {w5 wr : World} {N bC S : Nat} {f : Nat → Nat} (h : CuSt w5 wr N bC S f) {r : Value} {b : List (Int × Int)} (ho : OwnE w5 S r b) : IsEdges wr r b := by
  have ho0 : w5.ownsRow S 61 2 r b.length (cells2 b) := ho
  have : OwnE wr S r b := ho0.kept h.g (by
    cases hr : r.ownBlock with
    | none => exact Or.inl rfl
    | some q => exact Or.inr (fun e => by cases e; have := (ho0.lt _ hr).1; have := h.lt; omega))
  exact this.edges
theorem CuSt.below {w5 wr w' : World} {N bC S : Nat} {f : Nat → Nat} (h : CuSt w5 wr N bC S f) (hb : Below wr.heap.size wr w') : CuSt w5 w' N bC S f :=
  ⟨h.g.trans ((grown_of_below hb).but _), h.row.of_block (hb.block _ h.row.lt), h.lt⟩
theorem CuSt.add {w5 wr : World} {N bC S : Nat} {f : Nat → Nat} (h : CuSt w5 wr N bC S f) (k x : Nat) : CuSt w5 (wr.setCell ⟨bC, k, none⟩ (.int .i64 (x : Int))) N bC S (fun q => if q = k then x else f q) :=
  ⟨h.g.trans (grown_set wr bC k _), row_set_rn h.row k x, h.lt⟩
/-- How many blocks and, while one is gone through, those of its nodes that were met. -/
def plusJ (f : Nat → Nat) (J : Nat → Bool) : Nat → Nat := fun q => f q + if J q then 1 else 0

/-- While a block's nodes are gone through. -/
structure CuRg (w5 wz : World) (N bC S bM R n : Nat) (f : Nat → Nat) (I : Nat → Bool) (D : DataW Unit) (left : Lit → Bool) (cnt : Nat) (J : Nat → Bool) : Prop where
  rg : wz.ranges Try.prog 3 (plainElem Try.prog 3) bM R n D left cnt
  left : LeftIs N I J left
  sub : ∀ q, J q = true → I q = true
  st : CuSt w5 wz N bC S (plusJ f J)
/-- The nodes of two blocks and more, below i. -/
abbrev cutsTo (L : List (List (Int × Int))) (i : Nat) : List Nat := (List.range i).filter fun q => decide (1 < bcnt L q)
theorem cutsTo_succ (L : List (List (Int × Int))) (i : Nat) : cutsTo L (i + 1) = cutsTo L i ++ if 1 < bcnt L i then [i] else [] := by
  unfold cutsTo
  rw [List.range_succ, List.filter_append]
  by_cases h : 1 < bcnt L i <;> simp [h]

set_option maxHeartbeats 6400000 in
set_option maxRecDepth 100000 in
theorem pcuts_ok {l : List (Int × Int)} {N : Nat} (hgood : GoodGraph N l) (s : Value) (w : World) (h : IsEdges w s l) :
    Calls Try.prog 33 #[.agg #[.int .i64 (N : Int), s]] w (NodesPost (cutsL N (blkD l N)) w) := by
  obtain ⟨ad, cap, rfl⟩ := h.form
  have hN : N ≤ 100 := by have := hgood.hi; omega
  have Hg := Lib.hid hgood
  have St := Lib.hid (PSt.start (n := (N : Int)) h)
  have hmk := run_make_row' (P := Try.prog) 39 3 (.int .i64 0) 8 Try.underlying39 info3 rfl .i64 .i64 N (by omega) (by omega)
  have hmm := @run_makeMap Try.prog
  clear hgood h
  go_enter Try.func33, Try.ntmps33
  go_upto_region 1 with fail
  generalize (w.alloc (Obj.cells #[.int .i64 (N : Int), .slice ad l.length cap] 24)).alloc (Obj.cells #[.int .i64 0, .int .i64 0] 27) = w1 at *
  have cn := St.out.cn
  have cs := St.out.cs
  have hl := St.out.r.lt
  go_upto_region 2 with (go_at_call 47; refine (gcheck_is Hg.out.spec _ _ St.out.he).mono ?_; rintro e w2 ⟨rfl, hb2⟩; have S2 := Lib.hid (St.out.below (hb2.trans ((below1 w2 (Obj.cells #[.int .i64 0, .int .i64 0] 27)).mono hb2.size))); have e01 := two_cells w2 (.int .i64 0) (.int .i64 0) 27; clear hb2)
  generalize w2.alloc (Obj.cells #[.int .i64 0, .int .i64 0] 27) = w3 at *
  obtain ⟨e0, e1⟩ := e01
  clear cn cs hl St
  have cn := S2.out.cn
  have cs := S2.out.cs
  go_upto_region 4 with fail
  clear e0 e1
  go_upto_region 5 with fail
  clear hmk
  have b4 := below1 w3 (zrow N)
  have cs4 := below_cell b4 cs
  have cn4 := below_cell b4 cn
  have hC4 := zrow_is w3 N
  have S4 := Lib.hid (S2.out.below b4)
  have hz4 : w3.heap.size < (w3.alloc (zrow N)).heap.size := by rw [World.size_alloc]; omega
  have hz3 : w.heap.size + 1 < w3.heap.size := S2.out.r.lt
  clear cn cs b4 S2
  generalize w3.alloc (zrow N) = w4 at *
  generalize w3.heap.size = bC at *
  have HC4 := Lib.hid hC4
  clear hC4
  go_upto_region 6 with (go_at_call 59; refine (blocks_any Hg.out _ _ S4.out.he).mono ?_; rintro e w5 ⟨v, L, rfl, h5, hb5, hr5⟩; obtain ⟨vals, k1, k2⟩ := h5; obtain ⟨aB, cB, rfl⟩ := ownsRow_form k1)
  have S5 := Lib.hid (S4.out.below hb5)
  have HC5 := Lib.hid (HC4.out.of_block (hb5.block _ hz4))
  have hLb : L.length ≤ 100 := by
    rw [hr5.length]
    have := (allD_ok (nbrs_ask (l := l) hN) N (Nat.le_refl _)).blk
    unfold blkD; omega
  have hends := hr5.ends hN
  have hcuts := hr5.cuts N
  have hsmall := hr5.small hN
  have hz5 := hb5.size
  have HV := Lib.hid k1; have HK := Lib.hid k2; have Hends := Lib.hid hends; have Hcuts := Lib.hid hcuts; have Hsmall := Lib.hid hsmall
  clear hsmall
  clear k1 k2 hr5 hb5 hends hcuts S4 HC4 cs4 cn4
  obtain ⟨n, hn⟩ : ∃ n, n = L.length := ⟨_, rfl⟩
  have Hn := Lib.hid hn
  rw [← hn] at hLb ⊢
  clear hn
  have hzC : bC < w5.heap.size := by omega
  generalize hS : w4.heap.size = S at *
  have HS := Lib.hid hS
  clear hS
  go_loopg [27] n (fun g s27 wr => ∃ k : Nat, k ≤ n ∧ g = n - k ∧ s27 = .int .i64 k ∧ CuSt w5 wr N bC S (bcnt (L.take k)))
  case atStart => exact ⟨0, Nat.zero_le _, rfl, rfl, ⟨World.grownBy.refl _ _, HC5.out.congr fun q _ => rfl, hz4⟩⟩
  case round =>
    obtain ⟨k, hk, rfl, rfl, h⟩ := hrel
    obtain ⟨wq, rfl⟩ : ∃ wq : World, wq = wr := ⟨_, rfl⟩
    have H1 := Lib.hid h
    have hzr := h.g.size
    by_cases hlt : k < n
    · obtain ⟨r, er, hor, -⟩ := HK.out k (by rw [← Hn.out]; exact hlt)
      have hv0 := HV.out
      obtain ⟨gB, eB⟩ : ∃ gB, aB = some ⟨gB, 0, none⟩ := by
        rcases hv0.2 with ⟨e, e0⟩ | ⟨g, cap', cur, e, -⟩
        · rw [← Hn.out] at e0; omega
        · simp only [Value.slice.injEq] at e; exact ⟨g, e.1⟩
      subst eB
      have cr := hv0.cells (g := gB) rfl _ _ er
      rw [Addr.add_lit, Nat.zero_add] at cr
      have lB := hv0.lt gB rfl
      have cr2 : wq.cell? ⟨gB, k, none⟩ = some r := by
        rw [← cr]; exact World.cell?_of_block (a := ⟨gB, k, none⟩) (h.g.block gB lB.2 (fun e => by cases e; omega))
      have hmem : L.getD k [] ∈ L := by rw [List.getD, List.getElem?_eq_getElem (by rw [← Hn.out]; exact hlt)]; exact List.getElem_mem _
      have hend := Hends.out _ hmem
      have hbl := Hsmall.out _ hmem
      have hed := h.edges hor
      have hsn := fun q => bcnt_snoc (L := L) (k := k) (by rw [← Hn.out]; exact hlt) q
      generalize L.getD k [] = b at *
      obtain ⟨ra, rcap, rb, ro, eb, hbcap, hbmax, hbadr, hbnone, hbcell⟩ := hed
      subst eb
      have Hsn := Lib.hid hsn; have Hend := Lib.hid hend; have Hbcell := Lib.hid hbcell; have Hbadr := Lib.hid hbadr
      clear h cr hv0 hor hmem hsn hend hbcell hbadr er
      have hM0 := IMap.made wq N
      have hb6 := below1 wq (.map #[] 0)
      have hMz : wq.heap.size < (wq.alloc (.map #[] 0)).heap.size := by rw [World.size_alloc]; omega
      have HM0 := Lib.hid hM0; have Hb6 := Lib.hid hb6
      clear hM0 hb6
      go_wp2
      clear cr2
      generalize wq.alloc (.map #[] 0) = w6 at *
      generalize hbM : wq.heap.size = bM at *
      have HbM := Lib.hid hbM
      clear hbM
      go_loopg [34] b.length (fun g s34 wr => ∃ j n' : Nat, j ≤ b.length ∧ g = b.length - j ∧ s34 = .int .i64 j ∧ n' ≤ 2 * j ∧ IMap wr bM n' N (inB (b.take j)) ∧ Below bM wq wr ∧ bM < wr.heap.size)
      case atStart => exact ⟨0, 0, Nat.zero_le _, rfl, rfl, by omega, HM0.out.congr fun v _ => rfl, Hb6.out, hMz⟩
      case round =>
        obtain ⟨j, n', hj, rfl, rfl, hn', hm, hb, hbz⟩ := hrel
        by_cases hjl : j < b.length
        · obtain rfl := Hbadr.out (by omega)
          obtain ⟨X, Y, hXY, hX, hY⟩ : ∃ X Y : Nat, b.getD j (0, 0) = ((X : Int), (Y : Int)) ∧ X < N ∧ Y < N := by
            have hme : b.getD j (0, 0) ∈ b := by rw [List.getD, List.getElem?_eq_getElem hjl]; exact List.getElem_mem _
            have := Hend.out _ hme
            unfold InN at this
            exact ⟨(b.getD j (0, 0)).1.toNat, (b.getD j (0, 0)).2.toNat, Prod.ext (by show (b.getD j (0, 0)).1 = ((b.getD j (0, 0)).1.toNat : Int); omega) (by show (b.getD j (0, 0)).2 = ((b.getD j (0, 0)).2.toNat : Int); omega), by omega, by omega⟩
          have hc := Hbcell.out j hjl
          have hsn := fun q => inB_snoc (b := b) (k := j) hjl q
          rw [hXY] at hc
          simp only [hXY] at hsn hc
          have hlb : rb < bM := by have := World.block_lt_of_cell? _ _ hc.1; rw [HbM.out] at this; exact this
          have cx : wr.cell? ⟨rb, ro + j * 2, none⟩ = some (.int .i64 (X : Int)) := by rw [← hc.1]; exact hb.cell (p := ⟨rb, ro + j * 2, none⟩) hlb
          have cy : wr.cell? ⟨rb, ro + j * 2 + 1, none⟩ = some (.int .i64 (Y : Int)) := by rw [← hc.2]; exact hb.cell (p := ⟨rb, ro + j * 2 + 1, none⟩) hlb
          have Hsn2 := Lib.hid hsn
          have hbE := below1 wr (Obj.cells #[.int .i64 (X : Int), .int .i64 (Y : Int)] 61)
          have cE := two_cells wr (.int .i64 (X : Int)) (.int .i64 (Y : Int)) 61
          have hmE := (hm.below hbE).below (Below.refl _ (wr.alloc (Obj.cells #[.int .i64 (X : Int), .int .i64 (Y : Int)] 61))).drew
          have hbE2 := Lib.hid ((hb.trans (hbE.mono (by omega))).drew)
          have hEz : wr.heap.size < (wr.alloc (Obj.cells #[.int .i64 (X : Int), .int .i64 (Y : Int)] 61)).heap.size := by rw [World.size_alloc]; omega
          clear hc hXY hsn hm hb hbE
          go_upto_region 12 with fail
          clear cx cy
          generalize wr.alloc (Obj.cells #[.int .i64 (X : Int), .int .i64 (Y : Int)] 61) = wE at *
          generalize wr.heap.size = E at *
          have cE' : wE.drew.cell? ⟨E, 0, none⟩ = some (.int .i64 (X : Int)) ∧ wE.drew.cell? ⟨E, 1, none⟩ = some (.int .i64 (Y : Int)) := cE
          obtain ⟨wA1, e1, mA1, gA1⟩ := hmE.put hX (by omega) (by omega)
          obtain ⟨wA2, e2, mA2, gA2⟩ := mA1.put hY (by omega) (by omega)
          obtain ⟨wB1, e3, mB1, gB1⟩ := hmE.put hY (by omega) (by omega)
          obtain ⟨wB2, e4, mB2, gB2⟩ := mB1.put hX (by omega) (by omega)
          have hne : (some E : Option Nat) ≠ some bM := fun e => by cases e; omega
          have tr : ∀ {wa wb : World}, wa.grownBy wb (some bM) → E < wa.heap.size → wa.cell? ⟨E, 0, none⟩ = some (.int .i64 (X : Int)) ∧ wa.cell? ⟨E, 1, none⟩ = some (.int .i64 (Y : Int)) → wb.cell? ⟨E, 0, none⟩ = some (.int .i64 (X : Int)) ∧ wb.cell? ⟨E, 1, none⟩ = some (.int .i64 (Y : Int)) := fun g hz c =>
            ⟨(World.cell?_of_block (a := ⟨E, 0, none⟩) (g.block E hz hne)).trans c.1, (World.cell?_of_block (a := ⟨E, 1, none⟩) (g.block E hz hne)).trans c.2⟩
          have cA1 := tr gA1 hEz cE'
          have cB1 := tr gB1 hEz cE'
          have cA2 := tr gA2 (Nat.lt_of_lt_of_le hEz gA1.size) cA1
          have cB2 := tr gB2 (Nat.lt_of_lt_of_le hEz gB1.size) cB1
          have RA := Lib.hid (show IMap wA2 bM (n' + 1 + 1) N (inB (b.take (j + 1))) ∧ Below bM wq wA2 ∧ bM < wA2.heap.size from ⟨mA2.congr fun v _ => by rw [Hsn2.out v]; simp only [Int.ofNat_inj, Bool.or_assoc], (hbE2.out.grown gA1 (by show bM ≤ wE.heap.size; omega) (fun g e => by cases e; exact Nat.le_refl _)).grown gA2 (by have := gA1.size; show bM ≤ wA1.heap.size; have h2 : wE.drew.heap.size = wE.heap.size := rfl; omega) (fun g e => by cases e; exact Nat.le_refl _), by have := mA2.lt; omega⟩)
          have RB := Lib.hid (show IMap wB2 bM (n' + 1 + 1) N (inB (b.take (j + 1))) ∧ Below bM wq wB2 ∧ bM < wB2.heap.size from ⟨mB2.congr fun v _ => by rw [Hsn2.out v]; simp only [Int.ofNat_inj, Bool.or_assoc]; congr 1; exact Bool.or_comm _ _, (hbE2.out.grown gB1 (by show bM ≤ wE.heap.size; omega) (fun g e => by cases e; exact Nat.le_refl _)).grown gB2 (by have := gB1.size; show bM ≤ wB1.heap.size; have h2 : wE.drew.heap.size = wE.heap.size := rfl; omega) (fun g e => by cases e; exact Nat.le_refl _), by have := mB2.lt; omega⟩)
          clear mA1 mA2 mB1 mB2 gA1 gA2 gB1 gB2 hmE tr cE
          go_region_held3 (fun w' => w'.cell? ⟨E, 0, none⟩ = some (.int .i64 (X : Int)) ∧ w'.cell? ⟨E, 1, none⟩ = some (.int .i64 (Y : Int))) (first | exact cE' | exact cA1 | exact cA2 | exact cB1 | exact cB2) (fail)
          all_goals go_wp2
          all_goals go_roundg (b.length - (j + 1))
          case measure => go_light; omega
          case rel => exact ⟨j + 1, n' + 1 + 1, by omega, rfl, by go_num, by omega, RA.out⟩
        · obtain rfl : j = b.length := by omega
          rw [List.take_length] at hm
          obtain ⟨D, hD, hDs⟩ := hm
          obtain ⟨wp, rfl⟩ : ∃ wp : World, wp = wr := ⟨_, rfl⟩
          have hfb : ∀ q, bcnt (L.take k) q ≤ 100 := fun q => by have := bcnt_le (L.take k) q; rw [List.length_take] at this; omega
          have hL0 : LeftIs N (inB b) (fun _ => false) (Maps.has D) := fun l => by rw [hDs l]; exact ⟨fun ⟨v, a, b, c⟩ => ⟨v, a, b, rfl, c⟩, fun ⟨v, a, b, _, c⟩ => ⟨v, a, b, c⟩⟩
          have hbp : Below wq.heap.size wq wp := by rw [HbM.out]; exact hb
          have hst := H1.out.below hbp
          have HL0 := Lib.hid hL0; have Hst := Lib.hid hst; have Hfb := Lib.hid hfb
          have hzC2 : bC < bM := by omega
          have hz5b : w5.heap.size ≤ bM := by omega
          clear hDs hb hL0 hst hbp hfb
          go_wp2_with (at_range; refine wpList_range_own _ rfl _ 92 rfl 3 3 intKeyedB Try.underlying92 _ bM n' D rfl hD ?_; intro w0 hrg0 hg0 hs0)
          go_frame
          go_loopw [47] (fun _ wr => ∃ (left : Lit → Bool) (cnt : Nat) (J : Nat → Bool), CuRg w5 wr N bC S bM wp.heap.size n' (bcnt (L.take k)) (inB b) D left cnt J) (fun _ wr => wr.rangeLeft bM wp.heap.size)
          case atStart => exact ⟨_, _, _, hrg0, HL0.out, fun q h => (by cases h), (by have h1 := Hst.out.below (below_grown0 hg0); exact ⟨h1.g, h1.row.congr fun q _ => rfl, h1.lt⟩)⟩
          case round =>
            obtain ⟨left, cnt, J, hst⟩ := hrel
            have Hs1 := Lib.hid hst
            have hrg := hst.rg
            clear hst
            go_wp2_with (first
              | (at_next; refine wpList_next_ranges_ii _ rfl _ rfl 3 3 .i64 .i64 intKeyedB Try.underlying3 Try.underlying3 bM wp.heap.size n' D _ _ rfl hrg ?_ ?_)
              | go_in)
            · intro hc0 hl0
              have hall := fun q (hq : q < N) (hi : inB b q = true) => Hs1.out.left.done hl0 hq hi
              have HS1 := Lib.hid (show CuSt w5 wr N bC S (bcnt (L.take (k + 1))) from ⟨Hs1.out.st.g, row_rn Hs1.out.st.row fun q hq => by
                rw [Hsn.out q]
                unfold plusJ
                have h1 := Hs1.out.sub q
                have h2 := hall q hq
                cases hJ : J q <;> cases hI : inB b q <;> simp_all, Hs1.out.st.lt⟩)
              clear hall hl0 hc0 hrg
              go_wp2
              go_roundg (n - (k + 1))
              case measure => go_light; omega
              case rel => exact ⟨k + 1, by omega, rfl, by go_num, HS1.out⟩
            · intro x c w1 cnt1 hwx hwc hlk hat hrg1 hlt1 hg1 hs1 hen
              obtain ⟨v, hv, hI, hJ, ex⟩ := (Hs1.out.left _).1 hlk
              simp only [Lit.int.injEq, true_and] at ex
              subst ex
              have hnext := Hs1.out.left.next (v := v) (by omega)
              have st1 : CuSt w5 w1 N bC S (plusJ (bcnt (L.take k)) J) := ⟨Hs1.out.st.g.andThen hg1 (fun j e => Or.inl (by have := Option.some.inj e; omega)), Hs1.out.st.row.of_block (hg1.block bC (by have := Hs1.out.st.row.lt; exact this) (fun e => by have := Option.some.inj e; omega)), Hs1.out.st.lt⟩
              have cv := st1.row.cell hv
              have fv := st1.row.frozen v
              have lv := st1.row.lt
              have hfv := Hfb.out v
              simp only [rn, plusJ, hJ, Bool.false_eq_true, if_false, Nat.add_zero] at cv
              generalize hfq : bcnt (L.take k) v = fq at *
              have hfin : CuRg w5 (w1.setCell ⟨bC, v, none⟩ (.int .i64 ((fq + 1 : Nat) : Int))) N bC S bM wp.heap.size n' (bcnt (L.take k)) (inB b) D (fun z => left z && !z.sameKey (.int .i64 (v : Int))) cnt1 (fun u => J u || decide (v = u)) := by
                have h2 := st1.add v (fq + 1)
                refine ⟨hrg1.kept (grown_set w1 bC v _) (fun e => by have := Option.some.inj e; omega) (fun e => by have := Option.some.inj e; omega), hnext, fun q hq => ?_, ⟨h2.g, row_rn h2.row fun q _ => ?_, h2.lt⟩⟩
                · simp only [Bool.or_eq_true, decide_eq_true_eq] at hq
                  rcases hq with hq | rfl
                  · exact Hs1.out.sub q hq
                  · exact hI
                · by_cases e : q = v
                  · subst e; simp [plusJ, hfq]
                  · simp [plusJ, e, Ne.symm e]
              have Hfin := Lib.hid hfin; have Hlt1 := Lib.hid hlt1
              clear hfin hnext st1 hrg1 hlt1 hg1 hlk hat hwx hwc hrg hI hJ
              go_wp2
              go_roundw
              case rel => exact ⟨_, _, _, Hfin.out⟩
              case measure =>
                show (w1.setCell ⟨bC, v, none⟩ (.int .i64 ((fq + 1 : Nat) : Int))).rangeLeft bM wp.heap.size < _
                rw [Hfin.out.rg.left_eq, Hs1.out.rg.left_eq]; exact Hlt1.out
    · obtain rfl : k = n := by omega
      obtain ⟨wo, rfl⟩ : ∃ wo : World, wo = wq := ⟨_, rfl⟩
      have hrow : wo.rowIs bC 3 N (rn (bcnt L)) := row_rn h.row fun q _ => by rw [Hn.out, List.take_length]
      have hbc := fun q => bcnt_le L q
      have Hrow := Lib.hid hrow; have Hbc := Lib.hid hbc; have Hg5 := Lib.hid h.g
      have hCo := hrow.lt
      clear h hrow hbc
      go_wp2
      go_loopg [12, 60] N (fun g s12 s60 wr => ∃ i : Nat, i ≤ N ∧ g = N - i ∧ s60 = .int .i64 i ∧ wr.ownsRow wo.heap.size 3 1 s12 (cutsTo L i).length (nvals (cutsTo L i)) ∧ Below wo.heap.size wo wr)
      case atStart => exact ⟨0, Nat.zero_le _, rfl, rfl, World.ownsRow_nil _ _ _ _, Below.refl _ _⟩
      case round =>
        obtain ⟨i, hi, rfl, rfl, ho, hb⟩ := hrel
        obtain ⟨a2, c2, rfl⟩ := ownsRow_form ho
        have hz := hb.size
        by_cases hlt : i < N
        · have ci := (Hrow.out.of_block (hb.block _ hCo)).cell hlt
          simp only [rn] at ci
          have hsu := cutsTo_succ L i
          have hcl : (cutsTo L i).length ≤ 100 := by have := List.length_filter_le (fun q => decide (1 < bcnt L q)) (List.range i); rw [List.length_range] at this; exact Nat.le_trans this (by omega)
          have hbi := Hbc.out i
          generalize bcnt L i = bi at *
          have Ho := Lib.hid ho; have Hb := Lib.hid hb; have Hsu := Lib.hid hsu
          clear ho hb hsu
          by_cases h1 : 1 < bi
          · have hI : (1 : Int) < (bi : Int) := by omega
            have Hsu2 := Lib.hid (show cutsTo L (i + 1) = cutsTo L i ++ [i] by rw [Hsu.out, if_pos h1])
            generalize hcc : cutsTo L i = cc at *
            have Hcc := Lib.hid hcc
            clear h1 hcc
            go_wp2_with (at_builtin; refine wpList_append_has rfl (.tmp 67) (.tmp 69) 39 rfl wo.heap.size 3 (.int .i64 0) 8 Try.underlying39 info3 rfl (.slice a2 cc.length c2) cc.length (nvals cc) rfl (Ho.out.alloc _) _ 1 (nvals [i]) rfl (HasCells.one _ _ _ rfl) (by omega) (by omega) (by simp; omega) ?_; intro a5 c5 w5' ho5 hg5; have Ho5 := Lib.hid ho5; have Hb5 := Lib.hid ((Hb.out.alloc hz (Obj.cells #[.int .i64 (i : Int)] 3)).grown hg5 (by simp; omega) (fun g e => (Ho.out.lt g e).1)); clear ho5 hg5)
            go_roundg (N - (i + 1))
            case measure => go_light; omega
            case rel => exact ⟨i + 1, by omega, rfl, by go_num, by rw [Hsu2.out]; have h5 := Ho5.out; simpa [nvals, ints] using h5, Hb5.out⟩
          · have hI : ¬ (1 : Int) < (bi : Int) := by omega
            have Hsu2 := Lib.hid (show cutsTo L (i + 1) = cutsTo L i by rw [Hsu.out, if_neg h1, List.append_nil])
            clear h1
            go_wp2
            go_roundg (N - (i + 1))
            case measure => go_light; omega
            case rel => exact ⟨i + 1, by omega, rfl, by go_num, by rw [Hsu2.out]; exact Ho.out, Hb.out⟩
        · obtain rfl : N = i := by omega
          have hrf : wo.rowIs (w.heap.size + 1) 27 2 (fun i => if i = 0 then .int .i64 0 else .int .i64 0) := S5.out.r.of_block (Hg5.out.block _ S5.out.r.lt (fun e => by have := Option.some.inj e; omega))
          have hrw := hrf.of_block (hb.block _ hrf.lt)
          obtain ⟨z0, z1, f0, f1, l0⟩ := row_facts hrw
          have e := (hrw.set 0 (.int .i64 0)).set 1 (.int .i64 0)
          have e0 := e.cell (show 0 < 2 by omega)
          have e1 := e.cell (show 1 < 2 by omega)
          simp only [if_true, show ¬ (1 : Nat) = 0 by omega, show ¬ (0 : Nat) = 1 by omega, if_false] at e0 e1
          have hbw : Below w.heap.size w wr := (S5.out.hb.grown Hg5.out S5.out.hb.size (fun g e => by have := Option.some.inj e; omega)).trans (hb.mono (by have := Hg5.out.size; have := S5.out.hb.size; omega))
          have hfin := (hbw.setCell (p := ⟨w.heap.size + 1, 0, none⟩) (by show w.heap.size ≤ w.heap.size + 1; omega) (.int .i64 0)).setCell (p := ⟨w.heap.size + 1, 1, none⟩) (by show w.heap.size ≤ w.heap.size + 1; omega) (.int .i64 0)
          have hlo : w.heap.size + 1 < wo.heap.size := hrf.lt
          have hside : ∀ g, (Value.slice a2 (cutsTo L N).length c2).ownBlock = some g → some g ≠ some (w.heap.size + 1) := fun g e e2 => by have := (ho.lt g e).1; have := Option.some.inj e2; omega
          have hsd : (Value.slice a2 (cutsTo L N).length c2).ownBlock = none ∨ (Value.slice a2 (cutsTo L N).length c2).ownBlock ≠ some (w.heap.size + 1) := by
            cases hq : (Value.slice a2 (cutsTo L N).length c2).ownBlock with
            | none => exact Or.inl rfl
            | some g => exact Or.inr (hside g hq)
          have how := ownsRow_low ((ho.kept (grown_set wr (w.heap.size + 1) 0 (.int .i64 0)) hsd).kept (grown_set _ (w.heap.size + 1) 1 (.int .i64 0)) hsd) (show w.heap.size ≤ wo.heap.size by omega)
          have Hcl := Lib.hid (show cutsL N (blkD l N) = cutsTo L N from Hcuts.out.symm)
          have Hho := Lib.hid how; have Hfin := Lib.hid hfin
          clear ho hb hrf hrw e hbw hfin how hside hsd
          go_wp2
          exact bodyPost_ret (v := .tuple #[.slice a2 (cutsTo L N).length c2, .agg #[.int .i64 0, .int .i64 0]]) (by simp [results, Try.results33, go_sem, e0, e1]) rfl ⟨_, rfl, by rw [Hcl.out]; exact Hho.out, Hfin.out⟩

end Go.Proofs.Ytmhcnekbfngafaa
