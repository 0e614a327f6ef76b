/- arborref.Printed: the walk. -/
import Derived.Test.YtokjcapheogkoaaDoorDigW
import Derived.Test.YtokjcapheogkoaaDoorGridOf
import Derived.Test.YtokjcapheogkoaaDoorOf
import Derived.Test.YtokjcapheogkoaaDoorFormP
import Derived.Deep.RegionHeld3
import Derived.BigQuiet
namespace Go.Proofs.YtokjcapheogkoaaDoor
open Go Go.RowKit

theorem upq {a b c : World} (h : Below a.heap.size a b) (k : Below b.heap.size b c) : Below a.heap.size a c := h.trans (k.mono h.size)

set_option maxHeartbeats 6400000 in
set_option maxRecDepth 100000 in
theorem printed_any {l : List (Int × Int)} {N : Nat} (hgood : GoodGraph N l) (hN : N ≤ 100) (sv : Value) (w : World) (h : IsEdges w sv l) :
    Calls Tryd.prog 13 #[.agg #[.int .i64 (N : Int), sv]] w fun e w' => e = .returned (.string (bA (txtN N (prsTo N (adj l) N)))) ∧ Below w.heap.size w w' := by
  obtain ⟨ad, cap, rfl⟩ := h.form
  obtain ⟨-, -, -, hl1, hok⟩ : True ∧ True ∧ True ∧ l.length ≤ 1000 ∧ ∀ j, j < l.length → EndsOk (N : Int) (l.getD j (0, 0)) ∧ (l.getD j (0, 0)).1 ≠ (l.getD j (0, 0)).2 := by
    rcases hgood.spec with ⟨_, h, _⟩ | ⟨hb, ⟨_, _, _, hw, _⟩ | ⟨h, _, h2⟩⟩
    · cases h
    · exact absurd rfl hw.ne0
    · unfold TooBig at hb
      exact ⟨trivial, trivial, trivial, by omega, fun j hj => ⟨(h j hj).1, (h j hj).2.1⟩⟩
  have Hlen := Lib.hid (form_length hgood)
  have Hok := Lib.hid hok
  have hb1 := below1 w (Obj.cells #[.int .i64 (N : Int), .slice ad l.length cap] 24)
  have c0 := two_cells w (.int .i64 (N : Int)) (.slice ad l.length cap) 24
  have cn := c0.1
  have cs := c0.2
  have he := h.below hb1
  have He := Lib.hid he; have Hb1 := Lib.hid hb1
  clear c0 h hok he hb1
  go_enter Tryd.func13, Tryd.ntmps13
  go_upto_region 1 with fail
  generalize w.alloc (Obj.cells #[.int .i64 (N : Int), .slice ad l.length cap] 24) = w1 at *
  go_wp2_with fail
  refine (digits_any N (by omega) w1).mono ?_
  rintro e w2 ⟨rfl, hb2⟩
  have d1 := digits_few N (by omega)
  have hadd := run_string_add_sum (P := Tryd.prog) w2 (bA (Lib.decDigits N)) ⟨#[58]⟩ (by rw [bA_size]; show _ + 1 ≤ _; omega)
  rw [show bA (Lib.decDigits N) ++ (⟨#[58]⟩ : ByteArray) = bA (Lib.decDigits N ++ [58]) from bA_append _ [58]] at hadd
  have cn2 := below_cell hb2 cn
  have cs2 := below_cell hb2 cs
  have He2 := Lib.hid (He.out.below hb2)
  have Hb2 := Lib.hid (upq Hb1.out hb2)
  obtain ⟨pre, hpre⟩ : ∃ pre, pre = Lib.decDigits N ++ [58] := ⟨_, rfl⟩
  rw [← hpre] at hadd
  have hpl : pre.length ≤ 4 := by rw [hpre, List.length_append]; simp; omega
  have Hpre := Lib.hid hpre
  generalize bA (Lib.decDigits N) = dN at *
  clear hb2 cn cs d1 hpre
  go_wp2_with fail
  clear hadd
  refine (gridOf_any l N _ _ He2.out hN Hok.out).mono ?_
  rintro e w3 ⟨gv, rfl, hg3, hb3⟩
  have HG := Lib.hid (show HasGrid w3 gv N (adj l) from ⟨_, hg3⟩)
  have Hb3 := Lib.hid (upq Hb2.out hb3)
  clear hg3 hb3 cn2 cs2
  go_wp2_with fail
  refine (of_any N (adj l) gv _ hN HG.out).mono ?_
  rintro e w4 ⟨v, ho, hb4, rfl⟩
  have Hb4 := Lib.hid (upq Hb3.out hb4)
  have hends : ∀ e ∈ prsTo N (adj l) N, 0 ≤ e.1 ∧ e.1 < e.2 ∧ e.2 < (N : Int) := prs_ends
  have hfl : (prsTo N (adj l) N).length ≤ 1000 := by have := Hlen.out; omega
  generalize hL : prsTo N (adj l) N = L at *
  have HL := Lib.hid hL
  clear hL
  obtain ⟨ea, ecap, eb, eo, rfl, -, -, eadr, -, ecell⟩ := ho.edges
  have Hends := Lib.hid hends; have Ecell := Lib.hid ecell; have Eadr := Lib.hid eadr
  clear hends ho hb4 ecell eadr
  have hfe : (Instr.field 24 (.agg #[.int .i64 (N : Int), .slice ea L.length ecap]) 1).run Tryd.prog w4 = .ok (.slice ea L.length ecap) w4 := by kernel_rfl
  go_wp2
  clear hfe
  go_loopg [3, 5] L.length (fun g s3 s5 wr => ∃ q : Nat, q ≤ L.length ∧ g = L.length - q ∧ s5 = .int .i64 (q : Int) ∧ s3 = .string (bA (pre ++ (L.take q).flatMap txtE)) ∧ Below w4.heap.size w4 wr)
  case atStart => exact ⟨0, Nat.zero_le _, rfl, rfl, by simp, Below.refl _ _⟩
  case round =>
    obtain ⟨q, hq, rfl, rfl, rfl, hb⟩ := hrel
    have Hb := Lib.hid hb
    have hacc : (pre ++ (L.take q).flatMap txtE).length ≤ 9000 := by
      have := txtL_few (L := L.take q) fun e he => by
        have := Hends.out e (List.mem_of_mem_take he)
        omega
      rw [List.length_append]
      rw [List.length_take] at this
      omega
    by_cases hlt : q < L.length
    · obtain rfl := Eadr.out (by omega)
      obtain ⟨x, y, He3, cx, cy⟩ := edges_at Ecell.out hb hlt
      have hm : L.getD q (0, 0) ∈ L := by
        rw [show L.getD q (0, 0) = L[q] by simp [List.getD, hlt]]
        exact List.getElem_mem _
      have hxy := Hends.out _ hm
      rw [He3.out] at hxy
      obtain ⟨x0, xy, yN⟩ := hxy
      simp only at x0 xy yN
      obtain ⟨X, rfl⟩ := Int.eq_ofNat_of_zero_le x0
      obtain ⟨Y, rfl⟩ := Int.eq_ofNat_of_zero_le (show 0 ≤ y by omega)
      have hX : X < 1000 := by omega
      have hY : Y < 1000 := by omega
      have Htk := Lib.hid (take_snoc hlt He3.out)
      clear hb x0 xy yN hm
      have d1 := digits_few X hX
      have d2 := digits_few Y hY
      have a1 : ∀ w8, (Op.stringOp .add ⟨#[32]⟩ (bA (Lib.decDigits X))).run Tryd.prog w8 = .ok (.string (bA ([32] ++ Lib.decDigits X))) w8 := fun w8 => by
        rw [run_string_add_sum w8 _ _ (by rw [bA_size]; show 1 + _ ≤ _; omega)]
        rw [show (⟨#[32]⟩ : ByteArray) ++ bA (Lib.decDigits X) = bA ([32] ++ Lib.decDigits X) from bA_append [32] _]
      have a2 : ∀ w8, (Op.stringOp .add (bA ([32] ++ Lib.decDigits X)) ⟨#[45]⟩).run Tryd.prog w8 = .ok (.string (bA ([32] ++ Lib.decDigits X ++ [45]))) w8 := fun w8 => by
        rw [run_string_add_sum w8 _ _ (by rw [bA_size]; show _ + 1 ≤ _; simp; omega)]
        rw [show bA ([32] ++ Lib.decDigits X) ++ (⟨#[45]⟩ : ByteArray) = bA ([32] ++ Lib.decDigits X ++ [45]) from bA_append _ [45]]
      have a3 : ∀ w8, (Op.stringOp .add (bA ([32] ++ Lib.decDigits X ++ [45])) (bA (Lib.decDigits Y))).run Tryd.prog w8 = .ok (.string (bA ([32] ++ Lib.decDigits X ++ [45] ++ Lib.decDigits Y))) w8 := fun w8 => by
        rw [run_string_add_sum w8 _ _ (by rw [bA_size, bA_size]; simp; omega), bA_append]
      have a4 : ∀ w8, (Op.stringOp .add (bA (pre ++ (L.take q).flatMap txtE)) (bA ([32] ++ Lib.decDigits X ++ [45] ++ Lib.decDigits Y))).run Tryd.prog w8 = .ok (.string (bA (pre ++ (L.take (q + 1)).flatMap txtE))) w8 := fun w8 => by
        rw [run_string_add_sum w8 _ _ (by rw [bA_size, bA_size]; simp only [List.length_append, List.length_singleton] at hacc ⊢; omega), bA_append, Htk.out, List.flatMap_append]
        congr 3
        simp [txtE]
      have i1 := digits_any X hX
      have i2 := digits_any Y hY
      generalize hs1 : bA (pre ++ (L.take (q + 1)).flatMap txtE) = s1 at *
      have Hs1 := Lib.hid hs1
      clear hs1
      generalize bA (pre ++ (L.take q).flatMap txtE) = s0 at *
      generalize bA ([32] ++ Lib.decDigits X ++ [45] ++ Lib.decDigits Y) = b3 at *
      generalize bA ([32] ++ Lib.decDigits X ++ [45]) = b2 at *
      generalize bA ([32] ++ Lib.decDigits X) = b1 at *
      generalize bA (Lib.decDigits X) = dX at *
      generalize bA (Lib.decDigits Y) = dY at *
      have I1 := Lib.hid i1; have I2 := Lib.hid i2
      clear i1 i2 d1 d2 hacc
      go_upto_region 6 with fail
      have hd0 : Below wr.heap.size wr wr.drew := (Below.refl _ _).drew
      go_region_held3 (fun w' => w'.cell? ⟨eb, eo + q * 2, none⟩ = some (.int .i64 (X : Int)) ∧ w'.cell? ⟨eb, eo + q * 2 + 1, none⟩ = some (.int .i64 (Y : Int)))
        (first | exact ⟨cx, cy⟩ | exact ⟨below_cell h01 cx, below_cell h01 cy⟩ | exact ⟨below_cell h02 cx, below_cell h02 cy⟩)
        (first
          | (go_at_call_of 27 (Value.int .i64 (X : Int)); refine (I1.out _).mono ?_; rintro e wp ⟨rfl, hb1⟩; have h01 : Below wr.heap.size wr wp := hd0.trans (hb1.mono hd0.size))
          | (go_at_call_of 27 (Value.int .i64 (Y : Int)); refine (I2.out _).mono ?_; rintro e wq ⟨rfl, hb2⟩; have h02 : Below wr.heap.size wr wq := h01.trans (hb2.mono h01.size)))
      all_goals
        have Hbq := Lib.hid (Hb.out.trans (h02.mono Hb.out.size))
        clear h01 h02 hb1 hb2 cx cy a1 a2 a3 a4
        go_wp2
        go_roundg (L.length - (q + 1))
        case measure => go_light; omega
        case rel => exact ⟨q + 1, by omega, rfl, by go_num, by rw [Hs1.out], Hbq.out⟩
    · obtain rfl : q = L.length := by omega
      rw [List.take_length] at hacc
      have hadd := run_string_add_sum (P := Tryd.prog) wr (bA (pre ++ L.flatMap txtE)) ⟨#[10]⟩ (by rw [bA_size]; show _ + 1 ≤ _; omega)
      rw [show bA (pre ++ L.flatMap txtE) ++ (⟨#[10]⟩ : ByteArray) = bA (pre ++ L.flatMap txtE ++ [10]) from bA_append _ [10]] at hadd
      have hfin : bA (pre ++ L.flatMap txtE ++ [10]) = bA (txtN N L) := by
        rw [Hpre.out]; unfold txtN; congr 1; simp
      rw [hfin] at hadd
      rw [List.take_length]
      generalize hres : bA (txtN N L) = res at *
      have Hres := Lib.hid hres
      generalize bA (pre ++ L.flatMap txtE) = acc at *
      clear hfin hb hacc hres
      go_wp2
      go_ret
      exact ⟨by rw [HL.out, Hres.out]; rfl, upq Hb4.out Hb.out⟩

end Go.Proofs.YtokjcapheogkoaaDoor
