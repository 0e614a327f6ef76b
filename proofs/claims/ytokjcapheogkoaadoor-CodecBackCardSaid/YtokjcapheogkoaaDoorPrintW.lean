/- codec.Print: the walk. -/
import Derived.Test.YtokjcapheogkoaaDoorShelf
import Derived.Test.YtokjcapheogkoaaDoorBld
import Derived.Test.YtokjcapheogkoaaDoorTxtP
import Derived.Test.YtokjcapheogkoaaDoorFormF
import Derived.Test.YtokjcapheogkoaaDoorPackW
import Derived.StillTailTactics
import Derived.Lib.AppendIntMem
namespace Go.Proofs.YtokjcapheogkoaaDoor
open Go Go.RowKit

abbrev Pow10 (w : World) : Prop := Lib.TabIs Tryd.prog w "internal/strconv.uint64pow10" .u64 Lib.pow10Tab
theorem gp10 : Tryd.prog.globalNamed "internal/strconv.uint64pow10" = some 0 := by kernel_rfl
theorem Pow10.below {w w' : World} (h : Pow10 w) (hb : Below w.heap.size w w') : Pow10 w' := by
  unfold Pow10 Lib.TabIs World.var? at h ⊢
  rw [gp10] at h ⊢
  simp only [Option.bind_some] at h ⊢
  have hlt : 0 < w.heap.size := by
    rcases Nat.eq_zero_or_pos w.heap.size with e | e
    · rw [Array.getElem?_eq_none (by omega)] at h; cases h
    · exact e
  rw [hb.block 0 hlt]
  exact h
theorem itoa_any (n : Nat) (hn : n ≤ 100) (w : World) (hT : Pow10 w) :
    Calls Tryd.prog 24 #[.int .i64 (n : Int)] w fun e w' => e = .returned (.string (bA (Lib.decDigits n))) ∧ Below w.heap.size w w' := by
  rcases Nat.lt_or_ge n 100 with h | h
  · refine (Tryd.strconv_Itoa_small n h w).mono ?_
    rintro e w' ⟨rfl, rfl⟩
    exact ⟨rfl, Below.refl _ _⟩
  · refine (Tryd.strconv_Itoa (n : Int) (by omega) (by omega) w hT).mono ?_
    rintro e w' ⟨rfl, k, os, rfl⟩
    refine ⟨?_, Lib.below_grow _ w (Nat.le_refl _) k os⟩
    have : Lib.itoa (n : Int) = Lib.decDigits n := by unfold Lib.itoa; rw [if_neg (by omega)]; rfl
    rw [this]; rfl
theorem IsBuilder.below {T e : TypeId} {B b : Nat} {bs : List Value} {w w' : World} (h : Lib.IsBuilder T e B b bs w) (hb : Below w.heap.size w w') : Lib.IsBuilder T e B b bs w' := by
  have key : ∀ p, Lib.BuilderAt T e B b p bs w → Lib.BuilderAt T e B b p bs w' := fun p hp => by
    have hlt := hp.lt
    obtain ⟨hB, v, hbk, hown, hne⟩ := hp
    exact ⟨hB, v, by rw [hb.block b hlt]; exact hbk, ownsRow_below hown hb (Nat.le_refl _), hne⟩
  exact h.elim (fun x => Or.inl (key _ x)) (fun x => Or.inr (key _ x))

/-- codec.Print comes back. -/
def PrintPost (n : Int) (l : List (Int × Int)) (w : World) (e : Ending) (w' : World) : Prop :=
  ∃ c a s, e = .returned (.tuple #[.string s, .agg #[.int .i64 c, .int .i64 a]]) ∧ GraphSpec n l c a ∧ Below w.heap.size w w' ∧
    ((c ≠ 0 ∧ s = ⟨#[]⟩) ∨ (c = 0 ∧ a = 0 ∧ ∃ N : Nat, n = N ∧ s = bA (txtN N (prsTo N (adj l) N))))

set_option maxHeartbeats 6400000 in
set_option maxRecDepth 100000 in
theorem print_any (n : Int) (l : List (Int × Int)) (sv : Value) (w : World) (h : IsEdges w sv l) (hT : Pow10 w) :
    Calls Tryd.prog 9 #[.agg #[.int .i64 n, sv]] w (PrintPost n l w) := by
  obtain ⟨ad, cap, rfl⟩ := h.form
  have hg := GRes.start w n (.slice ad l.length cap)
  have He := Lib.hid h; have Hg := Lib.hid hg; have HT := Lib.hid hT
  have cn := hg.cn
  have cs := hg.cs
  clear h hg hT
  obtain ⟨c, a, hsp⟩ := GraphSpec.ex n l
  have Hsp := Lib.hid hsp
  go_enter Tryd.func9, Tryd.ntmps9
  go_upto_region 1 with fail
  generalize (w.alloc (Obj.cells #[.int .i64 n, .slice ad l.length cap] 24)).alloc (Obj.cells #[Value.int IntKind.i64 0, Value.int IntKind.i64 0] 27) = w1 at *
  by_cases hc : c = 0
  · subst hc
    obtain ⟨rfl, hn0, hn1, hl1, -⟩ := graph_good' hsp
    obtain ⟨hgood, -⟩ := hsp.good
    obtain ⟨N, rfl⟩ := Int.eq_ofNat_of_zero_le hn0
    have hN : N ≤ 100 := by omega
    clear hsp hn0 hn1
    have Hlen := Lib.hid (form_length hgood)
    go_upto_region 2 with (go_at_call 22; refine (form_ok hgood _ w1 (He.out.below Hg.out.hb)).mono ?_; rintro e w2 ⟨v, ho, hb2, rfl⟩; have Ho := Lib.hid ho; have Hb2 := Lib.hid hb2; obtain ⟨a2, c2, rfl⟩ := ho.form; clear ho hb2)
    have hbF := upp Hb2.out (below2 w2 (Obj.cells #[.int .i64 (N : Int), .slice a2 (formL N l).length c2] 24) (Obj.cells #[.int .i64 0, .int .i64 0] 27))
    have H4 := Lib.hid (Hg.out.below hbF)
    have HT4 := Lib.hid (HT.out.below H4.out.hb)
    have hoe := Ho.out.edges.below (below2 w2 (Obj.cells #[.int .i64 (N : Int), .slice a2 (formL N l).length c2] 24) (Obj.cells #[.int .i64 0, .int .i64 0] 27))
    have gv := below_cell (below1 (w2.alloc (Obj.cells #[.int .i64 (N : Int), .slice a2 (formL N l).length c2] 24)) (Obj.cells #[.int .i64 0, .int .i64 0] 27)) (two_cells w2 (.int .i64 (N : Int)) (.slice a2 (formL N l).length c2) 24).1
    have gs := below_cell (below1 (w2.alloc (Obj.cells #[.int .i64 (N : Int), .slice a2 (formL N l).length c2] 24)) (Obj.cells #[.int .i64 0, .int .i64 0] 27)) (two_cells w2 (.int .i64 (N : Int)) (.slice a2 (formL N l).length c2) 24).2
    have fv := (two_cells (w2.alloc (Obj.cells #[.int .i64 (N : Int), .slice a2 (formL N l).length c2] 24)) (.int .i64 0) (.int .i64 0) 27).1
    rw [World.size_alloc] at fv
    have hszF : ((w2.alloc (Obj.cells #[.int .i64 (N : Int), .slice a2 (formL N l).length c2] 24)).alloc (Obj.cells #[.int .i64 0, .int .i64 0] 27)).heap.size = w2.heap.size + 2 := by rw [World.size_alloc, World.size_alloc]
    clear hbF cn cs
    generalize (w2.alloc (Obj.cells #[.int .i64 (N : Int), .slice a2 (formL N l).length c2] 24)).alloc (Obj.cells #[.int .i64 0, .int .i64 0] 27) = w4 at *
    obtain ⟨G, hG⟩ : ∃ G, G = w2.heap.size := ⟨_, rfl⟩
    rw [← hG] at gv gs fv hszF ⊢
    have hends : ∀ e ∈ formL N l, 0 ≤ e.1 ∧ e.1 < e.2 ∧ e.2 < (N : Int) := prs_ends
    have hfl : (formL N l).length ≤ 1000 := by
      have := Hlen.out
      show (prsTo N (adj l) N).length ≤ 1000
      omega
    have hprs : prsTo N (adj l) N = formL N l := rfl
    generalize hL : formL N l = L at *
    have Hoe := Lib.hid hoe; have Gv := Lib.hid (And.intro gv gs); have Hends := Lib.hid hends; have Hprs := Lib.hid hprs
    clear hoe hends hL hG Ho Hb2 hprs
    go_upto_region 5 with fail
    have hbu := Lib.fresh_isBuilder 50 5 w4
    have hb5 := below1 w4 (Obj.cells #[.pointer none, .slice none 0 0] 50)
    have gv5 := below_cell hb5 gv
    have gs5 := below_cell hb5 gs
    have HT5 := Lib.hid (HT4.out.below hb5)
    have Hbu := Lib.hid hbu; have Hb5 := Lib.hid hb5
    obtain ⟨B, hB⟩ : ∃ B, B = G + 2 := ⟨_, rfl⟩
    rw [hszF] at Hbu Hb5
    have hsz5 : (w4.alloc (Obj.cells #[.pointer none, .slice none 0 0] 50)).heap.size = B + 1 := by rw [World.size_alloc, hszF, hB]
    rw [← hB] at Hbu Hb5 hszF ⊢
    have hGB : G < B := by omega
    have HB := Lib.hid hB
    clear gv gs fv hbu hb5 hB
    generalize w4.alloc (Obj.cells #[.pointer none, .slice none 0 0] 50) = w5 at *
    go_wp2_with fail
    refine (itoa_any N hN w5 HT5.out).mono ?_
    rintro e w6 ⟨rfl, hb6⟩
    have hbu6 := IsBuilder.below Hbu.out hb6
    have hadd := run_string_add_sum (P := Tryd.prog) w6 (bA (Lib.decDigits N)) ⟨#[58]⟩ (by
      have := digits_few N (by omega)
      rw [bA_size]; show _ + 1 ≤ _; omega)
    rw [show bA (Lib.decDigits N) ++ (⟨#[58]⟩ : ByteArray) = bA (Lib.decDigits N ++ [58]) from bA_append _ [58]] at hadd
    have gv6 := below_cell hb6 gv5
    have gs6 := below_cell hb6 gs5
    have Hbu6 := Lib.hid hbu6; have Gs6 := Lib.hid gs6
    have hsz6 := hb6.size
    have Hb6 := Lib.hid (show Below B w4 w6 from Hb5.out.trans (hb6.mono (by omega)))
    have hpl : (Lib.decDigits N ++ [58]).length ≤ 4 := by
      have := digits_few N (by omega)
      rw [List.length_append]; simp; omega
    generalize bA (Lib.decDigits N) = dN at *
    obtain ⟨pre, hpre⟩ : ∃ pre, pre = Lib.decDigits N ++ [58] := ⟨_, rfl⟩
    rw [← hpre] at hadd hpl
    obtain ⟨ps, hps⟩ : ∃ ps, ps = bA pre := ⟨_, rfl⟩
    rw [← hps] at hadd
    have Hpre := Lib.hid hpre; have Hps := Lib.hid hps
    clear hb6 hbu6 gv5 gs5 gv6 hpre hps
    go_wp2_with fail
    refine (writeString_any B B [] ps w6 Hbu6.out (by rw [Hps.out, bA_size]; simp; omega) (by omega)).mono ?_
    rintro e w7 ⟨rfl, hbu7, hb7⟩
    have hst7 : Lib.IsBuilder 50 5 B B (Lib.byteCells (pre ++ (L.take 0).flatMap txtE)) w7 := by
      have : Lib.byteCells (pre ++ (L.take 0).flatMap txtE) = [] ++ Lib.strCells ps := by rw [Hps.out, bA_cells]; simp
      rw [this]
      exact Or.inr hbu7
    have Hst7 := Lib.hid hst7
    have Hb7 := Lib.hid (Hb6.out.trans hb7)
    have hsz7 := hb7.size
    have gs7 : w7.cell? ⟨G, 1, none⟩ = some (.slice a2 L.length c2) := by
      rw [World.cell?_of_block (hb7.block G (by omega))]; exact Gs6.out
    clear hbu7 hb7 hst7 hadd
    obtain ⟨ea, ecap, eb, eo, eeq, ecap2, emax, eadr, -, ecell⟩ := Hoe.out
    simp only [Value.slice.injEq, true_and] at eeq
    obtain ⟨rfl, rfl⟩ := eeq
    have Ecell := Lib.hid ecell; have Eadr := Lib.hid eadr
    have hpre4 : pre.length ≤ 4 := hpl
    clear ecell eadr hpl
    go_wp2
    clear gs7
    go_loopg [26] L.length (fun g s26 wr => ∃ q : Nat, q ≤ L.length ∧ g = L.length - q ∧ s26 = .int .i64 (q : Int) ∧ Lib.IsBuilder 50 5 B B (Lib.byteCells (pre ++ (L.take q).flatMap txtE)) wr ∧ Below B w4 wr)
    case atStart => exact ⟨0, Nat.zero_le _, rfl, rfl, Hst7.out, Hb7.out⟩
    case round =>
      obtain ⟨q, hq, rfl, rfl, hst, hb⟩ := hrel
      have Hst := Lib.hid hst; have Hb := Lib.hid hb
      have hszr := hb.size
      have hacc : (pre ++ (L.take q).flatMap txtE).length ≤ 9000 := by
        have := txtL_few (L := L.take q) fun e he => by
          have := Hends.out e (List.mem_of_mem_take he)
          omega
        rw [List.length_append]
        rw [List.length_take] at this
        omega
      by_cases hlt : q < L.length
      · obtain rfl := Eadr.out (by omega)
        obtain ⟨x, y, He2, cx, cy⟩ := edges_at Ecell.out (hszF.symm ▸ hb) hlt
        have hm : L.getD q (0, 0) ∈ L := by
          rw [show L.getD q (0, 0) = L[q] by simp [List.getD, hlt]]
          exact List.getElem_mem _
        have hxy := Hends.out _ hm
        rw [He2.out] at hxy
        obtain ⟨x0, xy, yN⟩ := hxy
        simp only at x0 xy yN
        obtain ⟨X, rfl⟩ := Int.eq_ofNat_of_zero_le x0
        obtain ⟨Y, rfl⟩ := Int.eq_ofNat_of_zero_le (show 0 ≤ y by omega)
        have hX : X < 100 := by omega
        have hY : Y < 100 := by omega
        have Htk := Lib.hid (take_snoc hlt He2.out)
        clear hst hb x0 xy yN hm
        go_upto_region 9 with fail
        refine region_tail 9 (by kernel_rfl) (by kernel_rfl) ?_
        have hb8 : Below wr.heap.size wr (wr.alloc (Obj.cells #[.int .i64 (X : Int), .int .i64 (Y : Int)] 40)).drew := (below1 wr _).drew
        have Hst8 := Lib.hid (IsBuilder.below Hst.out hb8)
        have Hb8 := Lib.hid (Hb.out.trans (hb8.mono (by omega)))
        have ce0 : (wr.alloc (Obj.cells #[.int .i64 (X : Int), .int .i64 (Y : Int)] 40)).drew.cell? ⟨wr.heap.size, 0, none⟩ = some (.int .i64 X) := (two_cells wr (.int .i64 X) (.int .i64 Y) 40).1
        have ce1 : (wr.alloc (Obj.cells #[.int .i64 (X : Int), .int .i64 (Y : Int)] 40)).drew.cell? ⟨wr.heap.size, 1, none⟩ = some (.int .i64 Y) := (two_cells wr (.int .i64 X) (.int .i64 Y) 40).2
        have hsz8 := hb8.size
        generalize (wr.alloc (Obj.cells #[.int .i64 (X : Int), .int .i64 (Y : Int)] 40)).drew = w8 at *
        have d1 := digits_few X (by omega)
        have d2 := digits_few Y (by omega)
        have a1 := run_string_add_sum (P := Tryd.prog) w8 ⟨#[32]⟩ (bA (Lib.decDigits X)) (by rw [bA_size]; show 1 + _ ≤ _; omega)
        rw [show (⟨#[32]⟩ : ByteArray) ++ bA (Lib.decDigits X) = bA ([32] ++ Lib.decDigits X) from bA_append [32] _] at a1
        have a2 := run_string_add_sum (P := Tryd.prog) w8 (bA ([32] ++ Lib.decDigits X)) ⟨#[45]⟩ (by rw [bA_size]; show _ + 1 ≤ _; simp; omega)
        rw [show bA ([32] ++ Lib.decDigits X) ++ (⟨#[45]⟩ : ByteArray) = bA ([32] ++ Lib.decDigits X ++ [45]) from bA_append _ [45]] at a2
        have a3 := run_string_add_sum (P := Tryd.prog) w8 (bA ([32] ++ Lib.decDigits X ++ [45])) (bA (Lib.decDigits Y)) (by rw [bA_size, bA_size]; simp; omega)
        rw [bA_append] at a3
        have i1 := Tryd.strconv_Itoa_small X hX
        have i2 := Tryd.strconv_Itoa_small Y hY
        rw [show (⟨(Lib.decDigits X).toArray⟩ : ByteArray) = bA (Lib.decDigits X) from rfl] at i1
        rw [show (⟨(Lib.decDigits Y).toArray⟩ : ByteArray) = bA (Lib.decDigits Y) from rfl] at i2
        have hs3 : bA ([32] ++ Lib.decDigits X ++ [45] ++ Lib.decDigits Y) = bA (txtE ((X : Int), (Y : Int))) := by
          congr 1
          unfold txtE
          simp
        rw [hs3] at a3
        have hE8 := txtE_few (e := ((X : Int), (Y : Int))) (by simp; omega) (by simp; omega)
        have HE8 := Lib.hid hE8
        have I1 := Lib.hid i1; have I2 := Lib.hid i2
        generalize hbe : bA (txtE ((X : Int), (Y : Int))) = be at *
        have Hbe := Lib.hid hbe
        generalize bA ([32] ++ Lib.decDigits X ++ [45]) = b2 at *
        generalize bA ([32] ++ Lib.decDigits X) = b1 at *
        generalize bA (Lib.decDigits X) = dX at *
        generalize bA (Lib.decDigits Y) = dY at *
        clear i1 i2 hs3 hE8 d1 d2 hbe cx cy hb8
        simp only [List.take_succ_cons, List.take_zero, List.drop_succ_cons, List.drop_zero]
        repeat (first
          | still_step
          | still_call (I1.out _)
          | still_call (I2.out _))
        refine wpStill_nil ?_
        go_upto_region 10 with (go_at_call 23; refine (writeString_any B B _ be w8 Hst8.out (by have := HE8.out; rw [← Hbe.out, bA_size, Lib.byteCells_length]; omega) (by omega)).mono ?_; rintro e w9 ⟨rfl, hbu9, hb9⟩)
        have Hst9 := Lib.hid (show Lib.IsBuilder 50 5 B B (Lib.byteCells (pre ++ (L.take (q + 1)).flatMap txtE)) w9 from by
          rw [Htk.out, List.flatMap_append, ← List.append_assoc, Lib.byteCells_append, show (([((X : Int), (Y : Int))] : List (Int × Int)).flatMap txtE) = txtE ((X : Int), (Y : Int)) by simp, ← bA_cells (txtE _), Hbe.out]
          exact Or.inr hbu9)
        have Hb9 := Lib.hid (Hb8.out.trans hb9)
        clear hbu9 hb9 ce0 ce1 a1 a2 a3
        go_wp2
        go_roundg (L.length - (q + 1))
        case measure => go_light; omega
        case rel => exact ⟨q + 1, by omega, rfl, by go_num, Hst9.out, Hb9.out⟩
      · obtain rfl : q = L.length := by omega
        rw [List.take_length] at hst hacc
        have Hst0 := Lib.hid hst
        clear hst hb
        go_wp2_with fail
        refine (Tryd.Builder_String_any B B (pre ++ L.flatMap txtE) wr Hst0.out (by omega)).mono ?_
        rintro e w10 ⟨rfl, hb10⟩
        have hb10' := Hb.out.trans hb10
        have H10 := Lib.hid (H4.out.low hb10' (by have := H4.out.hz.lt; omega) (by have := H4.out.hb.size; omega))
        have hadd := run_string_add_sum (P := Tryd.prog) w10 (bA (pre ++ L.flatMap txtE)) ⟨#[10]⟩ (by rw [bA_size]; show _ + 1 ≤ _; omega)
        rw [show bA (pre ++ L.flatMap txtE) ++ (⟨#[10]⟩ : ByteArray) = bA (pre ++ L.flatMap txtE ++ [10]) from bA_append _ [10]] at hadd
        have hfin : bA (pre ++ L.flatMap txtE ++ [10]) = bA (txtN N L) := by
          rw [Hpre.out]; unfold txtN; congr 1; simp
        rw [hfin] at hadd
        have Hfin := Lib.hid (show bA (txtN N L) = bA (txtN N (prsTo N (adj l) N)) by rw [Hprs.out])
        have b0 := H10.out.hz.cell (show 0 < 2 by omega)
        have b1 := H10.out.hz.cell (show 1 < 2 by omega)
        have d0 := H10.out.hz.frozen 0
        have d1 := H10.out.hz.frozen 1
        have hBl := H10.out.hz.lt
        rw [show (⟨(pre ++ L.flatMap txtE).toArray⟩ : ByteArray) = bA (pre ++ L.flatMap txtE) from rfl]
        generalize bA (txtN N L) = res at *
        generalize bA (pre ++ L.flatMap txtE) = acc at *
        clear hfin hb10 hb10' hacc
        go_wp2
        obtain ⟨e0, e1, e2⟩ := H10.out.put (.int .i64 0) (.int .i64 0)
        exact bodyPost_ret (v := .tuple #[.string res, .agg #[.int .i64 0, .int .i64 0]]) (by simp [results, Tryd.results9, go_sem, e0, e1]) rfl ⟨0, 0, _, rfl, Hsp.out, e2, Or.inr ⟨rfl, rfl, N, rfl, Hfin.out⟩⟩
  · have q : (c != 0) = true := by simp [hc]
    have Hc := Lib.hid hc
    clear hsp
    go_upto_region 2 with (go_at_call 22; refine (form_bad Hsp.out Hc.out _ w1 (He.out.below Hg.out.hb)).mono ?_; rintro e w2 ⟨v, ho, hb2, rfl⟩; have Hb2 := Lib.hid hb2; obtain ⟨a2, c2, rfl⟩ := ho.form; clear ho hb2)
    have hbF := upp Hb2.out (below2 w2 (Obj.cells #[.int .i64 0, .slice a2 0 c2] 24) (Obj.cells #[.int .i64 c, .int .i64 a] 27))
    have H3 := Lib.hid (Hg.out.below hbF)
    have fv := two_cells (w2.alloc (Obj.cells #[.int .i64 0, .slice a2 0 c2] 24)) (.int .i64 c) (.int .i64 a) 27
    rw [World.size_alloc] at fv
    clear hbF cn cs hc
    generalize (w2.alloc (Obj.cells #[.int .i64 0, .slice a2 0 c2] 24)).alloc (Obj.cells #[.int .i64 c, .int .i64 a] 27) = w3 at *
    obtain ⟨f0, f1⟩ := fv
    have b0 := H3.out.hz.cell (show 0 < 2 by omega)
    have b1 := H3.out.hz.cell (show 1 < 2 by omega)
    have d0 := H3.out.hz.frozen 0
    have d1 := H3.out.hz.frozen 1
    have hBl := H3.out.hz.lt
    go_wp2
    go_region
    all_goals
      obtain ⟨e0, e1, e2⟩ := H3.out.put (.int .i64 c) (.int .i64 a)
      go_wp2
      exact bodyPost_ret (v := .tuple #[.string ⟨#[]⟩, .agg #[.int .i64 c, .int .i64 a]]) (by simp [results, Tryd.results9, go_sem, e0, e1]) rfl ⟨c, a, _, rfl, Hsp.out, e2.drew, Or.inl ⟨Hc.out, rfl⟩⟩

end Go.Proofs.YtokjcapheogkoaaDoor
