/- colour.Edges: Misra and Gries, edge by edge. -/
import Derived.Test.YtnhhohhhpaejmaaDoorEdgW
import Derived.Test.YtnhhohhhpaejmaaDoorPD
import Derived.Test.YtnhhohhhpaejmaaDoorFormF
import Derived.Test.YtnhhohhhpaejmaaDoorGLists
import Derived.Test.YtnhhohhhpaejmaaDoorPF
import Derived.Test.YtnhhohhhpaejmaaDoorStepA
import Derived.Deep.RegionLaw
namespace Go.Proofs.YtnhhohhhpaejmaaDoor
open Go Go.RowKit

/-- What colour.Edges answers. -/
def EdsPost (D : Nat) (n : Int) (l : List (Int × Int)) (w : World) (e : Ending) (w' : World) : Prop :=
  ∃ c a v, e = .returned (.tuple #[v, .agg #[.int .i64 c, .int .i64 a]]) ∧ GraphSpec n l c a ∧ Below w.heap.size w w' ∧
    ((c ≠ 0 ∧ v = .slice none 0 0) ∨ (c = 0 ∧ ∃ (N : Nat) (C : Nat → Nat → Nat), n = (N : Int) ∧ GoodGraph n l ∧ ColI N (adj l) D C ∧ Done N (prsTo N (adj l) N) C (prsTo N (adj l) N).length ∧
      IsInts w' v ((prsTo N (adj l) N).map fun e => (C e.1.toNat e.2.toNat : Int) - 1)))
theorem prs_at {N : Nat} {p : Nat → Nat → Bool} {j : Nat} (hj : j < (prsTo N p N).length) : ∃ x y : Nat, (prsTo N p N).getD j (0, 0) = ((x : Int), (y : Int)) ∧ x < y ∧ y < N ∧ p x y = true := by
  have he : (prsTo N p N).getD j (0, 0) ∈ prsTo N p N := by rw [List.getD, List.getElem?_eq_getElem hj]; exact List.getElem_mem hj
  obtain ⟨i, k, h1, h2, h3, h4, e⟩ := mem_prsTo.1 he
  exact ⟨i, k, e, h2, h3, h4⟩
theorem prs_ne {N : Nat} {p : Nat → Nat → Bool} {i j : Nat} (hi : i < (prsTo N p N).length) (hj : j < (prsTo N p N).length) (hne : i ≠ j) : (prsTo N p N).getD i (0, 0) ≠ (prsTo N p N).getD j (0, 0) := fun e => by
  simp only [List.getD, List.getElem?_eq_getElem hi, List.getElem?_eq_getElem hj, Option.getD_some] at e
  exact hne ((List.getElem_inj (rise_nodup (prsTo_rise _ _ _))).1 e)
/-- The next edge has no colour yet. -/
theorem Done.new {N k x y : Nat} {p : Nat → Nat → Bool} {C : Nat → Nat → Nat} (h : Done N (prsTo N p N) C k) (hk : k < (prsTo N p N).length) (he : (prsTo N p N).getD k (0, 0) = ((x : Int), (y : Int))) (hxy : x < y) (hy : y < N) : C x y = 0 := by
  by_cases e : C x y = 0
  · exact e
  · exfalso
    obtain ⟨j, hj, h1 | h1⟩ := (h x y (by omega) hy).1 e
    · exact prs_ne (by omega) hk (by omega) (h1.trans he.symm)
    · obtain ⟨a, b, h2, h3, -, -⟩ := prs_at (p := p) (N := N) (j := j) (by omega)
      rw [h1] at h2
      simp only [Prod.mk.injEq] at h2
      omega
theorem good_irrE {l : List (Int × Int)} {N : Nat} (h : GoodGraph (N : Int) l) : ∀ i, i < N → adj l i i = false := fun i _ => adj_self (fun j hj => (h.fine j hj).2.1) i
theorem hasD {w : World} {v : Value} {m : Nat} {xs : List Value} (h : HasCells w v m xs) : HasCells w.drew v m xs := by
  obtain ⟨a, cap, h1, h2, h3, h4, h5⟩ := h
  exact ⟨a, cap, h1, h2, h3, h4, h5⟩
theorem take_snocI {O : List Int} {q : Nat} (h : q < O.length) : (O.take (q + 1)).map (Value.int .i64) = (O.take q).map (Value.int .i64) ++ [.int .i64 (O.getD q 0)] := by
  rw [List.take_add_one, List.map_append, List.getElem?_eq_getElem h, List.getD, List.getElem?_eq_getElem h]; rfl
theorem nbrs_near {N : Nat} {l : List (Int × Int)} (hN : N ≤ 100) : NearX N (adj l) (nbrs l N) := fun r _ => by
  refine ⟨Nat.le_trans (List.length_filter_le _ _) (by rw [List.length_range]; exact hN), fun z => ?_⟩
  unfold nbrs
  rw [List.mem_filter, List.mem_range]

set_option maxHeartbeats 6400000 in
set_option maxRecDepth 100000 in
theorem edges_col (D : Nat) (n : Int) (l : List (Int × Int)) (hDg : GoodGraph n l → D ≤ 100 ∧ ∀ N : Nat, n = (N : Int) → ∀ a, a < N → cnt (adj l a) N ≤ D) (s : Value) (w : World) (h : IsEdges w s l) :
    Calls Tryd.prog 7 #[.agg #[.int .i64 n, s]] w (EdsPost D n l w) := by
  obtain ⟨ad, cap, rfl⟩ := h.form
  have St := Lib.hid (WkG.start (n := n) h)
  clear h
  obtain ⟨c, a, hsp⟩ := GraphSpec.ex n l
  have Hsp := Lib.hid hsp
  go_enter Tryd.func7, Tryd.ntmps7
  go_upto_region 1 with fail
  generalize (w.alloc (Obj.cells #[.int .i64 n, .slice ad l.length cap] 24)).alloc (Obj.cells #[.int .i64 0, .int .i64 0] 27) = w1 at *
  have cn := St.out.cn
  have cs := St.out.cs
  have hlS := St.out.r.lt
  by_cases hc : c = 0
  · subst hc
    obtain ⟨hgood, rfl⟩ := hsp.good
    obtain ⟨N, rfl⟩ := Int.eq_ofNat_of_zero_le hgood.lo
    have hN : N ≤ 100 := by have := hgood.hi; omega
    have Hg := Lib.hid hgood
    obtain ⟨hD, hdeg⟩ := hDg hgood
    clear hDg
    have Hlen := Lib.hid (form_length hgood)
    have hl1 := hgood.len
    clear hsp hgood
    go_upto_region 2 with (go_at_call 18; refine (form_ok Hg.out _ w1 St.out.he).mono ?_; rintro e w2 ⟨v, ho, hb2, rfl⟩; have Ho := Lib.hid ho; have Hb2 := Lib.hid hb2; obtain ⟨a2, c2, rfl⟩ := ho.form; clear ho hb2)
    have hbF := upc Hb2.out (below2 w2 (Obj.cells #[.int .i64 (N : Int), .slice a2 (formL N l).length c2] 24) (Obj.cells #[.int .i64 0, .int .i64 0] 27))
    have S4 := Lib.hid (St.out.below hbF)
    have hoe := Ho.out.edges.below (below2 w2 (Obj.cells #[.int .i64 (N : Int), .slice a2 (formL N l).length c2] 24) (Obj.cells #[.int .i64 0, .int .i64 0] 27))
    have gv := below_cell (below1 (w2.alloc (Obj.cells #[.int .i64 (N : Int), .slice a2 (formL N l).length c2] 24)) (Obj.cells #[.int .i64 0, .int .i64 0] 27)) (two_cells w2 (.int .i64 (N : Int)) (.slice a2 (formL N l).length c2) 24).1
    have gs := below_cell (below1 (w2.alloc (Obj.cells #[.int .i64 (N : Int), .slice a2 (formL N l).length c2] 24)) (Obj.cells #[.int .i64 0, .int .i64 0] 27)) (two_cells w2 (.int .i64 (N : Int)) (.slice a2 (formL N l).length c2) 24).2
    have fv := (two_cells (w2.alloc (Obj.cells #[.int .i64 (N : Int), .slice a2 (formL N l).length c2] 24)) (.int .i64 0) (.int .i64 0) 27).1
    rw [World.size_alloc] at fv
    have hszF : ((w2.alloc (Obj.cells #[.int .i64 (N : Int), .slice a2 (formL N l).length c2] 24)).alloc (Obj.cells #[.int .i64 0, .int .i64 0] 27)).heap.size = w2.heap.size + 2 := by rw [World.size_alloc, World.size_alloc]
    have hz2 := Hb2.out.size
    clear hbF cn cs
    generalize (w2.alloc (Obj.cells #[.int .i64 (N : Int), .slice a2 (formL N l).length c2] 24)).alloc (Obj.cells #[.int .i64 0, .int .i64 0] 27) = w4 at *
    obtain ⟨E, hE⟩ : ∃ E, E = w2.heap.size := ⟨_, rfl⟩
    rw [← hE] at gv gs fv hszF hz2 ⊢
    have hL : formL N l = prsTo N (adj l) N := rfl
    rw [hL] at hoe gs ⊢
    have Hoe := Lib.hid hoe
    obtain ⟨m, hm⟩ : ∃ m, (prsTo N (adj l) N).length = m := ⟨_, rfl⟩
    rw [hm] at gs Hoe Hlen ⊢
    have hm1 : m ≤ 1000 := by have := Hlen.out; omega
    have Hm := Lib.hid hm
    clear hoe hE hL hm Ho Hb2
    have cn := S4.out.cn
    go_upto_region 4 with fail
    have hmk := run_make_row' (P := Tryd.prog) 48 29 (.slice none 0 0) 24 Tryd.underlying48 infoS rfl .i64 .i64 N (by omega) (by omega)
    go_upto_region 5 with fail
    have hmk6 : EdMk w4 ((w4.alloc (Obj.cells (madeCells #[.slice none 0 0] N) 29)).alloc (Obj.cells #[.slice (some ⟨E + 2, 0, none⟩) N N, .int .i64 0] 50)) (E + 2) N 0 := by
      have h1 := World.rowIs_made w4 (.slice none 0 0) N 29
      rw [hszF] at h1
      have h2 := two_cells (w4.alloc (Obj.cells (madeCells #[.slice none 0 0] N) 29)) (.slice (some ⟨E + 2, 0, none⟩) N N) (.int .i64 0) 50
      rw [World.size_alloc, hszF] at h2
      refine ⟨?_, h2.1, (h1.alloc _).congr fun i _ => by simp, fun i hi => absurd hi (Nat.not_lt_zero _), by rw [World.size_alloc, World.size_alloc, hszF]⟩
      have h3 := below2 w4 (Obj.cells (madeCells #[.slice none 0 0] N) 29) (Obj.cells #[.slice (some ⟨E + 2, 0, none⟩) N N, .int .i64 0] 50)
      rwa [hszF] at h3
    generalize (w4.alloc (Obj.cells (madeCells #[.slice none 0 0] N) 29)).alloc (Obj.cells #[.slice (some ⟨E + 2, 0, none⟩) N N, .int .i64 0] 50) = w6 at *
    obtain ⟨b, hb⟩ : ∃ b, b = E + 2 := ⟨_, rfl⟩
    rw [← hb] at hmk6 hszF ⊢
    have hEb : E + 1 < b := by omega
    have hwb : w.heap.size + 2 ≤ b := by omega
    have Hmk6 := Lib.hid hmk6; have Gv := Lib.hid (And.intro gv (And.intro gs fv)); have Hhb := Lib.hid hb
    clear hmk hmk6 hb gv gs fv cn
    have cx6 := Hmk6.out.cx
    go_wp2_with fail
    clear cx6
    have hmk := run_make_row' (P := Tryd.prog) 29 3 (.int .i64 0) 8 Tryd.underlying29 info3 rfl .i64 .i64 N (by omega) (by omega)
    go_loopg [7, 33] N (fun g s7 s33 wr => ∃ k : Nat, k ≤ N ∧ g = N - k ∧ s33 = .int .i64 (k : Int) ∧ EdMk w4 wr b N k)
    case atStart => exact ⟨0, Nat.zero_le _, rfl, rfl, Hmk6.out⟩
    case round =>
      obtain ⟨k, hk, rfl, rfl, hm⟩ := hrel
      have Hmr := Lib.hid hm
      have cx := hm.cx
      have cn := (hm.hb.cell (p := ⟨w.heap.size, 0, none⟩) (by show w.heap.size < b; omega)).trans S4.out.cn
      have hszr := hm.sz
      by_cases hkN : k < N
      · have ct := hm.tab.cell hkN
        simp only [if_neg (Nat.lt_irrefl k)] at ct
        have ft := hm.tab.frozen k
        have ct2 := below_cell (below1 wr (.cells (madeCells #[.int .i64 0] N) 3)) ct
        have n1 : wr.heap.size ≠ b + 1 := by omega
        have n2 : wr.heap.size ≠ w.heap.size := by omega
        have n3 : wr.heap.size ≠ b := by omega
        have n4 : b ≠ b + 1 := by omega
        have n5 : b ≠ w.heap.size := by omega
        have l1 : b < wr.heap.size := by omega
        have l2 : b + 1 < wr.heap.size := by omega
        have l3 : w.heap.size < wr.heap.size := by omega
        have Hst := Lib.hid (hm.step hkN)
        have ft2 : (wr.alloc (.cells (madeCells #[.int .i64 0] N) 3)).frozen? ⟨b, k, none⟩ = false := (hm.tab.alloc _).frozen k
        clear hm
        go_wp2_with fail
        go_region_held3 (fun w' => w'.cell? ⟨b + 1, 0, none⟩ = some (.slice (some ⟨b, 0, none⟩) N N) ∧ w'.cell? ⟨w.heap.size, 0, none⟩ = some (.int .i64 (N : Int))) (go_keep) (fail)
        rename_i hheld
        clear hheld
        go_wp2_with fail
        go_roundg (N - (k + 1))
        case measure => go_light; omega
        case rel => exact ⟨k + 1, by omega, rfl, by go_num, Hst.out.drew⟩
      · obtain rfl : k = N := by omega
        have Hed := Lib.hid hm.done
        have Hbr := Lib.hid hm.hb
        have S7 := Lib.hid (S4.out.below (show Below w4.heap.size w4 wr by rw [hszF]; exact hm.hb))
        obtain ⟨w7, rfl⟩ : ∃ W : World, W = wr := ⟨_, rfl⟩
        have cs := S7.out.cs
        clear hm cx Hmr Hmk6 hmk
        go_upto_region 11 with (go_at_call 19; refine (glists_any Hg.out _ _ S7.out.he).mono ?_; rintro e w8 ⟨nb, V, rfl, hnb, hnl, hb8⟩; have Hnb := Lib.hid hnb; have Hb8 := Lib.hid hb8; clear hnb hb8)
        have hE8 := Hed.out.below Hb8.out
        have HE8 := Lib.hid hE8
        have Hb78 := Lib.hid (Hbr.out.trans (Hb8.out.mono (by omega)))
        have gs8 := (Hb78.out.cell (p := ⟨E, 1, none⟩) (by show E < b; omega)).trans Gv.out.2.1
        clear cs cn hE8
        have HRb := Lib.hid (show ∀ q, q < b → ¬ RowB (fun i => b + 2 + i) k q from fun q hq ⟨i, _, e⟩ => by have e2 : q = b + 2 + i := e; omega)
        have HRn := Lib.hid (show ∀ q, nb ≤ q → ¬ RowB (fun i => b + 2 + i) k q from fun q hq ⟨i, hi, e⟩ => by have e2 : q = b + 2 + i := e; have e3 : b + 2 + i < w7.heap.size := Hed.out.lt hi; omega)
        obtain ⟨ae, ce, be, oe, heq, -, -, hadr, -, hcell⟩ := Hoe.out
        rw [Hm.out] at heq hadr
        obtain ⟨e1, e2⟩ : a2 = ae ∧ c2 = ce := by simpa using heq
        subst e1 e2
        have Hcell := Lib.hid hcell; have Hadr := Lib.hid hadr
        clear heq hadr hcell
        go_wp2_with fail
        clear gs8
        go_loopg [10, 51] m (fun g s10 s51 wr => ∃ (j : Nat) (C : Nat → Nat → Nat), j ≤ m ∧ g = m - j ∧ s51 = .int .i64 (j : Int) ∧ EdI wr (b + 1) b k (fun i => b + 2 + i) C ∧ ColI k (adj l) D C ∧ Done k (prsTo k (adj l) k) C j ∧ NB wr nb k V (nbrs l k) ∧ Below b w4 wr)
        case atStart => exact ⟨0, fun _ _ => 0, Nat.zero_le _, rfl, rfl, HE8.out, ColI.none (fun i j _ _ => adj_symm l i j), Done.start, Hnb.out, Hb78.out⟩
        case round =>
          obtain ⟨j, C, hj, rfl, rfl, hE, hC, hdn, hnb, hb⟩ := hrel
          have HE := Lib.hid hE; have HC := Lib.hid hC; have Hdn := Lib.hid hdn; have HNb := Lib.hid hnb; have Hb := Lib.hid hb
          have hszb := hb.size
          clear hE hC hdn hnb hb
          by_cases hjm : j < m
          · obtain rfl := Hadr.out (by omega)
            have hjl : j < (prsTo k (adj l) k).length := by rw [Hm.out]; exact hjm
            obtain ⟨X, Y, hxy, hXY, hY, hadj⟩ := prs_at hjl
            obtain ⟨x, y, he, cx, cy⟩ := edges_at Hcell.out (show Below w4.heap.size w4 wr by rw [hszF]; exact Hb.out) hjl
            obtain ⟨e1, e2⟩ : (X : Int) = x ∧ (Y : Int) = y := by have := hxy.symm.trans he.out; simpa using this
            subst e1 e2
            have h0 := Hdn.out.new hjl hxy hXY hY
            have Hxy := Lib.hid hxy
            have hal := below1 wr (Obj.cells #[.int .i64 (X : Int), .int .i64 (Y : Int)] 39)
            have Hcall := Lib.hid (eedge_any hN hD (show X < k by omega) hY HC.out (fun i j _ _ => adj_symm l i j) (good_irrE Hg.out) (hdeg k rfl) hadj h0 (nbrs_near hN) (HE.out.below hal) (HNb.out.below hal))
            have Hal := Lib.hid hal
            obtain ⟨d0, d1⟩ := two_cells wr (.int .i64 (X : Int)) (.int .i64 (Y : Int)) 39
            clear hxy he h0 hal hadj
            go_upto_region 14 with fail
            clear cx cy
            go_upto_region 15 with (go_at_call 20; refine Hcall.out.mono ?_; rintro e wS ⟨rfl, C2, hp, hE2, hch2⟩; have HP := Lib.hid hp; have HE2 := Lib.hid hE2; have Hch2 := Lib.hid hch2; clear hp hE2 hch2)
            clear d0 d1
            go_wp2_with fail
            go_roundg (m - (j + 1))
            case measure => go_light; omega
            case rel => exact ⟨j + 1, C2, by omega, rfl, by go_num, HE2.out, HP.out.col, Hdn.out.step Hxy.out HP.out.nz HP.out.only, (HNb.out.below Hal.out).chg Hch2.out HRn.out, (Hb.out.alloc (by omega) _).trans (Hch2.out.toBelow (by rw [World.size_alloc]; omega) HRb.out)⟩
          · obtain rfl : j = m := by omega
            obtain ⟨w9, rfl⟩ : ∃ W : World, W = wr := ⟨_, rfl⟩
            have S9 := Lib.hid (S4.out.below (show Below w4.heap.size w4 w9 by rw [hszF]; exact Hb.out))
            have gs9 := (Hb.out.cell (p := ⟨E, 1, none⟩) (by show E < b; omega)).trans Gv.out.2.1
            obtain ⟨O, hO⟩ : ∃ O : List Int, O = (prsTo k (adj l) k).map fun e => (C e.1.toNat e.2.toNat : Int) - 1 := ⟨_, rfl⟩
            have hOl : O.length = j := by rw [hO, List.length_map, Hm.out]
            have hOat : ∀ q X Y, q < j → (prsTo k (adj l) k).getD q (0, 0) = (((X : Nat) : Int), ((Y : Nat) : Int)) → O.getD q 0 = (C X Y : Int) - 1 := fun q X Y hq e => by
              rw [hO, List.getD, List.getElem?_map]
              rw [List.getD] at e
              rw [List.getElem?_eq_getElem (by rw [Hm.out]; exact hq)] at e ⊢
              simp only [Option.getD_some, Option.map_some] at e ⊢
              rw [e]; simp
            have HO := Lib.hid hO; have HOl := Lib.hid hOl; have HOat := Lib.hid hOat
            clear hO hOl hOat hjm
            go_wp2_with fail
            clear gs9
            go_loopg [11, 13, 66] j (fun g s11 s13 s66 wr => ∃ q : Nat, q ≤ j ∧ g = j - q ∧ s66 = .int .i64 (q : Int) ∧ wr.ownsRow w9.heap.size 3 1 s11 q ((O.take q).map (Value.int .i64)) ∧ Below w9.heap.size w9 wr)
            case atStart => exact ⟨0, Nat.zero_le _, rfl, rfl, World.ownsRow_nil _ _ _ _, Below.refl _ _⟩
            case round =>
              obtain ⟨q, hq, rfl, rfl, ho, hb9⟩ := hrel
              obtain ⟨oa, oc, rfl⟩ := ownsRow_form ho
              have Ho := Lib.hid ho; have Hb9 := Lib.hid hb9
              have hsz9 := hb9.size
              clear ho hb9
              by_cases hqj : q < j
              · obtain rfl := Hadr.out (by omega)
                have hql : q < (prsTo k (adj l) k).length := by rw [Hm.out]; exact hqj
                obtain ⟨X, Y, hxy, hXY, hY, hadj⟩ := prs_at hql
                obtain ⟨x, y, he, cx, cy⟩ := edges_at Hcell.out (show Below w4.heap.size w4 wr by rw [hszF]; exact Hb.out.trans (Hb9.out.mono (by omega))) hql
                obtain ⟨e1, e2⟩ : (X : Int) = x ∧ (Y : Int) = y := by have := hxy.symm.trans he.out; simpa using this
                subst e1 e2
                have hX : X < k := by omega
                have Hval := Lib.hid (HOat.out q X Y hqj hxy)
                obtain ⟨W, hW⟩ : ∃ W, W = wr.alloc (Obj.cells #[.int .i64 (X : Int), .int .i64 (Y : Int)] 39) := ⟨_, rfl⟩
                have hbW : Below wr.heap.size wr W := by rw [hW]; exact below1 wr _
                have HbW := Lib.hid hbW
                obtain ⟨d0, d1⟩ := two_cells wr (.int .i64 (X : Int)) (.int .i64 (Y : Int)) 39
                have hzW : W.heap.size = wr.heap.size + 1 := by rw [hW]; exact World.size_alloc _ _
                rw [← hW] at d0 d1
                have HEW := Lib.hid (HE.out.below (Hb9.out.trans (hbW.mono hsz9)))
                have HoW := Lib.hid (ownsRow_below Ho.out hbW (Nat.le_refl _))
                have e0 := HEW.out.cx
                have e1 : W.cell? ⟨b, X, none⟩ = some (.slice (some ⟨b + 2 + X, 0, none⟩) k k) := HEW.out.head X hX
                have e2 : W.cell? ⟨b + 2 + X, Y, none⟩ = some (.int .i64 (C X Y : Nat)) := HEW.out.cell hX hY
                have hcv : C X Y ≤ 101 := by have := HC.out.le X Y hX hY; omega
                obtain ⟨cv, hcvv⟩ : ∃ cv, C X Y = cv := ⟨_, rfl⟩
                rw [hcvv] at e2 hcv Hval
                have hw1 : IntKind.i64.wrap ((cv : Int) - 1) = (cv : Int) - 1 := by unfold IntKind.wrap; simp [IntKind.bits, IntKind.signed]; omega
                have hnE : ∀ g, (Value.slice oa q oc).ownBlock = some g → g ≠ wr.heap.size := fun g e => by have := (Ho.out.lt g e).2; omega
                have HnE := Lib.hid hnE
                clear hxy he hadj hcvv hnE hbW
                go_upto_region 20 with fail
                clear cx cy
                rw [← hW]
                clear hW
                have l1 : b + 1 < w9.heap.size := World.block_lt_of_cell? _ _ HE.out.cx
                have l2 : b + 2 + X < w9.heap.size := HE.out.lt hX
                have hlo := fun g e => (Ho.out.lt g e).1
                have hhi := fun g e => (Ho.out.lt g e).2
                have KF := Lib.hid (fun W' (h0 : Below W.heap.size W W') => show W'.cell? ⟨wr.heap.size, 0, none⟩ = some (.int .i64 (X : Int)) ∧ W'.cell? ⟨wr.heap.size, 1, none⟩ = some (.int .i64 (Y : Int)) ∧ W'.cell? ⟨b + 1, 0, none⟩ = some (.slice (some ⟨b, 0, none⟩) k k) ∧ W'.cell? ⟨b, X, none⟩ = some (.slice (some ⟨b + 2 + X, 0, none⟩) k k) ∧ W'.cell? ⟨b + 2 + X, Y, none⟩ = some (.int .i64 (cv : Nat)) from ⟨below_cell h0 d0, below_cell h0 d1, below_cell h0 e0, below_cell h0 e1, below_cell h0 e2⟩)
                have KG := Lib.hid (fun W0 W' (h0 : Below W.heap.size W W0) (hg : W0.grownBy W' (Value.slice oa q oc).ownBlock) => show W'.cell? ⟨wr.heap.size, 0, none⟩ = some (.int .i64 (X : Int)) ∧ W'.cell? ⟨wr.heap.size, 1, none⟩ = some (.int .i64 (Y : Int)) ∧ W'.cell? ⟨b + 1, 0, none⟩ = some (.slice (some ⟨b, 0, none⟩) k k) ∧ W'.cell? ⟨b, X, none⟩ = some (.slice (some ⟨b + 2 + X, 0, none⟩) k k) ∧ W'.cell? ⟨b + 2 + X, Y, none⟩ = some (.int .i64 (cv : Nat)) from
                  have K := KF.out W0 h0
                  ⟨hg.cell K.1 fun e => Nat.lt_irrefl _ (hhi _ e.symm), hg.cell K.2.1 fun e => Nat.lt_irrefl _ (hhi _ e.symm), hg.cell K.2.2.1 fun e => Nat.lt_irrefl _ (Nat.lt_of_le_of_lt (hlo _ e.symm) l1), hg.cell K.2.2.2.1 fun e => Nat.lt_irrefl _ (Nat.lt_of_le_of_lt (hlo _ e.symm) (Nat.lt_trans (Nat.lt_succ_self _) l1)), hg.cell K.2.2.2.2 fun e => Nat.lt_irrefl _ (Nat.lt_of_le_of_lt (hlo _ e.symm) l2)⟩)
                have Hlo := Lib.hid hlo
                clear hlo hhi l1 l2
                have hal1 : ∀ o, Below W.heap.size W (W.alloc o).drew := fun o => (below1 W o).drew
                have hal2 : ∀ o, Below W.heap.size W (W.drew.alloc o) := fun o => upc (Below.refl _ W).drew (below1 W.drew o)
                have hzz : w9.heap.size ≤ W.heap.size := by omega
                go_region_held3 (fun w' => w'.cell? ⟨wr.heap.size, 0, none⟩ = some (.int .i64 (X : Int)) ∧ w'.cell? ⟨wr.heap.size, 1, none⟩ = some (.int .i64 (Y : Int)) ∧ w'.cell? ⟨b + 1, 0, none⟩ = some (.slice (some ⟨b, 0, none⟩) k k) ∧ w'.cell? ⟨b, X, none⟩ = some (.slice (some ⟨b + 2 + X, 0, none⟩) k k) ∧ w'.cell? ⟨b + 2 + X, Y, none⟩ = some (.int .i64 (cv : Nat)))
                  (first | exact ⟨d0, d1, e0, e1, e2⟩ | with_reducible exact KF.out _ (hal1 _) | with_reducible exact KF.out _ (hal2 _) | exact k5 | fail)
                  (first
                    | (refine step_append_has rfl (.tmp 70) (.tmp 84) 29 rfl w9.heap.size 3 (.int .i64 0) 8 Tryd.underlying29 info3 rfl (.slice oa q oc) q ((O.take q).map (Value.int .i64)) rfl (ownsRow_below HoW.out (by first | with_reducible exact hal1 _ | with_reducible exact hal2 _) (Nat.le_refl _)) _ 1 [.int .i64 ((cv : Int) - 1)] rfl (by first | exact HasCells.one _ _ _ rfl | exact hasD (HasCells.at W (.int .i64 ((cv : Int) - 1)) _ rfl hzW.symm) | exact hasD (HasCells.one _ _ _ rfl)) (by omega) (by omega) (Nat.le_trans hzz (by first | exact (hal1 _).size | exact (hal2 _).size)) ?_; intro a5 c5 w5 ho5 hg5; have k5 := KG.out _ _ (by first | with_reducible exact hal1 _ | with_reducible exact hal2 _) hg5; have Ho5 := Lib.hid ho5; have Hb5 := Lib.hid ((((Hb9.out.trans (HbW.out.mono hsz9))).trans ((by first | with_reducible exact hal1 _ | with_reducible exact hal2 _ : Below W.heap.size W _).mono hzz)).grown hg5 (Nat.le_trans hzz (by first | exact (hal1 _).size | exact (hal2 _).size)) Hlo.out); clear ho5 hg5))
                rename_i hheld
                clear hheld d0 d1 e0 e1 e2
                go_wp2_with fail
                go_roundg (j - (q + 1))
                case measure => go_light; omega
                case rel => exact ⟨q + 1, by omega, rfl, by go_num, by rw [take_snocI (by rw [HOl.out]; exact hqj), Hval.out]; exact Ho5.out, Hb5.out⟩
              · obtain rfl : q = j := by omega
                have SF := Lib.hid (S9.out.below (Hb9.out.mono (Nat.le_refl _)))
                obtain ⟨z0, z1, f0, f1, l0⟩ := row_facts SF.out.r
                obtain ⟨p0, p1, p2⟩ := SF.out.put (.int .i64 0) (.int .i64 0)
                have hwl : w.heap.size + 1 < w9.heap.size := by omega
                have hof := (Ho.out.kept (grown_set wr (w.heap.size + 1) 0 (.int .i64 0)) (own_side Ho.out hwl)).kept (grown_set _ (w.heap.size + 1) 1 (.int .i64 0)) (own_side Ho.out hwl)
                have Hof := Lib.hid hof
                clear hof
                go_wp2_with fail
                exact bodyPost_ret (v := .tuple #[.slice oa q oc, .agg #[.int .i64 0, .int .i64 0]]) (by simp [results, Tryd.results7, go_sem, p0, p1]) rfl ⟨0, 0, _, rfl, Hsp.out, p2, .inr ⟨rfl, k, C, rfl, Hg.out, HC.out, by rw [Hm.out]; exact Hdn.out, by
                  have h1 := Hof.out
                  rw [show O.take q = O by rw [← HOl.out, List.take_length], HO.out] at h1
                  exact IsInts.owned h1⟩⟩
  · have q : (c != 0) = true := by simp [hc]
    have Hc := Lib.hid hc
    clear hsp hc
    go_upto_region 2 with (go_at_call 18; refine (form_bad Hsp.out Hc.out _ w1 St.out.he).mono ?_; rintro e w2 ⟨v, ho, hb2, rfl⟩; have Hb2 := Lib.hid hb2; obtain ⟨a2, c2, rfl⟩ := ho.form; clear ho hb2)
    have hbF := upc Hb2.out (below2 w2 (Obj.cells #[.int .i64 0, .slice a2 0 c2] 24) (Obj.cells #[.int .i64 c, .int .i64 a] 27))
    have S3 := Lib.hid (St.out.below hbF)
    have fv := two_cells (w2.alloc (Obj.cells #[.int .i64 0, .slice a2 0 c2] 24)) (.int .i64 c) (.int .i64 a) 27
    rw [World.size_alloc] at fv
    have hz2 := Hb2.out.size
    have n1 : w.heap.size + 1 ≠ w2.heap.size + 1 := by omega
    clear hbF cn cs
    generalize (w2.alloc (Obj.cells #[.int .i64 0, .slice a2 0 c2] 24)).alloc (Obj.cells #[.int .i64 c, .int .i64 a] 27) = w3 at *
    generalize w2.heap.size = E at *
    obtain ⟨f0, f1⟩ := fv
    obtain ⟨y0, y1, k0, k1, m0⟩ := row_facts S3.out.r
    go_wp2
    go_region
    all_goals
      obtain ⟨p0, p1, p2⟩ := S3.out.put (.int .i64 c) (.int .i64 a)
      go_wp2
      exact bodyPost_ret (v := .tuple #[.slice none 0 0, .agg #[.int .i64 c, .int .i64 a]]) (by simp [results, Tryd.results7, go_sem, p0, p1]) rfl ⟨c, a, _, rfl, Hsp.out, p2.drew, .inl ⟨Hc.out, rfl⟩⟩

end Go.Proofs.YtnhhohhhpaejmaaDoor
