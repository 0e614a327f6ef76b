/- colour.atCut: colours part by part at a cut: the walk. -/
import Derived.Test.YtnhhohhhpaejmaaDoorPK
import Derived.Test.YtnhhohhhpaejmaaDoorBlkW
namespace Go.Proofs.YtnhhohhhpaejmaaDoor
open Go Go.RowKit Go.Maps

set_option maxHeartbeats 12800000 in
set_option maxRecDepth 100000 in
theorem atCut_any {N D : Nat} {G : Nat → Nat → Bool} {X : Nat → List Nat} (hX : NrOk N G X) (hN : N ≤ 100) (hl : ∀ v, v < N → (X v).length ≤ 100) (hD : ∀ v, v < N → (X v).length ≤ D) (hDl : D ≤ 100) {x : Nat} (hx : x < N)
    (hcut : ∃ a b, a < N ∧ b < N ∧ G x a = true ∧ G x b = true ∧ ¬ Rch N G (shutO x) a b) (B bC : Nat) (V : Nat → Value) (w : World)
    (hnb : ∀ wr, w.grownBy wr (some bC) → NB wr B N V X) (hc : w.rowIs bC 3 N (ri fun _ => -1)) (hbB : B ≠ bC) :
    Calls Tryd.prog 32 #[.slice (some ⟨B, 0, none⟩) N N, .int .i64 (x : Int), .slice (some ⟨bC, 0, none⟩) N N] w fun e w' =>
      e = .returned (.tuple #[]) ∧ ∃ dn K, CutI N G X D x dn K (X x).length ∧ w'.rowIs bC 3 N (ri K) ∧ w.grownBy w' (some bC) := by
  have hmm := @run_makeMap Tryd.prog
  have hmf : ∀ (fn : Fn) (first cap : Array Value) (w : World), (Instr.makeFunc fn first cap).run Tryd.prog w = .ok (.func fn first cap) w := fun _ _ _ _ => rfl
  have hmk := run_make_row' (P := Tryd.prog) 29 3 (.int .i64 0) 8 Tryd.underlying29 info3 rfl .i64 .i64 N (by omega) (by omega)
  have hBw : B < w.heap.size := (hnb w (World.grownBy.refl _ _)).ro.lt
  have HX := Lib.hid hX; have HNB := Lib.hid hnb; have HL := Lib.hid hl; have HD := Lib.hid hD; have Hcut := Lib.hid hcut; have Hx := Lib.hid hx
  have hsz1 : (w.alloc (Obj.cells #[.int .i64 (x : Int)] 3)).heap.size = w.heap.size + 1 := World.size_alloc _ _
  have pm := SMap.made (w.alloc (Obj.cells #[.int .i64 (x : Int)] 3))
  rw [hsz1] at pm
  obtain ⟨w3, hput, hp3, hg3⟩ := pm.put (z := (x : Int)) (by omega) (by omega)
  have c1 : (w.alloc (Obj.cells #[.int .i64 (x : Int)] 3)).cell? ⟨w.heap.size, 0, none⟩ = some (.int .i64 (x : Int)) := by rw [World.cell?_alloc_at _ _ _ _ rfl]; rfl
  have c2 := below_cell (below1 (w.alloc (Obj.cells #[.int .i64 (x : Int)] 3)) (.map #[] 0)) c1
  have hl2 : w.heap.size < ((w.alloc (Obj.cells #[.int .i64 (x : Int)] 3)).alloc (.map #[] 0)).heap.size := by simp; omega
  have c3 : w3.cell? ⟨w.heap.size, 0, none⟩ = some (.int .i64 (x : Int)) := (World.cell?_of_block (a := ⟨w.heap.size, 0, none⟩) (hg3.block _ hl2 (fun e => by have e2 : w.heap.size = w.heap.size + 1 := Option.some.inj e; omega))).trans c2
  have hb3 : Below w.heap.size w w3 := (below2 w (Obj.cells #[.int .i64 (x : Int)] 3) (.map #[] 0)).grown hg3 (by simp; omega) (fun g e => by have := Option.some.inj e; omega)
  have S3 := Lib.hid (show CtS w w3 N bC w.heap.size (w.heap.size + 1) (0 + 1) x (fun q => if q = x then true else false) (fun _ => -1) from ⟨grown_of hb3 _, c3, hp3.congr fun z => by
    have := natP_add (fun _ => false) x z
    rw [← this]; simp [natP], hc.of_block (hb3.block _ hc.lt), Nat.le_refl _, by omega, by omega, hc.lt⟩)
  have hNB3 := HNB.out w3 S3.out.g
  have cB3 := hNB3.ro.cell hx
  obtain ⟨ag, cg, eV⟩ := hNB3.form hx
  rw [eV] at cB3
  have HeV := Lib.hid eV
  have hbCw : bC < w.heap.size := hc.lt
  clear hX hnb hl hD hcut hc pm hp3 hg3 hb3 hNB3 eV hl2 hx
  go_enter Tryd.func32, Tryd.ntmps32
  go_upto_region 3 with fail
  clear hput c1 c2 c3 hsz1 cB3
  generalize hbX : w.heap.size = bX at *
  have HbX := Lib.hid hbX
  clear hbX
  have hnx := HL.out x Hx.out
  go_loopg [24] (X x).length (fun g s24 wr => ∃ (k n : Nat) (dn : Nat → Bool) (K : Nat → Int), k ≤ (X x).length ∧ g = (X x).length - k ∧ s24 = .int .i64 (k : Int) ∧ n ≤ 1 + 100 * k ∧ CtS w wr N bC bX (bX + 1) n x dn K ∧ CutI N G X D x dn K k)
  case atStart => exact ⟨0, 0 + 1, _, _, Nat.zero_le _, rfl, rfl, by omega, S3.out, CutI.start HX.out Hx.out⟩
  case round =>
    obtain ⟨k, n, dn, K, hk, rfl, rfl, hn, hst, hci⟩ := hrel
    obtain ⟨wo, rfl⟩ : ∃ wo : World, wo = wr := ⟨_, rfl⟩
    have Hst := Lib.hid hst; have Hci := Lib.hid hci
    clear hst hci
    by_cases hkl : k < (X x).length
    · obtain ⟨g, c, eV, hcj⟩ := (HNB.out wo Hst.out.g).lookB Hx.out hkl
      rw [HeV.out] at eV
      obtain ⟨rfl, rfl⟩ : ag = some ⟨g, 0, none⟩ ∧ cg = c := by simpa using eV
      obtain ⟨huN, hgu⟩ := (HX.out.mem x _ Hx.out).1 (show (X x).getD k 0 ∈ X x by rw [List.getD, List.getElem?_eq_getElem hkl]; exact List.getElem_mem _)
      have hlk := Hst.out.md.lookN (v := (X x).getD k 0) (by omega)
      rw [natP_nat] at hlk
      have Hgu := Lib.hid hgu
      clear eV hgu
      generalize huu : (X x).getD k 0 = u at *
      have Huu := Lib.hid huu
      clear huu
      cases hdu : dn u with
      | true =>
        rw [hdu] at hlk
        have Hnx := Lib.hid (Hci.out.next (by rw [Huu.out]; exact hdu))
        clear hdu
        go_wp2
        go_roundg ((X x).length - (k + 1))
        case measure => go_light; omega
        case rel => exact ⟨k + 1, n, dn, K, by omega, rfl, by go_num, by omega, Hst.out, Hnx.out⟩
      | false =>
        rw [hdu] at hlk
        have Hdu := Lib.hid hdu
        clear hdu
        have cxo := Hst.out.cx
        have pm := SMap.made wo
        obtain ⟨w5, hput, hp5, hg5⟩ := pm.put (z := (x : Int)) (by omega) (by omega)
        have cx4 := below_cell (below1 wo (.map #[] 0)) cxo
        have hsz4 : (wo.alloc (.map #[] 0)).heap.size = wo.heap.size + 1 := World.size_alloc _ _
        have hsz5 := hg5.size
        rw [hsz4] at hsz5
        have hb5 : Below wo.heap.size wo w5 := (below1 wo (.map #[] 0)).grown hg5 (by omega) (fun g e => by have := Option.some.inj e; omega)
        have b6 := below1 w5 (Obj.cells #[.map (some wo.heap.size)] 73)
        have cb6 : (w5.alloc (Obj.cells #[.map (some wo.heap.size)] 73)).cell? ⟨w5.heap.size, 0, none⟩ = some (.map (some wo.heap.size)) := by rw [World.cell?_alloc_at _ _ _ _ rfl]; rfl
        have hwo : w.heap.size + 2 ≤ wo.heap.size := by rw [HbX.out]; have := Hst.out.md.lt; omega
        have hbX2 : bX + 2 ≤ wo.heap.size := by have := Hst.out.md.lt; omega
        have R6 := Lib.hid (show CtR w (w5.alloc (Obj.cells #[.map (some wo.heap.size)] 73)) N bC bX (bX + 1) n x (dnJ dn [] 0) K wo.heap.size w5.heap.size (0 + 1) (inJ x [] 0) from ⟨((Hst.out.below hb5).below b6).congrD (fun q => by simp [dnJ]), (hp5.below b6).congr fun z => by
          have := natP_add (fun _ => false) x z
          rw [show natP (fun _ => false) z = false by simp [natP]] at this
          rw [this]
          congr 1
          funext q; simp [inJ], cb6, by omega, by omega, by rw [HbX.out] at hwo; omega, by rw [HbX.out] at hwo; omega, by omega, by rw [HbX.out] at hwo; omega, by rw [HbX.out] at hwo; omega⟩)
        have hcx6 := R6.out.s.cx
        have hsz6 : w5.heap.size < (w5.alloc (Obj.cells #[.map (some wo.heap.size)] 73)).heap.size := by rw [World.size_alloc]; omega
        clear pm hp5 hg5 hb5 b6
        go_upto_region 7 with fail
        clear hput hlk cxo cx4 hsz4 hcj
        generalize w5.alloc (Obj.cells #[.map (some wo.heap.size)] 73) = w6 at *
        have hnb6 := HNB.out w6 R6.out.s.g
        have eg1 : ∀ args w, (callFunc 47 args).run Tryd.prog w = .ok (.enter 47 args) w := enters_of Tryd.func47 (by kernel_rfl) rfl
        have eg2 : ∀ args w, (callFunc 48 args).run Tryd.prog w = .ok (.enter 48 args) w := enters_of Tryd.func48 (by kernel_rfl) rfl
        go_wp2_with (go_at_call 30; refine (spread_any (f := u) HX.out.mem hN (fun v hv => by have := HL.out v hv; omega) B V huN (fun q => !decide (q = x)) 47 #[.pointer (some ⟨bX, 0, none⟩)] w6 eg1 (openCut_tells hcx6) hnb6).mono ?_; rintro e w7 ⟨v7, O1, I1, rfl, ho7, hs7, hb7⟩; obtain ⟨a7, c7, rfl⟩ := ownsRow_form ho7; have R7 := Lib.hid (R6.out.below hb7); have Ho7 := Lib.hid ho7; have Hs7 := Lib.hid hs7; have hz7 := hb7.size; clear hb7 ho7 hs7)
        have hlen1 := spr_len Hs7.out
        generalize hO1n : O1.length = n1 at *
        have HO1 := Lib.hid hO1n
        clear hO1n hcx6 eg1 hnb6
        go_loopg [39] n1 (fun g s39 wr => ∃ j : Nat, j ≤ n1 ∧ g = n1 - j ∧ s39 = .int .i64 (j : Int) ∧ CtR w wr N bC bX (bX + 1) (n + j) x (dnJ dn O1 j) K wo.heap.size w5.heap.size (0 + 1 + j) (inJ x O1 j) ∧ wr.ownsRow w6.heap.size 3 1 (.slice a7 n1 c7) n1 (nvals O1))
        case atStart => exact ⟨0, Nat.zero_le _, rfl, rfl, R7.out, Ho7.out⟩
        case round =>
          obtain ⟨j, hj, rfl, rfl, hr, ho⟩ := hrel
          obtain ⟨w8, rfl⟩ : ∃ w8 : World, w8 = wr := ⟨_, rfl⟩
          have R8 := Lib.hid hr; have Ho8 := Lib.hid ho
          clear hr ho
          by_cases hjl : j < n1
          · obtain ⟨g7, rfl⟩ : ∃ g7, a7 = some ⟨g7, 0, none⟩ := by
              rcases Ho8.out.2 with ⟨e, e0⟩ | ⟨g, cap', cur, e, -⟩
              · omega
              · simp only [Value.slice.injEq] at e; exact ⟨g, e.1⟩
            have hcv : w8.cell? ⟨g7, j, none⟩ = some (.int .i64 ((O1.getD j 0 : Nat) : Int)) := by
              have c := Ho8.out.cells (g := g7) rfl j (.int .i64 ((O1.getD j 0 : Nat) : Int)) (by simp [nvals, ints, List.getD, List.getElem?_eq_getElem (show j < O1.length by rw [HO1.out]; exact hjl)])
              rw [Addr.add_lit, Nat.zero_add] at c
              exact c
            have hvN := Hs7.out.getN (k := j) (by rw [HO1.out]; exact hjl)
            have Hin := Lib.hid (show ∀ z : Int, (natP (inJ x O1 j) z || decide (z = ((O1.getD j 0 : Nat) : Int))) = natP (inJ x O1 (j + 1)) z from fun z => by rw [inJ_succ (by rw [HO1.out]; exact hjl)]; exact natP_add _ _ _)
            have Hdn := Lib.hid (show ∀ z : Int, (natP (dnJ dn O1 j) z || decide (z = ((O1.getD j 0 : Nat) : Int))) = natP (dnJ dn O1 (j + 1)) z from fun z => by rw [dnJ_succ (by rw [HO1.out]; exact hjl)]; exact natP_add _ _ _)
            have cb8 := R8.out.cb
            generalize O1.getD j 0 = v at *
            go_wp2_with (first
              | (at_mapUpdate; have _h := RI.out; refine wpList_put_set rfl _ _ _ (.inl rfl) rfl RI.out.s.md (z := (v : Int)) (by omega) (by omega) rfl rfl ?_; intro w10 hm10 hg10; have RD := Lib.hid (RI.out.putD (dn' := dnJ dn O1 (j + 1)) (hm10.congr Hdn.out) hg10); have OD := Lib.hid (own_keep OI.out hg10 (by omega)); clear hm10 hg10)
              | (at_mapUpdate; refine wpList_put_set rfl _ _ _ (.inl rfl) rfl R8.out.mi (z := (v : Int)) (by omega) (by omega) rfl rfl ?_; intro w9 hm9 hg9; have RI := Lib.hid (R8.out.putI (I' := inJ x O1 (j + 1)) (hm9.congr Hin.out) hg9); have OI := Lib.hid (own_keep Ho8.out hg9 (by omega)); clear hm9 hg9))
            go_roundg (n1 - (j + 1))
            case measure => go_light; omega
            case rel => exact ⟨j + 1, by omega, rfl, by go_num, RD.out, OD.out⟩
          · obtain rfl : j = n1 := by omega
            have R9 := Lib.hid (show CtR w w8 N bC bX (bX + 1) (n + j) x (dnJ dn O1 j) K wo.heap.size w5.heap.size (0 + 1 + j) (inJ x O1 j) from R8.out)
            clear hj hjl R6 R7 Ho7 R8 Ho8 hsz5
            have hbI : wo.heap.size < w8.heap.size := R9.out.mi.lt
            have hbB2 : w5.heap.size < w8.heap.size := World.block_lt_of_cell? _ _ R9.out.cb
            have hO10 := (zrow_is w8 N).congr (g := ri fun _ => 0) fun _ _ => rfl
            have b10 := below1 w8 (zrow N)
            have hz10 : w8.heap.size < (w8.alloc (zrow N)).heap.size := by rw [World.size_alloc]; omega
            have HO10 := Lib.hid hO10; have B10 := Lib.hid b10
            clear hO10 b10
            go_upto_region 13 with fail
            clear hmk
            generalize w8.alloc (zrow N) = w10 at *
            generalize hbO : w8.heap.size = bO at *
            have HbO := Lib.hid hbO
            clear hbO
            go_wp2
            go_loopg [53] N (fun g s53 wr => ∃ q : Nat, q ≤ N ∧ g = N - q ∧ s53 = .int .i64 (q : Int) ∧ wr.rowIs bO 3 N (ri fun p => if p < q then -1 else 0) ∧ Below bO w8 wr ∧ bO < wr.heap.size)
            case atStart => exact ⟨0, Nat.zero_le _, rfl, rfl, HO10.out.congr fun q _ => by simp [ri], B10.out, hz10⟩
            case round =>
              obtain ⟨q, hq, rfl, rfl, hrow, hb, hz⟩ := hrel
              obtain ⟨w11, rfl⟩ : ∃ w11 : World, w11 = wr := ⟨_, rfl⟩
              have Hrow := Lib.hid hrow; have Hb := Lib.hid hb
              clear hrow hb
              by_cases hqN : q < N
              · have cq := Hrow.out.cell hqN
                have fq := Hrow.out.frozen q
                have lq := Hrow.out.lt
                go_wp2
                go_roundg (N - (q + 1))
                case measure => go_light; omega
                case rel => exact ⟨q + 1, by omega, rfl, by go_num, (Hrow.out.set q (.int .i64 (-1))).congr fun p _ => (by
                  by_cases e : p = q
                  · subst e; simp [ri]
                  · have : (p < q + 1) ↔ p < q := by omega
                    simp [ri, e, this]), Hb.out.setCell (p := ⟨bO, q, none⟩) (Nat.le_refl _) _, by simpa [World.setCell] using hz⟩
              · obtain rfl : N = q := by omega
                have Ho11 := Lib.hid (row_ri (g' := fun _ => -1) Hrow.out fun p hp => by simp [hp])
                have R11 := Lib.hid (R9.out.below (by rw [HbO.out]; exact Hb.out))
                have hbO1 : w.heap.size ≤ bO := by omega
                have hbXO : bX < bO := by omega
                have cx11 := R11.out.s.cx
                have hs7 := Hs7.out
                rw [← HO1.out] at hs7
                have Hs7b := Lib.hid hs7
                have hux : u ≠ x := fun e => by have h1 := Hci.out.at'; have h2 := Hdu.out; rw [e, h1] at h2; cases h2
                have hz11 := Hb.out.size
                clear hs7 Hrow R9 HO10 B10 hq hqN hz10
                go_upto_region 19 with (first
                  | (go_at_call 29; have _h := R12.out; refine (back_any (D := D) (C0 := fun _ => -1) HX.out.mem HX.out.sym HX.out.irr (cut_ord HX.out Hx.out huN HD.out Hcut.out Hs7b.out hux (inJ x O1 j) (fun q _ => inJ_all HO1.out q) Hs12.out) hN hDl (fun v hv => by have := HL.out v hv; omega) (fun v _ => by omega) B bO V a12 c12 w12 (fun wr hg => HNB.out wr (R12.out.s.g.andThen hg (fun q e => Or.inl (by have := Option.some.inj e; omega)))) (fun wr hg => (IsInts.owned (own_keep Ho12.out hg (by omega)) : IsInts wr _ (ints O2))) (Ho12b.out) (by omega)).mono ?_; rintro e w13 ⟨rfl, C, hbk, hrC, hg13⟩; have R13 := Lib.hid (R12.out.other hg13 hbO1 ⟨by omega, by omega, by omega, by omega⟩); have HC13 := Lib.hid hrC; have Hbk := Lib.hid hbk; have hz13 := hg13.size; have cx13 := R13.out.s.cx; have cC13 := HC13.out.cell Hx.out; have cb13 := R13.out.cb; obtain ⟨Dm, hDm, hDs, -⟩ := R13.out.mi; clear hbk hrC hg13)
                  | (go_at_call 30; refine (spread_any (f := x) HX.out.mem hN (fun v hv => by have := HL.out v hv; omega) B V Hx.out (inJ x O1 j) 48 #[.pointer (some ⟨w5.heap.size, 0, none⟩)] w11 eg2 (openIn_tells hN R11.out.cb R11.out.mi) (HNB.out w11 R11.out.s.g)).mono ?_; rintro e w12 ⟨v12, O2, I2, rfl, ho12, hs12, hb12⟩; obtain ⟨a12, c12, rfl⟩ := ownsRow_form ho12; have R12 := Lib.hid (R11.out.below hb12); have Ho12 := Lib.hid ho12; have Hs12 := Lib.hid hs12; have Ho12b := Lib.hid (Ho11.out.of_block (hb12.block _ Ho11.out.lt)); have hz12 := hb12.size; clear hb12 ho12 hs12))
                simp only [ri] at cC13
                have hbD13 : bX + 1 < w13.heap.size := R13.out.s.md.lt
                have hbO13 : bO < w13.heap.size := HC13.out.lt
                have hL0 := Lib.hid (left_natP hN (I := inJ x O1 j) (fun q hq => by
                  rcases (inJ_all HO1.out q).1 hq with k | k
                  · rw [k]; exact Hx.out
                  · exact Hs7b.out.lt q k) hDs)
                have hrngC : ∀ v, v < N → True := fun _ _ => trivial
                generalize hcx : C x = cc at *
                have Hcx := Lib.hid hcx
                clear hcx hDs
                go_wp2_with (first
                  | (at_range; refine wpList_range_own _ rfl _ 73 rfl 3 4 intKeyedB Tryd.underlying73 _ wo.heap.size (0 + 1 + j) Dm rfl hDm ?_; intro w14 hrg0 hg0 hs0))
                clear cx13 cC13 cb13 cx11
                go_frame
                go_loopw [73] (fun _ wr => ∃ (left : Lit → Bool) (cnt : Nat) (J : Nat → Bool), AtRg w wr N bC bX (bX + 1) (n + j) x wo.heap.size bO w13.heap.size (0 + 1 + j) (dnJ dn O1 j) K C cc (inJ x O1 j) Dm left cnt J) (fun _ wr => wr.rangeLeft wo.heap.size w13.heap.size)
                case atStart => exact ⟨_, _, _, hrg0, hL0.out, fun q h => (by cases h), (R13.out.s.below (below_grown0 hg0)).congr fun q _ => by simp [swK], HC13.out.of_block ((below_grown0 hg0).block _ HC13.out.lt)⟩
                case round =>
                  obtain ⟨left, cnt, J, hst⟩ := hrel
                  obtain ⟨w15, rfl⟩ : ∃ w15 : World, w15 = wr := ⟨_, rfl⟩
                  have Hs1 := Lib.hid hst
                  have hrg := hst.rg
                  clear hst
                  go_wp2_with (first
                    | (at_next; refine wpList_next_ib rfl _ rfl wo.heap.size w13.heap.size (0 + 1 + j) Dm _ _ rfl hrg ?_ ?_)
                    | go_in)
                  · intro hc0 hl0
                    have hJ : ∀ q, q < N → (J q = true ↔ inJ x O1 j q = true) := fun q hq => ⟨Hs1.out.sub q, fun hi => Hs1.out.left.done hl0 hq hi⟩
                    have Hfin := Lib.hid (Hci.out.add HX.out Hx.out huN Huu.out Hdu.out Hs7b.out (cut_all HX.out Hx.out huN Hgu.out Hs7b.out hux (inJ x O1 j) (fun q _ => inJ_all HO1.out q) Hs12.out) Hbk.out (inJ x O1 j) (dnJ dn O1 j) (swK K C cc J) (fun q _ => inJ_all HO1.out q) (fun q _ => dnJ_all HO1.out q) (fun q hq => by
                      unfold swK
                      rw [Hcx.out]
                      by_cases e : J q = true
                      · rw [if_pos e, if_pos ((hJ q hq).1 e)]
                      · rw [if_neg e, if_neg (fun h => e ((hJ q hq).2 h))]))
                    have St15 := Lib.hid Hs1.out.st
                    clear hJ hl0 hc0 hrg
                    go_wp2
                    go_roundg ((X x).length - (k + 1))
                    case measure => go_light; omega
                    case rel => exact ⟨k + 1, n + j, _, _, by omega, rfl, by go_num, by omega, St15.out, Hfin.out⟩
                  · intro x' c' w1 cnt1 hlk hrg1 hlt1 hg1 hs1 hen
                    obtain ⟨v, hv, hI, hJ, ex⟩ := (Hs1.out.left _).1 hlk
                    simp only [Lit.int.injEq, true_and] at ex
                    subst ex
                    have st1 := Hs1.out.st.other hg1 (by omega) (by omega) (by omega)
                    have ow1 : w1.rowIs bO 3 N (ri C) := Hs1.out.own.of_block (hg1.block _ Hs1.out.own.lt (fun e => by have := Option.some.inj e; omega))
                    have hnRC : w13.heap.size ≠ bC := by omega
                    have hstep := fun (w2 : World) hg st2 => AtRg.step Hs1.out.left Hs1.out.sub (show v ≤ 1000 by omega) hI st1 ow1 hrg1 (show wo.heap.size ≠ bC by omega) hnRC (show bO ≠ bC by omega) (w2 := w2) hg st2
                    have Hstep := Lib.hid hstep
                    have Hlt1 := Lib.hid hlt1
                    have Hold := Lib.hid Hs1.out.rg.left_eq
                    have ov := ow1.cell hv
                    have cv := st1.row.cell hv
                    have fv := st1.row.frozen v
                    have lv := st1.row.lt
                    have s1 := st1.set v (C v)
                    have ov2 : (w1.setCell ⟨bC, v, none⟩ (.int .i64 (C v))).cell? ⟨bO, v, none⟩ = some (.int .i64 (C v)) := (ow1.of_block ((grown_set w1 bC v _).block _ ow1.lt (fun e => by have := Option.some.inj e; omega))).cell hv
                    have fv2 := s1.row.frozen v
                    have cv2 := s1.row.cell hv
                    have lv2 := s1.row.lt
                    have S1 := Lib.hid s1; have G1 := Lib.hid (grown_set w1 bC v (.int .i64 (C v)))
                    simp only [ri] at ov
                    have Hsw := Lib.hid (show swapC cc (C v) = if C v = cc then 0 else if C v = 0 then cc else C v from rfl)
                    clear hstep hrg1 hlt1 hg1 hlk hrg hI hJ st1 ow1 s1
                    generalize C v = z at *
                    by_cases h1 : z = cc
                    · subst h1
                      have hfin := Lib.hid (Hstep.out ((w1.setCell ⟨bC, v, none⟩ (.int .i64 z)).setCell ⟨bC, v, none⟩ (.int .i64 0)) (G1.out.andThen (grown_set _ bC v _) (fun j e => Or.inr e)) ((S1.out.set v 0).congr fun q _ => by
                        by_cases e : q = v
                        · subst e; rw [Hsw.out]; simp
                        · simp [e]))
                      clear Hsw
                      go_wp2
                      go_roundw
                      case rel => exact ⟨_, _, _, hfin.out⟩
                      case measure =>
                        show (((w1.setCell ⟨bC, v, none⟩ (.int .i64 z)).setCell ⟨bC, v, none⟩ (.int .i64 0))).rangeLeft wo.heap.size w13.heap.size < _
                        rw [hfin.out.rg.left_eq, Hold.out]; exact Hlt1.out
                    · have q1 : (z == cc) = false := by simp [h1]
                      have q1b : decide (z = cc) = false := decide_eq_false h1
                      by_cases h2 : z = 0
                      · subst h2
                        have hfin := Lib.hid (Hstep.out ((w1.setCell ⟨bC, v, none⟩ (.int .i64 0)).setCell ⟨bC, v, none⟩ (.int .i64 cc)) (G1.out.andThen (grown_set _ bC v _) (fun j e => Or.inr e)) ((S1.out.set v cc).congr fun q _ => by
                          by_cases e : q = v
                          · subst e; rw [Hsw.out, if_neg h1]; simp
                          · simp [e]))
                        clear Hsw h1
                        go_wp2
                        go_roundw
                        case rel => exact ⟨_, _, _, hfin.out⟩
                        case measure =>
                          show (((w1.setCell ⟨bC, v, none⟩ (.int .i64 0)).setCell ⟨bC, v, none⟩ (.int .i64 cc))).rangeLeft wo.heap.size w13.heap.size < _
                          rw [hfin.out.rg.left_eq, Hold.out]; exact Hlt1.out
                      · have q2 : (z == 0) = false := by simp [h2]
                        have q2b : decide (z = 0) = false := decide_eq_false h2
                        have hfin := Lib.hid (Hstep.out (w1.setCell ⟨bC, v, none⟩ (.int .i64 z)) G1.out (S1.out.congr fun q _ => by
                          by_cases e : q = v
                          · subst e; rw [Hsw.out, if_neg h1, if_neg h2]
                          · simp [e]))
                        clear Hsw h1 h2
                        go_wp2
                        go_roundw
                        case rel => exact ⟨_, _, _, hfin.out⟩
                        case measure =>
                          show ((w1.setCell ⟨bC, v, none⟩ (.int .i64 z))).rangeLeft wo.heap.size w13.heap.size < _
                          rw [hfin.out.rg.left_eq, Hold.out]; exact Hlt1.out
    · obtain rfl : k = (X x).length := by omega
      go_wp2
      go_end0
      exact ⟨rfl, dn, K, Hci.out, Hst.out.row, Hst.out.g⟩

end Go.Proofs.YtnhhohhhpaejmaaDoor
