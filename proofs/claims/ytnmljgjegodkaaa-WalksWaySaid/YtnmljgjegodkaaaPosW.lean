/- walks.Postman: the walk. -/
import Derived.Test.YtnmljgjegodkaaaPH
namespace Go.Proofs.Ytnmljgjegodkaaa
open Go.RowKit

theorem uppP {a b c : World} (h : Below a.heap.size a b) (k : Below b.heap.size b c) : Below a.heap.size a c := h.trans (k.mono h.size)
set_option maxHeartbeats 6400000 in
set_option maxRecDepth 100000 in
theorem postman_any (n : Int) (l : List (Int × Int)) (s : Value) (w : World) (h : IsEdges w s l) :
    Calls Try.prog 10 #[.agg #[.int .i64 n, s]] w (PostPost n l w) := by
  obtain ⟨ad, cap, rfl⟩ := h.form
  have St := Lib.hid (WkG.start (n := n) h)
  clear h
  go_enter Try.func10, Try.ntmps10
  go_upto_region 1 with fail
  generalize (w.alloc (Obj.cells #[.int .i64 n, .slice ad l.length cap] 24)).alloc (Obj.cells #[.int .i64 0, .int .i64 0] 27) = w1 at *
  have cn := St.out.cn
  have cs := St.out.cs
  have hlS := St.out.r.lt
  go_upto_region 2 with (go_at_call 46; refine (wlook_any n l [] _ _ _ St.out.he (IsInts.nil _) (by simp)).mono ?_; rintro e w2 ⟨c, a, hR, rfl, hb2⟩; have hz2 := hb2.size; have hb3 := hb2.trans ((below1 w2 (Obj.cells #[.int .i64 c, .int .i64 a] 27)).mono hb2.size); have S2 := Lib.hid (St.out.below hb3); have HR := Lib.hid (look_nil hR); have e01 := two_cells w2 (.int .i64 c) (.int .i64 a) 27; clear hR hb2 hb3)
  generalize w2.alloc (Obj.cells #[.int .i64 c, .int .i64 a] 27) = w3 at *
  obtain ⟨e0, e1⟩ := e01
  clear cn cs St
  have n1 : w.heap.size + 1 ≠ w2.heap.size := by omega
  generalize w2.heap.size = E at *
  by_cases hc : c = 0
  · subst hc
    obtain ⟨hg, rfl⟩ := HR.out.good
    obtain ⟨N, rfl⟩ := Int.eq_ofNat_of_zero_le hg.lo
    have hN : N ≤ 100 := by have := hg.hi; omega
    have hlen : l.length ≤ 1000 := by have := hg.len; omega
    have Hg := Lib.hid hg
    clear hg
    have cn := S2.out.cn
    have cs := S2.out.cs
    have fin := fun c a v w' h1 h2 => (⟨0, 0, c, a, v, HR.out, rfl, h1, .inr ⟨rfl, rfl, N, rfl, Hg.out, h2⟩⟩ : PostPost (N : Int) l w (.returned (.tuple #[v, .agg #[.int .i64 c, .int .i64 a]])) w')
    have Fin := Lib.hid fin
    clear fin
    go_upto_region 4 with fail
    clear e0 e1
    go_upto_region 5 with (go_at_call 47; refine (joined_any Hg.out _ _ S2.out.he).mono ?_; rintro e w5 ⟨hb5, hj⟩; have S5 := Lib.hid (S2.out.below hb5); rcases hj with ⟨hl0, rfl⟩ | ⟨hl1, f, hf, rfl⟩)
    all_goals clear S2 cn cs
    all_goals (have cn := S5.out.cn; have cs := S5.out.cs)
    · have ho : (oddL N (adj l)).length = 0 := by
        rw [hl0]
        have : oddL N (adj []) = [] := by
          refine List.eq_nil_iff_forall_not_mem.2 fun v hv => ?_
          have h := (mem_oddL.1 hv).2
          have h2 : cntN N (adj [] v) = cntN N (fun _ => false) := cntN_congr fun i _ => by unfold adj hasE; simp
          rw [cntN_false] at h2
          omega
        rw [this]; rfl
      have Hl0 := Lib.hid hl0
      clear hl0
      go_upto_region 8 with (go_at_call 49; refine (wodd_any Hg.out _ _ S5.out.he).mono ?_; rintro e w6 ⟨xv, rfl, ho6, hb6⟩; have S6 := Lib.hid (S5.out.below hb6); obtain ⟨aO, cO, rfl⟩ := ownsRow_form ho6; clear ho6 hb6)
      obtain ⟨z0, z1, f0, f1, l0⟩ := row_facts S6.out.r
      obtain ⟨p0, p1, p2⟩ := S6.out.put (.int .i64 0) (.int .i64 0)
      clear cn cs
      go_wp2
      exact bodyPost_ret (v := .tuple #[.slice none 0 0, .agg #[.int .i64 0, .int .i64 0]]) (by simp [results, Try.results10, go_sem, p0, p1]) rfl (Fin.out 0 0 _ _ p2 (.inl ⟨Hl0.out, rfl, rfl, rfl⟩))
    · have Hf := Lib.hid hf
      have Hl1 := Lib.hid hl1
      clear hf hl1
      generalize hB : hangB N (adj l) = hb at *
      have HB := Lib.hid hB
      clear hB
      cases hb with
      | false =>
        obtain ⟨z0, z1, f0, f1, l0⟩ := row_facts S5.out.r
        go_wp2_with (go_at_call 48; refine (wfault_any _ _ _).mono ?_; rintro e wf ⟨rfl, rfl⟩)
        obtain ⟨p0, p1, p2⟩ := S5.out.putA (.int .i64 9) (.int .i64 0) (Obj.cells #[.int .i64 9, .int .i64 0] 27)
        exact bodyPost_ret (v := .tuple #[.slice none 0 0, .agg #[.int .i64 9, .int .i64 0]]) (by simp [results, Try.results10, go_sem, p0, p1]) rfl (Fin.out 9 0 _ _ p2 (.inr (.inl ⟨Hl1.out, (by first | trivial | exact HB.out), rfl, rfl, rfl⟩)))
      | true =>
        go_upto_region 8 with (go_at_call 49; refine (wodd_any Hg.out _ _ S5.out.he).mono ?_; rintro e w6 ⟨xv, rfl, ho6, hb6⟩; have S6 := Lib.hid (S5.out.below hb6); obtain ⟨aO, cO, rfl⟩ := ownsRow_form ho6; have Ho6 := Lib.hid ho6; clear ho6 hb6)
        clear cn cs S5
        have cn := S6.out.cn
        have cs := S6.out.cs
        have HO := Lib.hid (odd_f Hg.out (hangB_iff.1 HB.out))
        have Fin3 := Lib.hid (fun (h12 : 12 < (oddL N (adj l)).length) v w' h1 hv => Fin.out 2 0 v w' h1 (.inr (.inr (.inl ⟨Hl1.out, (by first | trivial | exact HB.out), h12, rfl, rfl, hv⟩))))
        have Fin4 := Lib.hid (fun (h12 : (oddL N (adj l)).length ≤ 12) v w' h1 hv => Fin.out 0 0 v w' h1 (.inr (.inr (.inr ⟨Hl1.out, (by first | trivial | exact HB.out), h12, rfl, rfl, hv⟩))))
        generalize hL : oddL N (adj l) = L at *
        clear hL Fin
        generalize hno : L.length = no at *
        have Hno := Lib.hid hno
        clear hno
        by_cases h12 : 12 < no
        · obtain ⟨z0, z1, f0, f1, l0⟩ := row_facts S6.out.r
          have H12 := Lib.hid h12
          go_wp2_with (go_at_call 48; refine (wfault_any _ _ _).mono ?_; rintro e wf ⟨rfl, rfl⟩)
          obtain ⟨p0, p1, p2⟩ := S6.out.putA (.int .i64 2) (.int .i64 0) (Obj.cells #[.int .i64 2, .int .i64 0] 27)
          exact bodyPost_ret (v := .tuple #[.slice none 0 0, .agg #[.int .i64 2, .int .i64 0]]) (by simp [results, Try.results10, go_sem, p0, p1]) rfl (Fin3.out H12.out _ _ p2 rfl)
        · have h12' : no ≤ 12 := by omega
          have H12 := Lib.hid h12'
          have HI6 := Lib.hid (IsInts.owned (l := ints L) Ho6.out)
          clear Fin3 Ho6
          go_upto_region 13 with (go_at_call 50; refine (glists_any Hg.out _ _ S6.out.he).mono ?_; rintro e w7 ⟨BL, V, rfl, hnb, -, hb7⟩; have Hnb := Lib.hid hnb; have S7 := Lib.hid (S6.out.below hb7); have HI7 := Lib.hid (HI6.out.below hb7); clear hnb hb7)
          clear cn cs S6 HI6 h12
          go_upto_region 15 with fail
          go_loopg [9, 45] no (fun g s9 s45 wr => ∃ k : Nat, k ≤ no ∧ g = no - k ∧ s45 = .int .i64 (k : Int) ∧ IRow wr w7.heap.size s9 ((L.take k).map (rowE N l)) ∧ Below w7.heap.size w7 wr)
          case atStart => exact ⟨0, Nat.zero_le _, rfl, rfl, IRow.nil _ _, Below.refl _ _⟩
          case round =>
            obtain ⟨k, hk, rfl, rfl, ⟨vals, k1, k2⟩, hb⟩ := hrel
            have Hb := Lib.hid hb
            have hlm : ((L.take k).map (rowE N l)).length = k := by rw [List.length_map, List.length_take, Hno.out]; omega
            rw [hlm] at k1
            obtain ⟨aD, cD, rfl⟩ := ownsRow_form k1
            have Hlm := Lib.hid hlm
            have K2 := Lib.hid k2
            have K1 := Lib.hid k1
            clear k1 k2 hlm
            by_cases hlt : k < no
            · obtain ⟨bO, oO, rfl, cx⟩ := ints_at' HI7.out hb (show k < L.length by rw [Hno.out]; exact hlt)
              have hx := (HO.out.at (show k < L.length by rw [Hno.out]; exact hlt)).1
              have Htk := Lib.hid (show L.take (k + 1) = L.take k ++ [L.getD k 0] by
                have h : k < L.length := by rw [Hno.out]; exact hlt
                rw [List.take_add_one, List.getD, List.getElem?_eq_getElem h]; rfl)
              generalize L.getD k 0 = x at *
              clear hb
              go_upto_region 17 with fail
              clear cx
              go_wp2_with (first
                | (go_at_call 51; refine (wfar_any hN (nbrs_is Hg.out).1 (nbrs_is Hg.out).2 hx wr (Hnb.out.below Hb.out)).mono ?_; rintro e w9 ⟨b9, F, rfl, hb90, hr9, hF, hb9⟩; have hFe := hF.eq (farE_ok (G := adj l) hx); have Hr9 := Lib.hid (row_ri hr9 hFe); have hz9 := Hb.out.size; have hz10 := hb9.size; have K1' := Lib.hid (ownsRow_below K1.out hb9 (Nat.le_refl _)); have K2' := Lib.hid (show ∀ j, j < ((L.take k).map (rowE N l)).length → ∃ r, vals[j]? = some r ∧ w9.ownsRow w7.heap.size 3 1 r (((L.take k).map (rowE N l)).getD j []).length (ivals (((L.take k).map (rowE N l)).getD j [])) from fun j hj => by (obtain ⟨r, e, ho⟩ := K2.out j hj; exact ⟨r, e, ownsRow_below ho hb9 (Nat.le_refl _)⟩)); have Hb9 := Lib.hid (Hb.out.trans (hb9.mono Hb.out.size)); clear hF hFe hr9 hb9 K1 K2)
                | (at_builtin; refine wpList_append_at rfl (.tmp 49) (.tmp 53) 42 rfl w7.heap.size 29 (.slice none 0 0) 24 Try.underlying42 infoS rfl (.slice aD k cD) k vals rfl (K1'.out.alloc _) _ 1 [.slice (some ⟨b9, 0, none⟩) N N] rfl (HasCells.one _ _ _ rfl) (by omega) (by omega) (by omega) (by simp; omega) ?_; intro a8 c8 w8 ho8 hg8 hat8; have R8 := Lib.hid (IRow.moreF (m := (L.take k).map (rowE N l)) (F := farE N (adj l) x) (by rw [Hlm.out]; exact K1'.out) K2'.out Hr9.out (by omega) (by omega) (by rw [Hlm.out]; exact ho8) hg8); have B8 := Lib.hid ((Hb9.out.alloc Hb9.out.size (Obj.cells #[.slice (some ⟨b9, 0, none⟩) N N] 29)).grown hg8 (by simp; omega) (fun g e => (K1'.out.lt g e).1)); clear ho8 hg8 hat8))
              go_roundg (no - (k + 1))
              case measure => go_light; omega
              case rel => exact ⟨k + 1, by omega, rfl, by go_num, by rw [Htk.out, List.map_append]; exact R8.out, B8.out⟩
            · obtain rfl : k = no := by omega
              have hta : L.take k = L := by rw [List.take_of_length_le]; rw [Hno.out]; exact Nat.le_refl _
              have k2 := K2.out
              rw [hta] at k2
              have R8 := Lib.hid (show IRow wr w7.heap.size (.slice aD k cD) (L.map (rowE N l)) from ⟨vals, by rw [List.length_map, Hno.out]; exact K1.out, k2⟩)
              have S8 := Lib.hid (S7.out.below hb)
              have HI8 := Lib.hid (HI7.out.below hb)
              clear hta k2 K1 K2 Hlm hb Hb S7 HI7 Hnb
              obtain ⟨w8, rfl⟩ : ∃ w8 : World, w8 = wr := ⟨_, rfl⟩
              have cs := S8.out.cs
              go_upto_region 20 with (at_builtin; refine wpList_append_edges rfl _ (.tmp 57) 22 rfl w8.heap.size Try.underlying22 info2 (.slice none 0 0) [] rfl (OwnE.nil _ _) _ l rfl S8.out.he _ (List.nil_append l) (by simp; omega) (Nat.le_refl _) ?_; intro a9 c9 w9 ho9 hg9; have Ho9 := Lib.hid ho9; have B9 := Lib.hid (below_grown0 hg9); clear ho9 hg9)
              clear cs
              go_upto_region 21 with (go_at_call 52; refine (wpair_any (L := L) (DD := L.map (rowE N l)) (by rw [Hno.out]; exact H12.out) HO.out.even (by rw [List.length_map]) (fun i j hi hj => by (have h1 : ((L.map (rowE N l)).getD i []).length = N := by simp [List.getD, List.getElem?_eq_getElem hi]); rw [h1]; exact (HO.out.at hj).1) (fun i j hi hj => by rw [dM_far HO.out hi hj]; have := HO.out.far _ (HO.out.at hi).2 _ (HO.out.at hj).2; omega) _ _ w9 (HI8.out.below B9.out) (R8.out.rows.below B9.out)).mono ?_; rintro e w10 ⟨v, P, b, la, rfl, hoP, hb10, hok, hPc⟩; have HoP := Lib.hid hoP; have B10 := Lib.hid hb10; have Hok := Lib.hid hok; have HPc := Lib.hid hPc; obtain ⟨aP, cP, rfl⟩ := hoP.form; have hnP : (prI P).length = P.length := (by unfold prI; rw [List.length_map]); rw [hnP]; clear hoP hb10 hok hPc)
              have HnP := Lib.hid hnP
              have hP12 : P.length ≤ 12 := by have := HPc.out.few; rw [Hno.out] at this; have := H12.out; omega
              have hz9 : w8.heap.size ≤ w9.heap.size := B9.out.size
              have Ps0 := Lib.hid (show PoS w8 w10 w9.heap.size (.slice a9 l.length c9) (.slice aP (prI P).length cP) (l ++ []) (prI P) from
                ⟨B9.out.trans (B10.out.mono hz9), by rw [List.append_nil]; exact Ho9.out.below B10.out, HoP.out, hz9, fun g e e2 => by
                  have h1 := (World.ownsRow.lt Ho9.out g e).2
                  have h2 := (World.ownsRow.lt HoP.out g e2).1
                  omega⟩)
              rw [hnP] at Ps0
              clear hnP HoP B10 R8
              generalize hlP : P.length = nP at *
              have HlP := Lib.hid hlP
              clear hlP
              have Hirr := Lib.hid (show ∀ v, adj l v v = false from fun v => adj_self (fun j hj => by obtain ⟨X, Y, he, -, -, hne, -⟩ := Hg.out.at hj; rw [he]; simp only; omega) v)
              go_loopg [12, 63] nP (fun g s12 s63 wr => ∃ (q : Nat) (X : List (Int × Int)), q ≤ nP ∧ g = nP - q ∧ s63 = .int .i64 (q : Int) ∧ PoS w8 wr w9.heap.size s12 (.slice aP nP cP) (l ++ X) (prI P) ∧ PoI N l X (twN L (P.take q)) ∧ (X.length : Int) = ((P.take q).map fun p => dM L (L.map (rowE N l)) p.1 p.2).sum ∧ X.length ≤ 100 * q)
              case atStart => exact ⟨0, [], Nat.zero_le _, rfl, rfl, Ps0.out, PoI.start (good_ends Hg.out), by simp, by simp⟩
              case round =>
                clear Ps0
                obtain ⟨q, X, hq, rfl, rfl, hps, hpi, hsum, hXl⟩ := hrel
                have Hps := Lib.hid hps; have Hpi := Lib.hid hpi; have Hsum := Lib.hid hsum
                obtain ⟨aE, cE, rfl⟩ := hps.own.form
                by_cases hlt : q < nP
                · obtain ⟨hpq, hpm, htk⟩ := prI_at (P := P) (q := q) (by rw [HlP.out]; exact hlt)
                  have hprg := HPc.out.rng _ hpm
                  have Htk := Lib.hid htk
                  obtain ⟨aP', cP', bP, oP, eP, -, -, hadP, -, hcP⟩ := hps.pw.edges
                  simp only [Value.slice.injEq] at eP
                  obtain ⟨rfl, -, rfl⟩ := eP
                  have hqP : q < (prI P).length := by rw [HnP.out]; exact hlt
                  obtain rfl := hadP (by omega)
                  have ci := (hcP q hqP).1
                  have cj := (hcP q hqP).2
                  rw [hpq] at ci cj
                  simp only at ci cj
                  generalize P.getD q (0, 0) = p at *
                  obtain ⟨i, j⟩ := p
                  simp only at ci cj hprg
                  rw [Hno.out] at hprg
                  have hi : i < k := by omega
                  have hj : j < k := hprg.2
                  have hA := HO.out.at (show i < L.length by rw [Hno.out]; exact hi)
                  have hB := HO.out.at (show j < L.length by rw [Hno.out]; exact hj)
                  have HdM := Lib.hid (dM_far HO.out (show i < L.length by rw [Hno.out]; exact hi) (show j < L.length by rw [Hno.out]; exact hj))
                  have hlE : (l ++ X).length ≤ 3000 := by rw [List.length_append]; omega
                  have Hb11 := Lib.hid (hps.hb.trans ((below1 wr (Obj.cells #[.int .i64 (i : Int), .int .i64 (j : Int)] 78)).mono hps.hb.size))
                  have Hps11 := Lib.hid (hps.below (below1 wr (Obj.cells #[.int .i64 (i : Int), .int .i64 (j : Int)] 78)))
                  have he2 := two_cells wr (.int .i64 (i : Int)) (.int .i64 (j : Int)) 78
                  clear hps hpi hsum hpq hpm htk hcP hadP hqP hprg
                  generalize hnE : (l ++ X).length = nE at *
                  have HnE := Lib.hid hnE
                  clear hnE
                  go_upto_region 23 with fail
                  clear ci cj
                  obtain ⟨bO, oO, rfl, cA⟩ := ints_at' HI8.out Hb11.out (show i < L.length by rw [Hno.out]; exact hi)
                  obtain ⟨bO', oO', eO, cB⟩ := ints_at' HI8.out Hb11.out (show j < L.length by rw [Hno.out]; exact hj)
                  simp only [Option.some.injEq, Addr.mk.injEq] at eO
                  obtain ⟨rfl, rfl, -⟩ := eO
                  have hAN := hA.1
                  have hBN := hB.1
                  have H0 := Lib.hid (HO.out.far _ hA.2 _ hB.2)
                  clear hA hB
                  generalize hA9 : L.getD i 0 = A at *
                  generalize hB9 : L.getD j 0 = B at *
                  have HA9 := Lib.hid hA9; have HB9 := Lib.hid hB9
                  clear hA9 hB9
                  generalize wr.alloc (Obj.cells #[.int .i64 (i : Int), .int .i64 (j : Int)] 78) = w11 at *
                  generalize wr.heap.size = E11 at *
                  have S11 := Lib.hid (S8.out.below Hb11.out)
                  have cn := S11.out.cn
                  have cs := S11.out.cs
                  obtain ⟨e20, e21⟩ := he2
                  have q1 : w.heap.size < w11.heap.size := World.block_lt_of_cell? _ _ cn
                  have q2 : E11 < w11.heap.size := World.block_lt_of_cell? _ _ e20
                  have q3 : bO < w11.heap.size := World.block_lt_of_cell? _ _ cA
                  have m1' : w.heap.size ≠ w11.heap.size := by omega
                  have m2' : E11 ≠ w11.heap.size := by omega
                  have m3' : bO ≠ w11.heap.size := by omega
                  go_cut [15, 16] from 67 to 81 (fun s15 _s16 wx => ∃ W, wx.ownsRow w11.heap.size 3 1 s15 W.length (nvals W) ∧ Below w11.heap.size w11 wx ∧ (∀ i, i + 1 < W.length → AG N (adj l) (W.getD i 0) (W.getD (i + 1) 0)) ∧ 0 < W.length ∧ W.getD 0 0 = A ∧ W.getD (W.length - 1) 0 = B ∧ (W.length : Int) - 1 = farE N (adj l) A B)
                  case first =>
                    go_region_held3 (fun w' => w'.cell? ⟨w.heap.size, 0, none⟩ = some (.int .i64 (N : Int)) ∧ w'.cell? ⟨w.heap.size, 1, none⟩ = some (.slice ad l.length cap) ∧ w'.cell? ⟨E11, 0, none⟩ = some (.int .i64 (i : Int)) ∧ w'.cell? ⟨E11, 1, none⟩ = some (.int .i64 (j : Int)) ∧ w'.cell? ⟨bO, oO + i, none⟩ = some (.int .i64 (A : Int)) ∧ w'.cell? ⟨bO, oO + j, none⟩ = some (.int .i64 (B : Int)))
                      (first | go_keep | exact ⟨d0, d1, d2, d3, d4, d5⟩ | exact ⟨(far2 m1'.symm _ _).trans d0, (far2 m1'.symm _ _).trans d1, (far2 m2'.symm _ _).trans d2, (far2 m2'.symm _ _).trans d3, (far2 m3'.symm _ _).trans d4, (far2 m3'.symm _ _).trans d5⟩)
                      (first | (go_at_call 22; refine (way_any (N : Int) l (A : Int) (B : Int) _ _ (S11.out.he.below (by first | exact (Below.refl _ _).drew | exact ((Below.refl _ _).alloc (Nat.le_refl _) _).drew | exact ((Below.refl _ _).drew).alloc (Nat.le_refl _) _))).mono ?_; rintro e w12 hway; obtain ⟨v, W, rfl, hb12, ho12, hW⟩ := hway.ok Hg.out hAN hBN H0.out.1; have hcur : Below w11.heap.size w11 w12 := uppP (by first | exact (Below.refl _ _).drew | exact ((Below.refl _ _).alloc (Nat.le_refl _) _).drew | exact ((Below.refl _ _).drew).alloc (Nat.le_refl _) _) hb12; have d0 := below_cell hcur cn; have d1 := below_cell hcur cs; have d2 := below_cell hcur e20; have d3 := below_cell hcur e21; have d4 := below_cell hcur cA; have d5 := below_cell hcur cB; have hzc := hcur.size; have m1 : w.heap.size ≠ w12.heap.size := (by omega); have m2 : E11 ≠ w12.heap.size := (by omega); have m3 : bO ≠ w12.heap.size := (by omega); (first | (have hrow := flt_row hb12; obtain ⟨z0, z1, f0, f1, l0⟩ := row_facts hrow) | skip)))
                    all_goals (go_wp2_with fail; go_meet; first | exact ⟨W, (ownsRow_low (b' := w11.heap.size) ho12 (by first | exact Nat.le_refl _ | exact Nat.le_succ _ | simp)).alloc _, hcur.alloc hcur.size _, hW⟩ | exact ⟨W, ownsRow_low (b' := w11.heap.size) ((ho12.kept (grown_set _ _ _ _) (own_side ho12 (by simp))).kept (grown_set _ _ _ _) (own_side ho12 (by simp))) (by simp), (hcur.setCell (p := ⟨w11.heap.size, 0, none⟩) (Nat.le_refl _) _).setCell (p := ⟨w11.heap.size, 1, none⟩) (Nat.le_refl _) _, hW⟩)
                  case rest =>
                    obtain ⟨W, hoW, hbW, hag, hW0, hWA, hWB, hWl⟩ := hcut
                    obtain ⟨w12, rfl⟩ : ∃ w12 : World, w12 = wc := ⟨_, rfl⟩
                    obtain ⟨aW, cW, rfl⟩ := ownsRow_form hoW
                    have Ps12 := Lib.hid (Hps11.out.below hbW)
                    have Hag := Lib.hid hag; have HWA := Lib.hid hWA; have HWB := Lib.hid hWB; have HWl := Lib.hid hWl; have HoW := Lib.hid hoW
                    have hWl1 : W.length ≤ 101 := by have := H0.out.2; omega
                    have hW00 : 0 < W.length := hW0
                    clear hag hWA hWB hWl hoW hbW cn cs e20 e21 cA cB q1 q2 q3 m1' m2' m3' Hb11 Hps11 S11 hW0
                    generalize hnW : W.length = nW at *
                    have HnW := Lib.hid hnW
                    clear hnW
                    go_upto_region 25 with fail
                    go_loopg [12, 17] nW (fun g s12 s17 wi => ∃ t : Nat, t + 1 ≤ nW ∧ g = nW - t ∧ s17 = .int .i64 ((t + 1 : Nat) : Int) ∧ PoS w8 wi w9.heap.size s12 (.slice (some ⟨bP, oP, none⟩) nP cP) (l ++ (X ++ stepsW W t)) (prI P) ∧ wi.ownsRow w11.heap.size 3 1 (.slice aW nW cW) nW (nvals W))
                    case atStart => exact ⟨0, hW00, rfl, rfl, by rw [stepsW, List.append_nil]; exact Ps12.out, HoW.out⟩
                    case round =>
                      clear Ps12 HoW
                      obtain ⟨t, ht, rfl, rfl, hps, hoW⟩ := hrel
                      have Hps := Lib.hid hps; have HoW := Lib.hid hoW
                      have hwt2 : IntKind.i64.wrap (t : Int) = (t : Int) := wrap_midF (by omega) (by omega)
                      have hwt3 : IntKind.i64.wrap ((t : Int) + 1 - 1) = (t : Int) := by rw [show (t : Int) + 1 - 1 = (t : Int) by omega, wrap_midF (by omega) (by omega)]
                      have hwt : IntKind.i64.wrap (((t + 1 : Nat) : Int) - 1) = (t : Int) := by rw [show ((t + 1 : Nat) : Int) - 1 = (t : Int) by omega, wrap_midF (by omega) (by omega)]
                      by_cases hlt : t + 1 < nW
                      · obtain ⟨gW, oW, rfl, cx⟩ := ints_at' (IsInts.owned (l := ints W) hoW) (Below.refl _ _) (show t < W.length by rw [HnW.out]; omega)
                        obtain ⟨gW', oW', eW, cy⟩ := ints_at' (IsInts.owned (l := ints W) hoW) (Below.refl _ _) (show t + 1 < W.length by rw [HnW.out]; omega)
                        simp only [Option.some.injEq, Addr.mk.injEq] at eW
                        obtain ⟨rfl, rfl, -⟩ := eW
                        obtain ⟨aE', cE', rfl⟩ := hps.own.form
                        have hlE2 : (l ++ (X ++ stepsW W t)).length ≤ 3200 := by
                          rw [← List.append_assoc, List.length_append, HnE.out, stepsW_len]; omega
                        have Hst := Lib.hid (show l ++ (X ++ stepsW W (t + 1)) = (l ++ (X ++ stepsW W t)) ++ [(((W.getD t 0 : Nat) : Int), ((W.getD (t + 1) 0 : Nat) : Int))] by rw [stepsW]; simp [List.append_assoc])
                        generalize W.getD t 0 = x at *
                        generalize W.getD (t + 1) 0 = y at *
                        generalize l ++ (X ++ stepsW W t) = EE at *
                        have HD := Lib.hid (fun o => Hps.out.below (((Below.refl wr.heap.size wr).drew).alloc (Nat.le_refl _) o))
                        have HWD := Lib.hid (fun o => ownsRow_below HoW.out (((Below.refl wr.heap.size wr).drew).alloc (Nat.le_refl _) o) (Nat.le_refl _))
                        have hszD : w8.heap.size ≤ wr.heap.size := hps.hb.size
                        clear hps hoW
                        have hti : (t : Int) < (nW : Int) := by omega
                        have hti2 : t < nW := by omega
                        have hti3 : (t : Int) + 1 < (nW : Int) := by omega
                        have hti4 : (0 : Int) ≤ (t : Int) + 1 := by omega
                        go_upto_region 27 with fail
                        go_region_law (refine step_append_edges_at rfl _ _ 22 rfl w8.heap.size Try.underlying22 info2 (.slice aE' EE.length cE') EE rfl (HD.out _).own _ [((x : Int), (y : Int))] rfl (edge_one _ _ _ _ rfl) (by simp) _ rfl (by simp; omega) (by simp; omega) ?_; intro a13 c13 w13 ho13 hg13 hat13; have G13 := Lib.hid ((HD.out _).app ho13 hg13 hat13); have W13 := Lib.hid (way_kept (HD.out _).own (by rw [HnW.out]; exact HWD.out _) hg13); clear ho13 hg13 hat13)
                        all_goals
                          go_wp2
                          go_roundg (nW - (t + 1))
                          case measure => go_light; omega
                          case rel => exact ⟨t + 1, by omega, rfl, by go_num, by rw [Hst.out]; have h := G13.out; rw [List.length_append] at h; exact h, by have h := W13.out; rwa [HnW.out] at h⟩
                      · obtain rfl : t + 1 = nW := by omega
                        clear hps hoW
                        go_wp2
                        go_roundg (nP - (q + 1))
                        case measure => go_light; omega
                        case rel => exact ⟨q + 1, X ++ stepsW W t, by omega, rfl, by go_num, Hps.out, (Hpi.out.way (W := W) Hirr.out (fun i hi => Hag.out i (by rw [HnW.out] at hi; exact hi)) t (by rw [HnW.out]; omega)).congr fun v => by
                            have h1 := HWB.out
                            rw [show t + 1 - 1 = t by omega] at h1
                            rw [Htk.out, twN_snoc, HA9.out, HB9.out, HWA.out, h1], by
                            have h1 := HWl.out; have h2 := Hsum.out; have h3 := HdM.out
                            rw [Htk.out, List.map_append, List.sum_append, List.length_append, stepsW_len, ← h2]
                            simp only [List.map_cons, List.map_nil, List.sum_cons, List.sum_nil, h3]
                            push_cast at h1 ⊢
                            omega, by
                            rw [List.length_append, stepsW_len]; omega⟩
                · obtain rfl : q = nP := by omega
                  have htq : P.take q = P := by rw [List.take_of_length_le]; rw [HlP.out]; exact Nat.le_refl _
                  have hpr := HPc.out.rng
                  have hcv : ∀ k, k < L.length → (P.filter fun p => decide (p.1 = k) || decide (p.2 = k)).length = 1 := fun k hk => by have := HPc.out.cov k hk; simpa using this
                  obtain ⟨z, hz⟩ := Hf.out
                  have hfN := hz.1
                  have Hpar := Lib.hid (hpi.last (fun v => by rw [htq]) HO.out.deg HO.out.nd (fun p hp => hpr p hp) hcv f)
                  have HE := Lib.hid (show IsEdges wr (.slice aE (l ++ X).length cE) (l ++ X) from hps.own.edges)
                  have Hend := Lib.hid hpi.ends
                  have Hag := Lib.hid hpi.ag
                  have hlE : (l ++ X).length ≤ 10000 := by rw [List.length_append]; omega
                  have Hsm := Lib.hid (show (X.length : Int) = matesP (farE N (adj l)) 12 L by rw [hsum, htq]; exact sum_mates HO.out (by rw [Hno.out]; exact H12.out) Hok.out HPc.out)
                  have Sq := Lib.hid (S8.out.below hps.hb)
                  have HfF := Lib.hid Hf.out
                  clear hps hpi hsum htq hpr hcv z hz Hps Hpi Hsum
                  have cn := Sq.out.cn
                  have hzF := Sq.out.r.lt
                  have Fin5 := Lib.hid (fun v w' h1 O eO ho hT => Fin4.out (by first | exact H12.out | (rw [Hno.out]; exact H12.out)) v w' h1 ⟨f, O, eO, X, HfF.out, Hag.out, Hsm.out, ho, hT⟩)
                  generalize l ++ X = EE at *
                  go_wp2_with (go_at_call 53; refine (wtrail_any (by omega) hfN Hend.out hlE Hpar.out _ _ HE.out).mono ?_; rintro e w14 ⟨xv, O, eO, rfl, ho14, hb14, hT⟩; have S14 := Lib.hid (Sq.out.below hb14); obtain ⟨aT, cT, rfl⟩ := ownsRow_form ho14; have Ho14 := Lib.hid ho14; have HT := Lib.hid hT; clear ho14 hb14 hT; obtain ⟨z0, z1, f0, f1, l0⟩ := row_facts S14.out.r)
                  obtain ⟨p0, p1, p2⟩ := S14.out.put (.int .i64 0) (.int .i64 0)
                  have HIW := Lib.hid (IsInts.owned (l := ints O) ((Ho14.out.kept (grown_set w14 (w.heap.size + 1) 0 (.int .i64 0)) (own_side Ho14.out hzF)).kept (grown_set _ (w.heap.size + 1) 1 (.int .i64 0)) (own_side Ho14.out hzF)))
                  exact bodyPost_ret (v := .tuple #[.slice aT O.length cT, .agg #[.int .i64 0, .int .i64 0]]) (by simp [results, Try.results10, go_sem, p0, p1]) rfl (Fin5.out _ _ p2 O eO HIW.out HT.out)
  · have q : (c != 0) = true := by simpa using hc
    obtain ⟨z0, z1, f0, f1, l0⟩ := row_facts S2.out.r
    obtain ⟨p0, p1, p2⟩ := S2.out.put (.int .i64 c) (.int .i64 a)
    have p3 : (w3.setCell ⟨w.heap.size + 1, 0, none⟩ (.int .i64 c)).cell? ⟨w.heap.size + 1, 0, none⟩ = some (.int .i64 c) := (S2.out.r.set 0 (.int .i64 c)).cell (show 0 < 2 by omega)
    have Hc := Lib.hid hc
    clear hc
    go_upto_region 3 with fail
    go_region
    all_goals
      go_wp2
      exact bodyPost_ret (v := .tuple #[.slice none 0 0, .agg #[.int .i64 c, .int .i64 a]]) (by simp [results, Try.results10, go_sem, p0, p1, p3]) rfl ⟨c, a, c, a, _, HR.out, rfl, p2.drew, .inl ⟨Hc.out, rfl, rfl, rfl⟩⟩

end Go.Proofs.Ytnmljgjegodkaaa
