/- chords.Intervals. -/
import Derived.Test.YtnhhohhhpaejmaaRowW
import Derived.Test.YtnhhohhhpaejmaaPL
import Derived.Test.YtnhhohhhpaejmaaCqsW
import Derived.Test.YtnhhohhhpaejmaaCsmW
import Derived.Test.YtnhhohhhpaejmaaOrdW
namespace Go.Proofs.Ytnhhohhhpaejmaa
open Go Go.RowKit

/-- Two ends of an interval, read. -/
structure IvRd (w : World) (b N : Nat) (lo hi : Nat → Nat) : Prop where
  lo : ∀ v, v < N → w.cell? ⟨b, v * 2, none⟩ = some (.int .i64 (lo v : Nat))
  hi : ∀ v, v < N → w.cell? ⟨b, v * 2 + 1, none⟩ = some (.int .i64 (hi v : Nat))
theorem IvRd.below {w w' : World} {b N : Nat} {lo hi : Nat → Nat} (h : IvRd w b N lo hi) (hb : Below w.heap.size w w') : IvRd w' b N lo hi := ⟨fun v hv => below_cell hb (h.lo v hv), fun v hv => below_cell hb (h.hi v hv)⟩
/-- The intervals meet just where there are edges. -/
def IvOk (N : Nat) (G : Nat → Nat → Bool) (lo hi : Nat → Nat) : Prop := ∀ u v, u < N → v < N → lo v ≤ hi v ∧ (u ≠ v → ((lo u ≤ hi v ∧ lo v ≤ hi u) ↔ G u v = true))
/-- What chords.Intervals answers. -/
def IvPost (n : Int) (l : List (Int × Int)) (w : World) (e : Ending) (w' : World) : Prop :=
  ∃ c a v, e = .returned (.tuple #[v, .agg #[.int .i64 c, .int .i64 a]]) ∧ Below w.heap.size w w' ∧
    ((c ≠ 0 ∧ SmallSpec n l 12 c a ∧ v = .slice none 0 0) ∨ (SmallSpec n l 12 0 0 ∧ a = 0 ∧ ∃ N : Nat, n = (N : Int) ∧ N ≤ 12 ∧ GoodGraph n l ∧
      ((c = 9 ∧ v = .slice none 0 0 ∧ ((∃ m, HolR N (adj l) m) ∨ Tri3 N (adj l))) ∨
       (c = 0 ∧ ∃ b lo hi, v = .slice (some ⟨b, 0, none⟩) N N ∧ IvRd w' b N lo hi ∧ IvOk N (adj l) lo hi))))
/-- What row answers here. -/
def RowHere (L : List (List Nat)) (w : World) (v : Value) (w' : World) : Prop :=
  Below w.heap.size w w' ∧ ((∃ p a c, v = .slice (some a) p.length c ∧ FulI L p ∧ IsInts w' v (ints p)) ∨ (v = .slice none 0 0 ∧ NoI L []))
theorem row_here {L : List (List Nat)} {N bu bg : Nat} {lv : Value} (w W : World) (hpos : 0 < L.length) (hle : L.length ≤ 16777216) (hN : N ≤ 12) (hN0 : 0 < N) (hlt : ∀ k, k < L.length → ∀ v, v ∈ L.getD k [] → v < N) (hfew : ∀ k, k < L.length → (L.getD k []).length ≤ 1000)
    (hr : IsRows w lv (L.map ints)) (hb : Below w.heap.size w W) (hbu : W.rowIs bu 4 L.length (fun _ => .bool false)) (hub : w.heap.size ≤ bu) (hbg : W.rowIs bg 3 N (fun _ => .int .i64 0)) :
    Calls Try.prog 48 #[lv, .slice none 0 0, .slice (some ⟨bu, 0, none⟩) L.length L.length, .slice (some ⟨bg, 0, none⟩) N N] W fun e w' => ∃ v, e = .returned v ∧ RowHere L w v w' := by
  refine (row_any L N bu lv (L.length - 0) _ _ [] W rfl ⟨hpos, hle, hN, hN0, hlt, hfew, StaI.nil, hr.below hb, IsInts.nil W, hbu.congr fun k _ => by simp [rb], ?_⟩).mono ?_
  · refine ⟨_, N, bg, 0, by rw [fnL_len], by rw [fnL_len]; exact Nat.le_refl _, by omega, fun _ => rfl, (fun e => by cases e), fun j hj => ?_⟩
    rw [fnL_len] at hj
    rw [Nat.zero_add, hbg.cell hj, fnL_at hj]
    rfl
  · rintro e w' ⟨r, rfl, hg, hres⟩
    refine ⟨r, rfl, hb.grown hg hb.size (fun g e => by cases e; exact hub), ?_⟩
    rcases hres with h | ⟨h1, h2, -⟩
    · exact .inl h
    · exact .inr ⟨h1, h2⟩

set_option maxHeartbeats 3200000 in
set_option maxRecDepth 100000 in
theorem intervals_any (n : Int) (l : List (Int × Int)) (s : Value) (w : World) (h : IsEdges w s l) :
    Calls Try.prog 25 #[.agg #[.int .i64 n, s]] w (IvPost n l w) := by
  obtain ⟨ad, cap, rfl⟩ := h.form
  have St := Lib.hid (WkG.start (n := n) h)
  clear h
  go_enter Try.func25, Try.ntmps25
  go_upto_region 1 with fail
  generalize (w.alloc (Obj.cells #[.int .i64 n, .slice ad l.length cap] 24)).alloc (Obj.cells #[.int .i64 0, .int .i64 0] 27) = w1 at *
  have cn := St.out.cn
  have cs := St.out.cs
  have hlS := St.out.r.lt
  go_upto_region 2 with (go_at_call 37; refine (csmall_any n 12 l _ _ St.out.he).mono ?_; rintro e w2 ⟨c, a, hR, rfl, hb2⟩; have hz2 := hb2.size; have hb3 := upc hb2 (below1 w2 (Obj.cells #[.int .i64 c, .int .i64 a] 27)); have S2 := Lib.hid (St.out.below hb3); have HR := Lib.hid hR; have e01 := two_cells w2 (.int .i64 c) (.int .i64 a) 27; clear hR hb2)
  generalize w2.alloc (Obj.cells #[.int .i64 c, .int .i64 a] 27) = w3 at *
  obtain ⟨e0, e1⟩ := e01
  clear cn cs St
  have n1 : w.heap.size + 1 ≠ w2.heap.size := by omega
  generalize w2.heap.size = E at *
  by_cases hc : c = 0
  · subst hc
    obtain ⟨hgs, hn12, rfl⟩ : GraphSpec n l 0 0 ∧ n ≤ 12 ∧ a = 0 := by
      rcases HR.out with ⟨-, h⟩ | ⟨h1, ⟨-, h, -⟩ | ⟨h2, -, h3⟩⟩
      · exact absurd rfl h
      · cases h
      · exact ⟨h1, h2, h3⟩
    obtain ⟨hg, -⟩ := hgs.good
    obtain ⟨N, rfl⟩ := Int.eq_ofNat_of_zero_le hg.lo
    have hN : N ≤ 12 := by omega
    have Hg := Lib.hid hg
    have Hgs := Lib.hid hgs
    have Hsym := Lib.hid (good_symC (l := l) (N := N))
    have Hirr := Lib.hid (good_irrC hg)
    clear hg hgs hn12
    have cn := S2.out.cn
    have cs := S2.out.cs
    go_upto_region 4 with fail
    go_wp2_with fail
    refine (order_chords (N : Int) l _ _ S2.out.he).mono ?_
    rintro e w4 ⟨c', a', o, h, hsp', rfl, hb4, hres⟩
    obtain ⟨e1, e2⟩ := GraphSpec.uniq hsp' Hgs.out
    subst e1 e2
    obtain ⟨A, ao, co, rfl, hcase⟩ : ∃ A ao co, o = .slice ao (List.length A) co ∧ ((PerfI N (adj l) A ∧ A.length = N) ∨ (A = [] ∧ ∃ m, HolR N (adj l) m)) := by
      rcases hres with ⟨h0, -⟩ | ⟨-, N2, e, -, hh⟩
      · exact absurd rfl h0
      · obtain rfl : N2 = N := by omega
        rcases hh with ⟨A, h1, h2, -, ho⟩ | ⟨m, hm, rfl, -⟩
        · obtain ⟨ao, co, rfl⟩ := ownsRow_form ho
          exact ⟨A, ao, co, rfl, .inl ⟨h1, h2⟩⟩
        · exact ⟨[], none, 0, rfl, .inr ⟨rfl, m, hm⟩⟩
    have S5 := Lib.hid (S2.out.below (upc hb4 (below1 w4 (Obj.cells #[.int .i64 0, .int .i64 0] 27))))
    have hE4 := hb4.size
    have hE3 := S2.out.r.lt
    clear hres hsp' cn cs e0 hb4
    go_upto_region 5 with fail
    generalize w4.alloc (Obj.cells #[.int .i64 0, .int .i64 0] 27) = w5 at *
    have cn := S5.out.cn
    have cs := S5.out.cs
    rcases hcase with ⟨hA, hAl⟩ | ⟨rfl, m, hm⟩
    · have HA := Lib.hid (And.intro hA hAl)
      rw [hAl]
      clear hA hAl
      have Hcq := Lib.hid (fun w5 tv (h : HasGrid w5 tv N (adj l)) => cliques_any w5 (by omega : N ≤ 24) Hsym.out Hirr.out h)
      go_upto_region 8 with (first
        | (go_at_call 30; refine (table_any l N _ _ S5.out.he (by omega) (good_endsC Hg.out)).mono ?_; rintro e w6 ⟨tv, rfl, hgrid, hb6⟩; have Hgrid := Lib.hid (show HasGrid w6 tv N (adj l) from ⟨_, hgrid⟩); have Hb6 := Lib.hid hb6; clear hgrid hb6)
        | (go_at_call 38; refine (Hcq.out _ _ Hgrid.out).mono ?_; rintro e w7 ⟨r, L, rfl, hL, hLl, hir, hb7⟩; have S7 := Lib.hid ((S5.out.below Hb6.out).below hb7); have HL := Lib.hid hL; have Hir := Lib.hid hir; have hLl2 := hLl; obtain ⟨ra, rc, rfl⟩ := hir.form; clear hL hir hb7))
      have Hrows := Lib.hid (show IsRows w7 (.slice ra L.length rc) (L.map ints) by have h1 := Hir.out.rows; rw [List.length_map] at h1; exact h1)
      have HLlt := Lib.hid (show ∀ k, k < L.length → ∀ v, v ∈ L.getD k [] → v < N from fun k hk v hv => by
        have hK : L.getD k [] ∈ L := by rw [List.getD, List.getElem?_eq_getElem hk]; exact List.getElem_mem _
        exact ((HL.out.iff _).1 hK).1.lt v hv)
      have HLfew := Lib.hid (show ∀ k, k < L.length → (L.getD k []).length ≤ 1000 from fun k hk => by
        have hK : L.getD k [] ∈ L := by rw [List.getD, List.getElem?_eq_getElem hk]; exact List.getElem_mem _
        have hm := ((HL.out.iff _).1 hK).1
        have h1 := List.Nodup.length_le_of_subset (l₂ := List.range N) (hm.asc.imp fun h => Nat.ne_of_lt h) fun x hx => List.mem_range.2 (hm.lt x hx)
        rw [List.length_range] at h1
        omega)
      have cn7 := S7.out.cn
      have hs7 : w.heap.size + 1 < w7.heap.size := S7.out.r.lt
      have hs8 : w.heap.size < w7.heap.size := by omega
      clear Hcq Hgrid Hir cn cs
      by_cases hN0 : 0 < N
      · have hpos := cqs_pos Hsym.out hN0 HL.out.iff
        have HR0 := HR
        have HR := Lib.hid (fun W bu bg hb hbu hub hbg => row_here (bu := bu) (bg := bg) w7 W hpos hLl2 hN hN0 HLlt.out HLfew.out Hrows.out hb hbu hub hbg)
        obtain ⟨K, hK⟩ : ∃ K, L.length = K := ⟨_, rfl⟩
        have HK := Lib.hid hK
        rw [hK] at hpos hLl2 HR ⊢
        clear hK
        have hmk := run_make_row' (P := Try.prog) 29 3 (.int .i64 0) 8 Try.underlying29 info3 rfl .i64 .i64 N (by omega) (by omega)
        have hmk2 := run_make_row' (P := Try.prog) 39 4 (.bool false) 1 Try.underlying39 info4 rfl .i64 .i64 K (by omega) (by omega)
        have hA := World.rowIs_made w7 (.bool false) K 4
        have hA2 := World.rowIs_made (w7.alloc (.cells (madeCells #[.bool false] K) 4)) (.int .i64 0) N 3
        have hB := World.rowIs_made w7 (.int .i64 0) N 3
        have hB2 := World.rowIs_made (w7.alloc (.cells (madeCells #[.int .i64 0] N) 3)) (.bool false) K 4
        have HAs := Lib.hid (And.intro (hA.alloc (.cells (madeCells #[.int .i64 0] N) 3)) (And.intro hA2 (below2 w7 (.cells (madeCells #[.bool false] K) 4) (.cells (madeCells #[.int .i64 0] N) 3))))
        have HBs := Lib.hid (And.intro (hB.alloc (.cells (madeCells #[.bool false] K) 4)) (And.intro hB2 (below2 w7 (.cells (madeCells #[.int .i64 0] N) 3) (.cells (madeCells #[.bool false] K) 4))))
        clear hA hA2 hB hB2
        have HX := Lib.hid (HR.out (((w7.alloc (.cells (madeCells #[.bool false] K) 4)).alloc (.cells (madeCells #[.int .i64 0] N) 3)).drew) _ _ (HAs.out.2.2.drew) HAs.out.1 (Nat.le_refl _) HAs.out.2.1)
        have HY := Lib.hid (HR.out (((w7.alloc (.cells (madeCells #[.int .i64 0] N) 3)).alloc (.cells (madeCells #[.bool false] K) 4)).drew) _ _ (HBs.out.2.2.drew) HBs.out.2.1 (by rw [World.size_alloc]; omega) HBs.out.1)
        rw [World.size_alloc] at HX HY
        clear HAs HBs HR
        go_cut [9] from 37 to 44 (fun s9 wx => RowHere L w7 s9 wx)
        case first =>
          go_region_with (go_at_call 48; (first | with_reducible refine Calls.mono HX.out ?_ | with_reducible refine Calls.mono HY.out ?_); rintro e w8 ⟨v, rfl, hv⟩)
          all_goals (go_wp2_with fail; go_meet; exact hv)
        case rest =>
          obtain ⟨hb8, hc8⟩ := hcut
          have S8 := Lib.hid (S7.out.below hb8)
          have Hr8 := Lib.hid (show IsRows wc (.slice ra K rc) (L.map ints) by have h1 := Hrows.out.below hb8; rw [HK.out] at h1; exact h1)
          have hz8 := hb8.size
          clear HX HY hb8 cn7 Hrows hmk
          rcases hc8 with ⟨p, a9, c9, rfl, hF, hi9⟩ | ⟨rfl, hno⟩
          · have HF := Lib.hid hF
            have Hp := Lib.hid hi9
            have cn8 := S8.out.cn
            have hs9 : w.heap.size < wc.heap.size := by omega
            have hkl := Lib.hid (show ∀ i, i < p.length → p.getD i 0 < K from fun i hi => by
              rw [← HK.out]
              refine hF.lt _ ?_
              rw [List.getD, List.getElem?_eq_getElem hi]; exact List.getElem_mem _)
            have hpl : p.length ≤ 16777216 := by rw [hF.len, HK.out]; exact hLl2
            clear hF hi9 hmk2
            obtain ⟨P, hP⟩ : ∃ P, p.length = P := ⟨_, rfl⟩
            have HP := Lib.hid hP
            rw [hP] at hpl hkl ⊢
            have Hp2 := Lib.hid (show IsInts wc (.slice (some a9) P c9) (ints p) by have h1 := Hp.out; rw [hP] at h1; exact h1)
            clear hP Hp
            have hmk := run_make_two (P := Try.prog) 22 52 Try.underlying22 (by kernel_rfl) N (by omega)
            have hmk2 := run_make_row' (P := Try.prog) 39 4 (.bool false) 1 Try.underlying39 info4 rfl .i64 .i64 N (by omega) (by omega)
            have hnil : (binOp BinOp.eql 29 (Value.slice (some a9) P c9) (Value.slice none 0 0)).run Try.prog wc = .ok (.bool false) wc := by kernel_rfl
            have I0 := Lib.hid (IvS.start wc N)
            have Hb9 := Lib.hid (below2 wc (.cells (madeCells #[.int .i64 0, .int .i64 0] (N * 2)) 52) (.cells (madeCells #[.bool false] N) 4))
            go_upto_region 14 with fail
            generalize (wc.alloc (.cells (madeCells #[.int .i64 0, .int .i64 0] (N * 2)) 52)).alloc (.cells (madeCells #[.bool false] N) 4) = w9 at *
            have hcw : wc.heap.size ≤ wc.heap.size := Nat.le_refl _
            clear hmk hmk2 hnil cn8
            obtain ⟨B, hB⟩ : ∃ B, wc.heap.size = B := ⟨_, rfl⟩
            have HB := Lib.hid hB
            rw [hB] at I0 hs9 ⊢
            clear hB hcw hz8
            go_loopg [61] P (fun g s61 wr => ∃ i : Nat, i ≤ P ∧ g = P - i ∧ s61 = .int .i64 (i : Int) ∧ Below wc.heap.size wc wr ∧ IvS wr B (B + 1) N (fsI L (p.take i)) (lsI L (p.take i)) (anyI L (p.take i)))
            case atStart => exact ⟨0, Nat.zero_le _, rfl, rfl, Hb9.out, I0.out.congr (fun _ => rfl) (fun _ => rfl) (fun _ => rfl)⟩
            case round =>
              clear I0 Hb9
              obtain ⟨i, hi, rfl, rfl, hbi, hI⟩ := hrel
              have HI := Lib.hid hI
              have Hbi := Lib.hid hbi
              clear hI hbi
              by_cases hlt : i < P
              · obtain ⟨b1, o1, hae, ck⟩ := ints_cells Hp2.out (j := i) (by rw [HP.out]; exact hlt)
                obtain rfl := Option.some.inj hae
                have hk := hkl.out i hlt
                have Hnx := Lib.hid (fun (W : World) h => IvS.next (wr := W) (bo := B) (bs := B + 1) (N := N) (L := L) (p := p) (i := i) (by rw [HP.out]; exact hlt) h)
                have ck2 := below_cell Hbi.out ck
                clear ck
                generalize p.getD i 0 = k at *
                obtain ⟨b2, o2, r, rfl, cr, hr⟩ := Hr8.out.atT (k := k) (by rw [List.length_map, HK.out]; exact hk)
                have cr2 := below_cell Hbi.out cr
                rw [ints_rows] at hr
                have hC : ∀ m, m < (L.getD k []).length → (L.getD k []).getD m 0 < N := fun m hm => by
                  refine HLlt.out k (by rw [HK.out]; exact hk) _ ?_
                  generalize L.getD k [] = C at *
                  rw [List.getD, List.getElem?_eq_getElem hm]
                  exact List.getElem_mem _
                have hCl := HLfew.out k (by rw [HK.out]; exact hk)
                have hql : (p.take i).length = i := by rw [List.length_take]; have := HP.out; omega
                have H0 := Lib.hid (HI.out.congr (fun v => (lo1_zero (p.take i) (L.getD k []) v).symm) (fun v => (hi1_zero (p.take i) (L.getD k []) v).symm) (fun v => (sn1_zero (p.take i) (L.getD k []) v).symm))
                clear cr
                obtain ⟨C, hCC⟩ : ∃ C, L.getD k [] = C := ⟨_, rfl⟩
                rw [hCC] at hr hC hCl H0 Hnx
                have HC := Lib.hid hC
                have Hr := Lib.hid hr
                have Hql := Lib.hid hql
                obtain ⟨ra2, rc2, rfl⟩ : ∃ a c, r = .slice a C.length c := by
                  obtain ⟨a, c, b, o, e, -⟩ := hr
                  exact ⟨a, c, by rw [e]; simp [ints]⟩
                generalize p.take i = q at *
                clear hC hr hql hCC HI
                go_wp2
                obtain ⟨wo, rfl⟩ : ∃ wo : World, wo = wr := ⟨_, rfl⟩
                go_loopg [71] C.length (fun g s71 wr => ∃ m : Nat, m ≤ C.length ∧ g = C.length - m ∧ s71 = .int .i64 (m : Int) ∧ Below wc.heap.size wc wr ∧ IvS wr B (B + 1) N (lo1 L q C m) (hi1 L q C m) (sn1 L q C m))
                case atStart => exact ⟨0, Nat.zero_le _, rfl, rfl, Hbi.out, H0.out⟩
                case round =>
                  clear H0 Hbi
                  obtain ⟨m, hm, rfl, rfl, hbm, hI⟩ := hrel
                  have Hbm := Lib.hid hbm
                  clear hbm
                  by_cases hml : m < C.length
                  · obtain ⟨b3, o3, rfl, cc⟩ := ints_cells Hr.out hml
                    have cc2 := below_cell Hbm.out cc
                    have hx := HC.out m hml
                    have cs := hI.cSn hx
                    have cl := hI.cLo hx
                    have ch := hI.cHi hx
                    have fo := fun j => hI.rl.frozen j
                    have fs := fun j => hI.rs.frozen j
                    have HI := Lib.hid hI
                    have hB1 : B ≠ B + 1 := by omega
                    have hwB : wc.heap.size ≤ B := Nat.le_of_eq HB.out
                    clear cc hI
                    obtain ⟨sv, hsv⟩ : ∃ sv, sn1 L q C m (C.getD m 0) = sv := ⟨_, rfl⟩
                    have Hhad := Lib.hid (fun (e : sv = true) => HI.out.had hml Hql.out (by rw [hsv]; exact e))
                    have Hnew := Lib.hid (fun (e : sv = false) => HI.out.new hml Hql.out (by rw [hsv]; exact e))
                    rw [hsv] at cs
                    clear hsv HI
                    generalize C.getD m 0 = x at *
                    generalize lo1 L q C m x = lx at *
                    generalize hi1 L q C m x = hx1 at *
                    cases sv with
                    | true =>
                      have HN := Lib.hid (Hhad.out rfl)
                      go_wp2
                      go_roundg (C.length - (m + 1))
                      case measure => go_light; omega
                      case rel => exact ⟨m + 1, by omega, rfl, by go_num, Hbm.out.setCell hwB _, HN.out⟩
                    | false =>
                      have HN := Lib.hid (Hnew.out rfl)
                      go_wp2
                      go_roundg (C.length - (m + 1))
                      case measure => go_light; omega
                      case rel => exact ⟨m + 1, by omega, rfl, by go_num, ((Hbm.out.setCell hwB _).setCell (p := ⟨B + 1, x, none⟩) (Nat.le_succ_of_le hwB) _).setCell hwB _, HN.out⟩
                  · obtain rfl : m = C.length := by omega
                    have HN := Lib.hid (Hnx.out _ hI)
                    clear hI
                    go_wp2
                    go_roundg (P - (i + 1))
                    case measure => go_light; omega
                    case rel => exact ⟨i + 1, by omega, rfl, by go_num, Hbm.out, HN.out⟩
              · obtain rfl : i = P := by omega
                have hI := HI.out
                rw [List.take_of_length_le (by rw [HP.out]; exact Nat.le_refl _)] at hI
                have S10 := Lib.hid (S8.out.below Hbi.out)
                have Hrd := Lib.hid (show IvRd wr B N (fsI L p) (lsI L p) from ⟨fun v hv => hI.cLo hv, fun v hv => hI.cHi hv⟩)
                have Hok := Lib.hid (show IvOk N (adj l) (fsI L p) (lsI L p) from fun u v hu hv => FulI.meet Hsym.out HL.out.iff HF.out hu hv)
                obtain ⟨y0, y1, k0, k1, m0⟩ := row_facts S10.out.r
                obtain ⟨p0, p1, p2⟩ := S10.out.put (.int .i64 0) (.int .i64 0)
                have hB0 : w.heap.size + 1 < B := by rw [← HB.out]; have h1 := S8.out.r.lt; exact h1
                clear hI
                go_wp2
                exact bodyPost_ret (v := .tuple #[.slice (some ⟨B, 0, none⟩) N N, .agg #[.int .i64 0, .int .i64 0]]) (by simp [results, Try.results25, go_sem, p0, p1]) rfl ⟨0, 0, _, rfl, p2, .inr ⟨HR0.out, rfl, N, rfl, hN, Hg.out, .inr ⟨rfl, B, _, _, rfl, ⟨fun v hv => by
                  rw [World.cell?_setCell_far _ _ _ _ (show w.heap.size + 1 ≠ B by omega), World.cell?_setCell_far _ _ _ _ (show w.heap.size + 1 ≠ B by omega)]
                  exact Hrd.out.lo v hv, fun v hv => by
                  rw [World.cell?_setCell_far _ _ _ _ (show w.heap.size + 1 ≠ B by omega), World.cell?_setCell_far _ _ _ _ (show w.heap.size + 1 ≠ B by omega)]
                  exact Hrd.out.hi v hv⟩, Hok.out⟩⟩⟩
          · have hq : (0 : Int) < (K : Int) := by omega
            have Ht := Lib.hid (noI_tri Hsym.out Hirr.out hN0 HA.out.1 HA.out.2 HL.out.asc HL.out.iff hno)
            clear hno
            have hnil : (binOp BinOp.eql 29 (Value.slice none 0 0) (Value.slice none 0 0)).run Try.prog wc = .ok (.bool true) wc := by kernel_rfl
            obtain ⟨y0, y1, k0, k1, m0⟩ := row_facts S8.out.r
            obtain ⟨p0, p1, p2⟩ := S8.out.putA (.int .i64 9) (.int .i64 0) (Obj.cells #[.int .i64 9, .int .i64 0] 27)
            go_wp2_with (go_at_call 44; refine (cfault_any _ _ _).mono ?_; rintro e w6 ⟨rfl, rfl⟩)
            exact bodyPost_ret (v := .tuple #[.slice none 0 0, .agg #[.int .i64 9, .int .i64 0]]) (by simp [results, Try.results25, go_sem, p0, p1]) rfl ⟨9, 0, _, rfl, p2, .inr ⟨HR0.out, rfl, N, rfl, hN, Hg.out, .inl ⟨rfl, rfl, .inr Ht.out⟩⟩⟩
      · obtain rfl : N = 0 := by omega
        have hL0 : L = [] := List.eq_nil_iff_forall_not_mem.2 fun K hK => ((HL.out.iff K).1 hK).2 (maxCl_zero ((HL.out.iff K).1 hK).1)
        subst hL0
        have hmk : ∀ W : World, (Instr.makeSlice 29 (.int .i64 0) (.int .i64 0)).run Try.prog W = .ok (.slice (some ⟨W.heap.size, 0, none⟩) 0 0) (W.alloc (.cells (madeCells #[.int .i64 0] 0) 3)) := run_make_row' (P := Try.prog) 29 3 (.int .i64 0) 8 Try.underlying29 info3 rfl .i64 .i64 0 (by omega) (by omega)
        have hmk2 : ∀ W : World, (Instr.makeSlice 39 (.int .i64 0) (.int .i64 0)).run Try.prog W = .ok (.slice (some ⟨W.heap.size, 0, none⟩) 0 0) (W.alloc (.cells (madeCells #[.bool false] 0) 4)) := run_make_row' (P := Try.prog) 39 4 (.bool false) 1 Try.underlying39 info4 rfl .i64 .i64 0 (by omega) (by omega)
        have HAs := Lib.hid (below2 w7 (.cells (madeCells #[.bool false] 0) 4) (.cells (madeCells #[.int .i64 0] 0) 3)).drew
        have HBs := Lib.hid (below2 w7 (.cells (madeCells #[.int .i64 0] 0) 3) (.cells (madeCells #[.bool false] 0) 4)).drew
        go_cut [9] from 37 to 44 (fun s9 wx => s9 = .slice none 0 0 ∧ Below w7.heap.size w7 wx)
        case first =>
          go_region_with (go_at_call 48; refine (row_zero _ _ _ _ _ _ _).mono ?_; rintro e w8 ⟨rfl, hw8⟩; rw [hw8]; clear hw8)
          all_goals (go_wp2_with fail; go_meet; exact ⟨rfl, by first | with_reducible exact HAs.out | with_reducible exact HBs.out⟩)
        case rest =>
          obtain ⟨rfl, hb8⟩ := hcut
          have S8 := Lib.hid (S7.out.below hb8)
          have hnil : (binOp BinOp.eql 29 (Value.slice none 0 0) (Value.slice none 0 0)).run Try.prog wc = .ok (.bool true) wc := by kernel_rfl
          have hmk3 : ∀ W : World, (Instr.makeSlice 22 (.int .i64 0) (.int .i64 0)).run Try.prog W = .ok (.slice (some ⟨W.heap.size, 0, none⟩) 0 0) (W.alloc (.cells (madeCells #[.int .i64 0, .int .i64 0] 0) 52)) := run_make_two (P := Try.prog) 22 52 Try.underlying22 (by kernel_rfl) 0 (by omega)
          have Hb9 := Lib.hid (below2 wc (.cells (madeCells #[.int .i64 0, .int .i64 0] 0) 52) (.cells (madeCells #[.bool false] 0) 4))
          have cn8 := S8.out.cn
          have hz8 := hb8.size
          have hs9 : w.heap.size < wc.heap.size := by omega
          clear hb8 HAs HBs
          go_upto_region 13 with fail
          generalize (wc.alloc (.cells (madeCells #[.int .i64 0, .int .i64 0] 0) 52)).alloc (.cells (madeCells #[.bool false] 0) 4) = w9 at *
          have S10 := Lib.hid (S8.out.below Hb9.out)
          obtain ⟨y0, y1, k0, k1, m0⟩ := row_facts S10.out.r
          obtain ⟨p0, p1, p2⟩ := S10.out.put (.int .i64 0) (.int .i64 0)
          go_wp2
          go_loopg [61] 0 (fun g s61 wr => g = 0 ∧ s61 = .int .i64 0 ∧ wr = w9)
          case atStart => exact ⟨rfl, rfl, rfl⟩
          case round =>
            obtain ⟨rfl, rfl, rfl⟩ := hrel
            go_wp2
            exact bodyPost_ret (v := .tuple #[.slice (some ⟨wc.heap.size, 0, none⟩) 0 0, .agg #[.int .i64 0, .int .i64 0]]) (by simp [results, Try.results25, go_sem, p0, p1]) rfl ⟨0, 0, _, rfl, p2, .inr ⟨HR.out, rfl, 0, rfl, hN, Hg.out, .inr ⟨rfl, wc.heap.size, fun _ => 0, fun _ => 0, rfl, ⟨fun v hv => absurd hv (Nat.not_lt_zero _), fun v hv => absurd hv (Nat.not_lt_zero _)⟩, fun u v hu _ => absurd hu (Nat.not_lt_zero _)⟩⟩⟩
    · have hq : (0 : Int) < (N : Int) := by have h1 := hm.ge; have h2 := hm.lt 0 (by omega); omega
      have Hm := Lib.hid hm
      clear hm
      obtain ⟨y0, y1, k0, k1, m0⟩ := row_facts S5.out.r
      obtain ⟨p0, p1, p2⟩ := S5.out.putA (.int .i64 9) (.int .i64 0) (Obj.cells #[.int .i64 9, .int .i64 0] 27)
      go_wp2_with (go_at_call 44; refine (cfault_any _ _ _).mono ?_; rintro e w6 ⟨rfl, rfl⟩)
      exact bodyPost_ret (v := .tuple #[.slice none 0 0, .agg #[.int .i64 9, .int .i64 0]]) (by simp [results, Try.results25, go_sem, p0, p1]) rfl ⟨9, 0, _, rfl, p2, .inr ⟨HR.out, rfl, N, rfl, hN, Hg.out, .inl ⟨rfl, rfl, .inl ⟨_, Hm.out⟩⟩⟩⟩
  · have q : (c != 0) = true := by simp [hc]
    have Hc := Lib.hid hc
    clear hc
    obtain ⟨y0, y1, k0, k1, m0⟩ := row_facts S2.out.r
    go_wp2
    go_region
    all_goals
      obtain ⟨p0, p1, p2⟩ := S2.out.put (.int .i64 c) (.int .i64 a)
      have p3 : True := trivial
      go_wp2
      exact bodyPost_ret (v := .tuple #[.slice none 0 0, .agg #[.int .i64 c, .int .i64 a]]) (by simp [results, Try.results25, go_sem, p0, p1]) rfl ⟨c, a, _, rfl, p2.drew, .inl ⟨Hc.out, HR.out, rfl⟩⟩

end Go.Proofs.Ytnhhohhhpaejmaa
