/- parts.Components: the parts of a graph, each rising, in order by their least nodes. parts.Cuts: the nodes of two blocks and more. parts.Components where the graph has a fault. -/
import Derived.Test.YtnhhohhhpaejmaaDoorPH
import Derived.Test.YtnhhohhhpaejmaaDoorPN
import Derived.Test.YtnhhohhhpaejmaaDoorPD
import Derived.Test.YtnhhohhhpaejmaaDoorPJ
import Derived.Deep.RegionHeld3
namespace Go.Proofs.YtnhhohhhpaejmaaDoor
open Go.RowKit Go.Maps

theorem nbrs_cm {l : List (Int × Int)} {N : Nat} (hg : GoodGraph N l) : CmA N (conB N (adj l)) (nbrs l N) where
  pre := con_pre
  len v _ := by rw [nbrs_length]; exact cntN_le _ _
  one v u hv hu := by
    have h := ((good_gr hg).nbs.mem v hv u).1 hu
    exact ⟨h.2.1, by rw [con_eqv (good_gr hg).sym hv]; exact rchB_iff.2 (.step .refl hv h.2.1 h.2.2 rfl)⟩
  way P v hv hP hall u hu he := by
    rw [con_eqv (good_gr hg).sym hv] at he
    have h := rchB_iff.1 he
    clear he
    induction h with
    | refl => exact hP
    | step _ h1 h2 h3 _ ih => exact hall _ h1 (ih h1) _ (((good_gr hg).nbs.mem _ h1 _).2 ⟨h1, h2, h3⟩)

/-- What parts.Components answers. -/
def CompsPost (l : List (Int × Int)) (N : Nat) (w : World) (e : Ending) (w' : World) : Prop :=
  ∃ v, e = .returned (.tuple #[v, .agg #[.int .i64 0, .int .i64 0]]) ∧ PRow w' w.heap.size v (compsL N (adj l)) ∧ Below w.heap.size w w'

set_option maxHeartbeats 6400000 in
set_option maxRecDepth 100000 in
theorem pcomps_ok {l : List (Int × Int)} {N : Nat} (hgood : GoodGraph N l) (s : Value) (w : World) (h : IsEdges w s l) :
    Calls Tryd.prog 25 #[.agg #[.int .i64 (N : Int), s]] w (CompsPost l N w) := by
  obtain ⟨ad, cap, rfl⟩ := h.form
  have hN : N ≤ 100 := by have := hgood.hi; omega
  have Hg := Lib.hid hgood
  have HA := Lib.hid (nbrs_cm hgood)
  have St := Lib.hid (PSt.start (n := (N : Int)) h)
  have hmk := run_make_row' (P := Tryd.prog) 55 4 (.bool false) 1 Tryd.underlying55 info4 rfl .i64 .i64 N (by omega) (by omega)
  clear hgood h
  go_enter Tryd.func25, Tryd.ntmps25
  go_upto_region 1 with fail
  generalize (w.alloc (Obj.cells #[.int .i64 (N : Int), .slice ad l.length cap] 24)).alloc (Obj.cells #[.int .i64 0, .int .i64 0] 27) = w1 at *
  have cn := St.out.cn
  have cs := St.out.cs
  have hl := St.out.r.lt
  go_upto_region 2 with (go_at_call 36; refine (gcheck_is Hg.out.spec _ _ St.out.he).mono ?_; rintro e w2 ⟨rfl, hb2⟩; have S2 := Lib.hid (St.out.below (hb2.trans ((below1 w2 (Obj.cells #[.int .i64 0, .int .i64 0] 27)).mono hb2.size))); have e01 := two_cells w2 (.int .i64 0) (.int .i64 0) 27; clear hb2)
  generalize w2.alloc (Obj.cells #[.int .i64 0, .int .i64 0] 27) = w3 at *
  obtain ⟨e0, e1⟩ := e01
  clear cn cs hl St
  have cn := S2.out.cn
  have cs := S2.out.cs
  go_upto_region 5 with (go_at_call 19; refine (glists_any Hg.out _ _ S2.out.he).mono ?_; rintro e w5 ⟨B, V, rfl, hnb, hBlo, hb5⟩)
  have S5 := Lib.hid (S2.out.below hb5)
  have Hnb := Lib.hid hnb
  clear e0 e1 cn cs S2 hnb hb5
  have cn := S5.out.cn
  have hr6 := (World.rowIs_made w5 (.bool false) N 4).congr (g := rb fun _ => false) fun _ _ => rfl
  have hb6 := below1 w5 (.cells (madeCells #[.bool false] N) 4)
  have hz6 : (w5.alloc (.cells (madeCells #[.bool false] N) 4)).heap.size = w5.heap.size + 1 := World.size_alloc _ _
  have Hr6 := Lib.hid hr6
  have Hb6 := Lib.hid hb6
  have cn6 := below_cell hb6 cn
  have hS1 : w.heap.size + 1 < w5.heap.size := S5.out.r.lt
  clear hr6 hb6
  go_upto_region 7 with fail
  clear hmk cn
  generalize w5.alloc (.cells (madeCells #[.bool false] N) 4) = w6 at *
  generalize hE0 : conB N (adj l) = E at *
  have HE0 := Lib.hid hE0
  clear hE0
  generalize hX0 : nbrs l N = X at *
  clear hX0
  have hDz : w5.heap.size < w6.heap.size := by omega
  go_wp2
  clear cn6
  go_loopg [7, 26] N (fun g s7 s26 wr => ∃ k : Nat, k ≤ N ∧ g = N - k ∧ s26 = .int .i64 k ∧ PaS w6 wr N w5.heap.size (inP E k) ∧ PRow wr w6.heap.size s7 ((lds E k).map (cls N E)))
  case atStart => exact ⟨0, Nat.zero_le _, rfl, rfl, ⟨World.grownBy.refl _ _, row_rb Hr6.out fun q _ => by simp [inP]⟩, PRow.nil _ _⟩
  case round =>
    obtain ⟨k, hk, rfl, rfl, hpa, hpr⟩ := hrel
    obtain ⟨wq, rfl⟩ : ∃ wq : World, wq = wr := ⟨_, rfl⟩
    have Hpa := Lib.hid hpa
    obtain ⟨vals, k1, k2⟩ := hpr
    obtain ⟨aO, cO, rfl⟩ := ownsRow_form k1
    rw [List.length_map] at k1
    rw [List.length_map]
    have hll := lds_len E k
    have K1 := Lib.hid k1; have K2 := Lib.hid k2
    have hzq := hpa.g.size
    clear k1 k2
    by_cases hlt : k < N
    · have cd := hpa.done.cell hlt
      have fd := hpa.done.frozen k
      have ld := hpa.done.lt
      simp only [rb] at cd
      have hls := lds_succ E k
      clear hpa
      cases hld : inP E k k with
      | true =>
        rw [hld] at cd
        have hl : ldB E k = false := by rw [ldB_inP, hld]; rfl
        rw [if_neg (by rw [hl]; simp), List.append_nil] at hls
        have Hls := Lib.hid hls; have Hl := Lib.hid hl
        clear hl hls hld
        go_wp2
        go_roundg (N - (k + 1))
        case measure => go_light; omega
        case rel => exact ⟨k + 1, by omega, rfl, by go_num, Hpa.out.congr fun q hq => (HA.out.pre.other hlt Hl.out q hq).symm, by rw [Hls.out]; exact ⟨vals, by rw [List.length_map]; exact K1.out, K2.out⟩⟩
      | false =>
        rw [hld] at cd
        have hl : ldB E k = true := by rw [ldB_inP, hld]; rfl
        rw [if_pos hl] at hls
        have Hls := Lib.hid hls
        have Hl := Lib.hid hl
        clear hl hls hld
        have hpa8 := (Hpa.out.set k true).below (below1 _ (Obj.cells #[.int .i64 (k : Int)] 3))
        have hz8 : ((wq.setCell ⟨w5.heap.size, k, none⟩ (.bool true)).alloc (Obj.cells #[.int .i64 (k : Int)] 3)).heap.size = wq.heap.size + 1 := by rw [World.size_alloc, size_setCell]
        have hg8 : wq.grownBy ((wq.setCell ⟨w5.heap.size, k, none⟩ (.bool true)).alloc (Obj.cells #[.int .i64 (k : Int)] 3)) (some w5.heap.size) := (grown_set wq w5.heap.size k _).trans (World.grownBy_alloc _ _ _)
        have ho8 : ((wq.setCell ⟨w5.heap.size, k, none⟩ (.bool true)).alloc (Obj.cells #[.int .i64 (k : Int)] 3)).ownsRow wq.heap.size 3 1 (.slice (some ⟨wq.heap.size, 0, none⟩) 1 1) [k].length (nvals [k]) := by
          have := World.ownsRow_lit (base := wq.heap.size) (e := 3) (size := 1) (wq.setCell ⟨w5.heap.size, k, none⟩ (.bool true)) #[.int .i64 (k : Int)] 1 (by rw [size_setCell]; exact Nat.le_refl _) (by decide) rfl
          rw [size_setCell] at this
          exact this
        have hcm := CmI.start HA.out hlt (I := inP E k) fun x _ => rfl
        have Hpa8 := Lib.hid hpa8; have Hg8 := Lib.hid hg8; have Ho8 := Lib.hid ho8; have Hcm := Lib.hid hcm
        clear hpa8 hg8 ho8 hcm
        go_upto_region 13 with fail
        clear cd fd ld hz8
        generalize (wq.setCell ⟨w5.heap.size, k, none⟩ (.bool true)).alloc (Obj.cells #[.int .i64 (k : Int)] 3) = w8 at *
        go_wp2
        go_loopg [9, 10] N (fun g s9 s10 wr => ∃ (i : Nat) (q : List Nat) (I : Nat → Bool), i ≤ q.length ∧ g = N - i ∧ s10 = .int .i64 i ∧ CmI N E X k I q i ∧ PaS w6 wr N w5.heap.size I ∧ wq.grownBy wr (some w5.heap.size) ∧ wr.ownsRow wq.heap.size 3 1 s9 q.length (nvals q))
        case atStart => exact ⟨0, [k], _, Nat.zero_le _, rfl, rfl, Hcm.out, Hpa8.out, Hg8.out, Ho8.out⟩
        case round =>
          obtain ⟨i, q, I, hi, rfl, rfl, hcm, hp3, hg3, ho3⟩ := hrel
          obtain ⟨a9, c9, rfl⟩ := ownsRow_form ho3
          have Hcm3 := Lib.hid hcm; have Hp3 := Lib.hid hp3; have Hg3 := Lib.hid hg3; have Ho3 := Lib.hid ho3
          have hql := hcm.len
          have hz3 := hg3.size
          clear hcm hp3 hg3 ho3
          by_cases hil : i < q.length
          · have hqi : q.getD i 0 ∈ q := by rw [List.getD, List.getElem?_eq_getElem hil]; exact List.getElem_mem _
            have hx := (Hcm3.out.mem _ hqi).1
            have hce : (nvals q)[i]? = some (.int .i64 ((q.getD i 0 : Nat) : Int)) := by simp [nvals, ints, List.getD, List.getElem?_eq_getElem hil]
            obtain ⟨g9, rfl⟩ : ∃ g, a9 = some ⟨g, 0, none⟩ := by
              rcases Ho3.out.2 with ⟨e, e0⟩ | ⟨g, cap', cur, e, -⟩
              · omega
              · simp only [Value.slice.injEq] at e; exact ⟨g, e.1⟩
            have cq := Ho3.out.cells (g := g9) rfl _ _ hce
            rw [Addr.add_lit, Nat.zero_add] at cq
            have hbw5 : Below w5.heap.size w5 wr := Hb6.out.grown Hp3.out.g Hb6.out.size (fun q e => by have := Option.some.inj e; omega)
            have hnb5 := Hnb.out.below hbw5
            have Hnb5 := Lib.hid hnb5
            obtain ⟨xx, hxx⟩ : ∃ x, q.getD i 0 = x := ⟨_, rfl⟩
            rw [hxx] at cq hx hqi
            obtain ⟨au, cu, eu⟩ := hnb5.form hx
            have Eu := Lib.hid eu
            have t1 := hnb5.ro.cell hx
            rw [eu] at t1
            have Hxx := Lib.hid hxx
            clear hqi hce hbw5 hnb5 hxx eu
            generalize hnQ : q.length = nQ at *
            have HnQ := Lib.hid hnQ
            clear hnQ
            have hnu := HA.out.len xx hx
            generalize hnX : (X xx).length = nu at *
            have HnX := Lib.hid hnX
            clear hnX
            obtain ⟨wz, rfl⟩ : ∃ wz : World, wz = wr := ⟨_, rfl⟩
            go_wp2
            clear cq t1
            go_loopg [9, 52] nu (fun g s9 s52 wi => ∃ (j : Nat) (I' : Nat → Bool) (q' : List Nat), j ≤ nu ∧ g = nu - j ∧ s52 = .int .i64 (j : Int) ∧ CmI N E X k I' q' i ∧ i < q'.length ∧ q'.getD i 0 = xx ∧ PaS w6 wi N w5.heap.size I' ∧ wq.grownBy wi (some w5.heap.size) ∧ wi.ownsRow wq.heap.size 3 1 s9 q'.length (nvals q') ∧ ∀ j', j' < j → I' ((X xx).getD j' 0) = true)
            case atStart => exact ⟨0, I, q, Nat.zero_le _, rfl, rfl, Hcm3.out, by rw [HnQ.out]; exact hil, Hxx.out, Hp3.out, Hg3.out, by rw [HnQ.out]; exact Ho3.out, fun j' h => absurd h (Nat.not_lt_zero _)⟩
            case round =>
              clear Hcm3 Hp3 Hg3 Ho3 HnQ Hxx
              obtain ⟨j, I', q', hj, rfl, rfl, hcm, hiq, hxx, hp4, hg4, ho4, hall⟩ := hrel
              obtain ⟨a9, c9', rfl⟩ := ownsRow_form ho4
              have Hcm4 := Lib.hid hcm; have Hp4 := Lib.hid hp4; have Hg4 := Lib.hid hg4; have Ho4 := Lib.hid ho4; have Hall := Lib.hid hall; have Hiq := Lib.hid hiq; have Hxx := Lib.hid hxx
              have hql4 := hcm.len
              have hz4 := hg4.size
              clear hcm hg4 ho4 hall hiq hxx
              by_cases hjl : j < nu
              · obtain ⟨gu, cu', eu, hcu⟩ := (Hnb.out.below (Hb6.out.grown hp4.g Hb6.out.size (fun q e => by have := Option.some.inj e; omega))).lookR hx (show j < (X xx).length by rw [HnX.out]; exact hjl)
                obtain ⟨rfl, rfl⟩ : au = some ⟨gu, 0, none⟩ ∧ cu = cu' := by
                  have := Eu.out.symm.trans eu
                  simp only [Value.slice.injEq] at this
                  exact ⟨this.1, this.2.2⟩
                have hmem : (X xx).getD j 0 ∈ X xx := by
                  have hj' : j < (X xx).length := by rw [HnX.out]; exact hjl
                  rw [List.getD, List.getElem?_eq_getElem hj']
                  exact List.getElem_mem hj'
                have hu := (HA.out.one xx _ hx hmem).1
                have Hmem := Lib.hid hmem
                generalize hij : (X xx).getD j 0 = u at *
                have Hij := Lib.hid hij
                have cw := hp4.done.cell hu
                simp only [rb] at cw
                have fw := hp4.done.frozen u
                have lw := hp4.done.lt
                clear hij hmem eu hp4
                generalize hn4 : q'.length = n4 at *
                have Hn4 := Lib.hid hn4
                clear hn4
                cases hI : I' u with
                | true =>
                  rw [hI] at cw
                  have HI := Lib.hid hI
                  clear hI
                  go_wp2
                  go_roundg (nu - (j + 1))
                  case measure => go_light; omega
                  case rel => exact ⟨j + 1, I', q', by omega, rfl, by go_num, Hcm4.out, by rw [Hn4.out]; exact Hiq.out, Hxx.out, Hp4.out, Hg4.out, by rw [Hn4.out]; exact Ho4.out, fun j' hj' => by
                    by_cases e : j' = j
                    · subst e; rw [Hij.out]; exact HI.out
                    · exact Hall.out j' (by omega)⟩
                | false =>
                  rw [hI] at cw
                  have HI := Lib.hid hI
                  clear hI
                  have hg5 := grown_set wr w5.heap.size u (.bool true)
                  have Ho5 := Lib.hid ((Ho4.out.kept hg5 (own_side Ho4.out (by omega))).alloc (Obj.cells #[.int .i64 (u : Int)] 3))
                  have Hp5 := Lib.hid ((Hp4.out.set u true).below (below1 _ (Obj.cells #[.int .i64 (u : Int)] 3)))
                  have Hg5 := Lib.hid (hg5.trans (World.grownBy_alloc (wr.setCell ⟨w5.heap.size, u, none⟩ (.bool true)) (Obj.cells #[.int .i64 (u : Int)] 3) (some w5.heap.size)))
                  have hone := HasCells.one (wr.setCell ⟨w5.heap.size, u, none⟩ (.bool true)) (.int .i64 (u : Int)) 3 rfl
                  rw [size_setCell] at hone
                  have Hone := Lib.hid hone
                  clear hg5 hone
                  go_wp2_with (at_builtin; (refine wpList_append_has rfl (.tmp 64) (.tmp 66) 29 rfl wq.heap.size 3 (.int .i64 0) 8 Tryd.underlying29 info3 rfl (.slice a9 n4 c9') n4 (nvals q') rfl Ho5.out _ 1 (nvals [u]) rfl Hone.out (by omega) (by omega) (by rw [World.size_alloc, size_setCell]; omega) ?_; intro a8 c8 w9 ho9 hg9; have P9 := Lib.hid (Hp5.out.grown hg9 (fun q e => Nat.le_trans hzq (Ho4.out.lt q e).1) hDz); have G9 := Lib.hid ((Hg4.out.trans Hg5.out).andThen hg9 (fun q e => Or.inl (Ho4.out.lt q e).1)); have Ho9 := Lib.hid ho9; clear ho9 hg9))
                  go_roundg (nu - (j + 1))
                  case measure => go_light; omega
                  case rel =>
                    refine ⟨j + 1, _, q' ++ [u], by omega, rfl, by go_num, Hcm4.out.add HA.out hlt (by rw [Hn4.out]; exact Hiq.out) (by rw [Hxx.out]; exact Hmem.out) HI.out, by rw [List.length_append]; have := Hiq.out; have := Hn4.out; simp only [List.length_cons, List.length_nil]; omega, ?_, P9.out, G9.out, ?_, fun j' hj' => ?_⟩
                    · have := Hxx.out
                      rw [← this]
                      simp [List.getD, List.getElem?_append_left (show i < q'.length by rw [Hn4.out]; exact Hiq.out)]
                    · have h9 := Ho9.out
                      simpa [nvals, ints, Hn4.out] using h9
                    · by_cases e : (X xx).getD j' 0 = u
                      · rw [if_pos e]
                      · rw [if_neg e]
                        by_cases e2 : j' = j
                        · subst e2; exact absurd Hij.out e
                        · exact Hall.out j' (by omega)
              · obtain rfl : nu = j := by omega
                clear hp4
                go_wp2
                go_roundg (N - (i + 1))
                case measure => go_light; omega
                case rel =>
                  refine ⟨i + 1, q', I', by have := Hiq.out; omega, rfl, by go_num, Hcm4.out.next fun u hu => ?_, Hp4.out, Hg4.out, Ho4.out⟩
                  rw [Hxx.out] at hu
                  obtain ⟨j', hj', rfl⟩ := List.mem_iff_getElem.1 hu
                  have e : (X xx)[j'] = (X xx).getD j' 0 := by simp [List.getD, hj']
                  rw [e]
                  exact Hall.out j' (by rw [← HnX.out]; exact hj')
          · obtain rfl : i = q.length := by omega
            obtain ⟨hcl, hin⟩ := Hcm3.out.fin HA.out hlt Hl.out rfl
            have hsort := sort_cls Hcm3.out.nodup (c := cls N E k) (List.pairwise_lt_range.filter _) hcl
            have Hsort := Lib.hid hsort; have Hin := Lib.hid hin
            have hlen : (cls N E k).length = q.length := by
              have h1 := congrArg List.length hsort
              rw [List.length_mergeSort, ints_length, ints_length] at h1
              exact h1.symm
            have Hlen := Lib.hid hlen
            have hos : wr.ownsRow wq.heap.size 3 1 (.slice a9 (cls N E k).length c9) (ints q).length ((ints q).map (Value.int .i64)) := by rw [ints_length, hlen]; exact Ho3.out
            have Hos := Lib.hid hos
            have hq1 : (ints q).length ≤ 100000 := by rw [ints_length]; omega
            have hncl : (cls N E k).length ≤ 100 := by omega
            clear hcl hin hsort hos
            rw [← hlen]
            clear hlen
            go_upto_region 24 with (go_at_call 38; refine (sortI_any Hos.out hq1).mono ?_; rintro e w9 ⟨rfl, ho9, hg9⟩; have Ho9 := Lib.hid ho9; have G9 := Lib.hid hg9; clear ho9 hg9)
            have P9 := Lib.hid (Hp3.out.grown G9.out (fun q e => Nat.le_trans hzq (Hos.out.lt q e).1) hDz)
            have hgq : wq.grownBy w9 (some w5.heap.size) := Hg3.out.andThen G9.out (fun q e => Or.inl (Hos.out.lt q e).1)
            have K1' := Lib.hid (K1.out.kept hgq (own_side K1.out hDz))
            have K2' := Lib.hid (show ∀ j, j < ((lds E k).map (cls N E)).length → ∃ r, vals[j]? = some r ∧ w9.ownsRow w6.heap.size 3 1 r (((lds E k).map (cls N E)).getD j []).length (nvals (((lds E k).map (cls N E)).getD j [])) from fun j hj => by
              obtain ⟨r, e, ho⟩ := K2.out j hj
              exact ⟨r, e, ho.kept hgq (own_side ho hDz)⟩)
            have Ho4 := Lib.hid (show w9.ownsRow w6.heap.size 3 1 (.slice a9 (cls N E k).length c9) (cls N E k).length (nvals (cls N E k)) from by
              have h9 := Ho9.out
              rw [Hsort.out, ints_length, ← Hlen.out] at h9
              exact ownsRow_low h9 hzq)
            have hz9 := hgq.size
            clear hgq K1 K2 Ho9 Hos hq1
            generalize hnl : (lds E k).length = nl at *
            have Hnl := Lib.hid hnl
            clear hnl
            go_wp2_with (at_builtin; refine wpList_append_at rfl (.tmp 71) (.tmp 73) 48 rfl w6.heap.size 29 (.slice none 0 0) 24 Tryd.underlying48 infoS rfl (.slice aO nl cO) nl vals rfl (K1'.out.alloc _) _ 1 [.slice a9 (cls N E k).length c9] rfl (HasCells.one _ _ _ rfl) (by omega) (by omega) (by omega) (by simp; omega) ?_; intro a8 c8 w10 ho8 hg8 hat8; have P8 := Lib.hid ((P9.out.below (below1 w9 (Obj.cells #[.slice a9 (cls N E k).length c9] 29))).grown hg8 (fun q e => (K1'.out.lt q e).1) hDz); have R8 := Lib.hid (PRow.more (m := (lds E k).map (cls N E)) (x := cls N E k) (by rw [List.length_map, Hnl.out]; exact K1'.out) K2'.out Ho4.out (by rw [List.length_map, Hnl.out]; exact ho8) hg8); clear ho8 hg8 hat8)
            go_roundg (N - (k + 1))
            case measure => go_light; omega
            case rel => exact ⟨k + 1, by omega, rfl, by go_num, P8.out.congr fun q hq => Hin.out q hq, by rw [Hls.out, List.map_append]; exact R8.out⟩
    · obtain rfl : k = N := by omega
      have hrf := S5.out.r.of_block (Hb6.out.block _ S5.out.r.lt)
      have hrw := hrf.of_block (hpa.g.block _ hrf.lt (fun e => by have := Option.some.inj e; omega))
      obtain ⟨z0, z1, f0, f1, l0⟩ := row_facts hrw
      have e := (hrw.set 0 (.int .i64 0)).set 1 (.int .i64 0)
      have e0 := e.cell (show 0 < 2 by omega)
      have e1 := e.cell (show 1 < 2 by omega)
      simp only [if_true, show ¬ (1 : Nat) = 0 by omega, show ¬ (0 : Nat) = 1 by omega, if_false] at e0 e1
      have hbw5 : Below w5.heap.size w5 wq := Hb6.out.grown hpa.g Hb6.out.size (fun q e => by have := Option.some.inj e; omega)
      have hbw : Below w.heap.size w wq := S5.out.hb.trans (hbw5.mono S5.out.hb.size)
      have hfin := (hbw.setCell (p := ⟨w.heap.size + 1, 0, none⟩) (by show w.heap.size ≤ w.heap.size + 1; omega) (.int .i64 0)).setCell (p := ⟨w.heap.size + 1, 1, none⟩) (by show w.heap.size ≤ w.heap.size + 1; omega) (.int .i64 0)
      have hcl : compsL k (adj l) = (lds E k).map (cls k E) := by
        show (lds (conB k (adj l)) k).map (cls k (conB k (adj l))) = _
        rw [HE0.out]
      have hlow : w.heap.size + 1 < w6.heap.size := by omega
      have hpr : PRow wq w6.heap.size (.slice aO (lds E k).length cO) (compsL k (adj l)) := by
        rw [hcl]
        exact ⟨vals, by rw [List.length_map]; exact K1.out, K2.out⟩
      have hpr2 := (hpr.kept (grown_set wq (w.heap.size + 1) 0 (.int .i64 0)) hlow).kept (grown_set _ (w.heap.size + 1) 1 (.int .i64 0)) hlow
      have Hfin := Lib.hid (show PRow ((wq.setCell ⟨w.heap.size + 1, 0, none⟩ (.int .i64 0)).setCell ⟨w.heap.size + 1, 1, none⟩ (.int .i64 0)) w.heap.size (.slice aO (lds E k).length cO) (compsL k (adj l)) from by
        obtain ⟨vs, h1, h2⟩ := hpr2
        exact ⟨vs, ownsRow_low h1 (by omega), fun j hj => by
          obtain ⟨r, e, ho⟩ := h2 j hj
          exact ⟨r, e, ownsRow_low ho (by omega)⟩⟩)
      have Hbw := Lib.hid hfin
      clear hpa hbw hbw5 hfin hrf hrw e hpr hpr2
      go_wp2
      exact bodyPost_ret (v := .tuple #[.slice aO (lds E k).length cO, .agg #[.int .i64 0, .int .i64 0]]) (by simp [results, Tryd.results25, go_sem, e0, e1]) rfl ⟨_, rfl, Hfin.out, Hbw.out⟩

end Go.Proofs.YtnhhohhhpaejmaaDoor
namespace Go.Proofs.YtnhhohhhpaejmaaDoor
open Go Go.RowKit Go.Maps

/-- A list of nodes that comes back. -/
def NodesPost (m : List Nat) (w : World) (e : Ending) (w' : World) : Prop :=
  ∃ v, e = .returned (.tuple #[v, .agg #[.int .i64 0, .int .i64 0]]) ∧ w'.ownsRow w.heap.size 3 1 v m.length (nvals m) ∧ Below w.heap.size w w'

/-- Behind k blocks. -/
structure CuSt (w5 wr : World) (N bC S : Nat) (f : Nat → Nat) : Prop where
  g : w5.grownBy wr (some bC)
  row : wr.rowIs bC 3 N (rn f)
  lt : bC < S
theorem CuSt.edges {w5 wr : World} {N bC S : Nat} {f : Nat → Nat} (h : CuSt w5 wr N bC S f) {r : Value} {b : List (Int × Int)} (ho : OwnE w5 S r b) : IsEdges wr r b := by
  have ho0 : w5.ownsRow S 39 2 r b.length (cells2 b) := ho
  have : OwnE wr S r b := ho0.kept h.g (by
    cases hr : r.ownBlock with
    | none => exact Or.inl rfl
    | some q => exact Or.inr (fun e => by cases e; have := (ho0.lt _ hr).1; have := h.lt; omega))
  exact this.edges
theorem CuSt.below {w5 wr w' : World} {N bC S : Nat} {f : Nat → Nat} (h : CuSt w5 wr N bC S f) (hb : Below wr.heap.size wr w') : CuSt w5 w' N bC S f :=
  ⟨h.g.trans ((grown_of_below hb).but _), h.row.of_block (hb.block _ h.row.lt), h.lt⟩
theorem CuSt.add {w5 wr : World} {N bC S : Nat} {f : Nat → Nat} (h : CuSt w5 wr N bC S f) (k x : Nat) : CuSt w5 (wr.setCell ⟨bC, k, none⟩ (.int .i64 (x : Int))) N bC S (fun q => if q = k then x else f q) :=
  ⟨h.g.trans (grown_set wr bC k _), row_set_rn h.row k x, h.lt⟩
/-- How many blocks and, while one is gone through, those of its nodes that were met. -/
def plusJ (f : Nat → Nat) (J : Nat → Bool) : Nat → Nat := fun q => f q + if J q then 1 else 0

/-- While a block's nodes are gone through. -/
structure CuRg (w5 wz : World) (N bC S bM R n : Nat) (f : Nat → Nat) (I : Nat → Bool) (D : DataW Unit) (left : Lit → Bool) (cnt : Nat) (J : Nat → Bool) : Prop where
  rg : wz.ranges Tryd.prog 3 (plainElem Tryd.prog 3) bM R n D left cnt
  left : LeftIs N I J left
  sub : ∀ q, J q = true → I q = true
  st : CuSt w5 wz N bC S (plusJ f J)
/-- The nodes of two blocks and more, below i. -/
abbrev cutsTo (L : List (List (Int × Int))) (i : Nat) : List Nat := (List.range i).filter fun q => decide (1 < bcnt L q)
theorem cutsTo_succ (L : List (List (Int × Int))) (i : Nat) : cutsTo L (i + 1) = cutsTo L i ++ if 1 < bcnt L i then [i] else [] := by
  unfold cutsTo
  rw [List.range_succ, List.filter_append]
  by_cases h : 1 < bcnt L i <;> simp [h]

set_option maxHeartbeats 6400000 in
set_option maxRecDepth 100000 in
theorem pcuts_ok {l : List (Int × Int)} {N : Nat} (hgood : GoodGraph N l) (s : Value) (w : World) (h : IsEdges w s l) :
    Calls Tryd.prog 31 #[.agg #[.int .i64 (N : Int), s]] w (NodesPost (cutsL N (blkD l N)) w) := by
  obtain ⟨ad, cap, rfl⟩ := h.form
  have hN : N ≤ 100 := by have := hgood.hi; omega
  have Hg := Lib.hid hgood
  have St := Lib.hid (PSt.start (n := (N : Int)) h)
  have hmk := run_make_row' (P := Tryd.prog) 29 3 (.int .i64 0) 8 Tryd.underlying29 info3 rfl .i64 .i64 N (by omega) (by omega)
  have hmm := @run_makeMap Tryd.prog
  clear hgood h
  go_enter Tryd.func31, Tryd.ntmps31
  go_upto_region 1 with fail
  generalize (w.alloc (Obj.cells #[.int .i64 (N : Int), .slice ad l.length cap] 24)).alloc (Obj.cells #[.int .i64 0, .int .i64 0] 27) = w1 at *
  have cn := St.out.cn
  have cs := St.out.cs
  have hl := St.out.r.lt
  go_upto_region 2 with (go_at_call 36; refine (gcheck_is Hg.out.spec _ _ St.out.he).mono ?_; rintro e w2 ⟨rfl, hb2⟩; have S2 := Lib.hid (St.out.below (hb2.trans ((below1 w2 (Obj.cells #[.int .i64 0, .int .i64 0] 27)).mono hb2.size))); have e01 := two_cells w2 (.int .i64 0) (.int .i64 0) 27; clear hb2)
  generalize w2.alloc (Obj.cells #[.int .i64 0, .int .i64 0] 27) = w3 at *
  obtain ⟨e0, e1⟩ := e01
  clear cn cs hl St
  have cn := S2.out.cn
  have cs := S2.out.cs
  go_upto_region 4 with fail
  clear e0 e1
  go_upto_region 5 with fail
  clear hmk
  have b4 := below1 w3 (zrow N)
  have cs4 := below_cell b4 cs
  have cn4 := below_cell b4 cn
  have hC4 := zrow_is w3 N
  have S4 := Lib.hid (S2.out.below b4)
  have hz4 : w3.heap.size < (w3.alloc (zrow N)).heap.size := by rw [World.size_alloc]; omega
  have hz3 : w.heap.size + 1 < w3.heap.size := S2.out.r.lt
  clear cn cs b4 S2
  generalize w3.alloc (zrow N) = w4 at *
  generalize w3.heap.size = bC at *
  have HC4 := Lib.hid hC4
  clear hC4
  go_upto_region 6 with (go_at_call 46; refine (blocks_any Hg.out _ _ S4.out.he).mono ?_; rintro e w5 ⟨v, L, rfl, h5, hb5, hr5⟩; obtain ⟨vals, k1, k2⟩ := h5; obtain ⟨aB, cB, rfl⟩ := ownsRow_form k1)
  have S5 := Lib.hid (S4.out.below hb5)
  have HC5 := Lib.hid (HC4.out.of_block (hb5.block _ hz4))
  have hLb : L.length ≤ 100 := by
    rw [hr5.length]
    have := (allD_ok (nbrs_ask (l := l) hN) N (Nat.le_refl _)).blk
    unfold blkD; omega
  have hends := hr5.ends hN
  have hcuts := hr5.cuts N
  have hsmall := hr5.small hN
  have hz5 := hb5.size
  have HV := Lib.hid k1; have HK := Lib.hid k2; have Hends := Lib.hid hends; have Hcuts := Lib.hid hcuts; have Hsmall := Lib.hid hsmall
  clear hsmall
  clear k1 k2 hr5 hb5 hends hcuts S4 HC4 cs4 cn4
  obtain ⟨n, hn⟩ : ∃ n, n = L.length := ⟨_, rfl⟩
  have Hn := Lib.hid hn
  rw [← hn] at hLb ⊢
  clear hn
  have hzC : bC < w5.heap.size := by omega
  generalize hS : w4.heap.size = S at *
  have HS := Lib.hid hS
  clear hS
  go_loopg [27] n (fun g s27 wr => ∃ k : Nat, k ≤ n ∧ g = n - k ∧ s27 = .int .i64 k ∧ CuSt w5 wr N bC S (bcnt (L.take k)))
  case atStart => exact ⟨0, Nat.zero_le _, rfl, rfl, ⟨World.grownBy.refl _ _, HC5.out.congr fun q _ => rfl, hz4⟩⟩
  case round =>
    obtain ⟨k, hk, rfl, rfl, h⟩ := hrel
    obtain ⟨wq, rfl⟩ : ∃ wq : World, wq = wr := ⟨_, rfl⟩
    have H1 := Lib.hid h
    have hzr := h.g.size
    by_cases hlt : k < n
    · obtain ⟨r, er, hor, -⟩ := HK.out k (by rw [← Hn.out]; exact hlt)
      have hv0 := HV.out
      obtain ⟨gB, eB⟩ : ∃ gB, aB = some ⟨gB, 0, none⟩ := by
        rcases hv0.2 with ⟨e, e0⟩ | ⟨g, cap', cur, e, -⟩
        · rw [← Hn.out] at e0; omega
        · simp only [Value.slice.injEq] at e; exact ⟨g, e.1⟩
      subst eB
      have cr := hv0.cells (g := gB) rfl _ _ er
      rw [Addr.add_lit, Nat.zero_add] at cr
      have lB := hv0.lt gB rfl
      have cr2 : wq.cell? ⟨gB, k, none⟩ = some r := by
        rw [← cr]; exact World.cell?_of_block (a := ⟨gB, k, none⟩) (h.g.block gB lB.2 (fun e => by cases e; omega))
      have hmem : L.getD k [] ∈ L := by rw [List.getD, List.getElem?_eq_getElem (by rw [← Hn.out]; exact hlt)]; exact List.getElem_mem _
      have hend := Hends.out _ hmem
      have hbl := Hsmall.out _ hmem
      have hed := h.edges hor
      have hsn := fun q => bcnt_snoc (L := L) (k := k) (by rw [← Hn.out]; exact hlt) q
      generalize L.getD k [] = b at *
      obtain ⟨ra, rcap, rb, ro, eb, hbcap, hbmax, hbadr, hbnone, hbcell⟩ := hed
      subst eb
      have Hsn := Lib.hid hsn; have Hend := Lib.hid hend; have Hbcell := Lib.hid hbcell; have Hbadr := Lib.hid hbadr
      clear h cr hv0 hor hmem hsn hend hbcell hbadr er
      have hM0 := IMap.made wq N
      have hb6 := below1 wq (.map #[] 0)
      have hMz : wq.heap.size < (wq.alloc (.map #[] 0)).heap.size := by rw [World.size_alloc]; omega
      have HM0 := Lib.hid hM0; have Hb6 := Lib.hid hb6
      clear hM0 hb6
      go_wp2
      clear cr2
      generalize wq.alloc (.map #[] 0) = w6 at *
      generalize hbM : wq.heap.size = bM at *
      have HbM := Lib.hid hbM
      clear hbM
      go_loopg [34] b.length (fun g s34 wr => ∃ j n' : Nat, j ≤ b.length ∧ g = b.length - j ∧ s34 = .int .i64 j ∧ n' ≤ 2 * j ∧ IMap wr bM n' N (inB (b.take j)) ∧ Below bM wq wr ∧ bM < wr.heap.size)
      case atStart => exact ⟨0, 0, Nat.zero_le _, rfl, rfl, by omega, HM0.out.congr fun v _ => rfl, Hb6.out, hMz⟩
      case round =>
        obtain ⟨j, n', hj, rfl, rfl, hn', hm, hb, hbz⟩ := hrel
        by_cases hjl : j < b.length
        · obtain rfl := Hbadr.out (by omega)
          obtain ⟨X, Y, hXY, hX, hY⟩ : ∃ X Y : Nat, b.getD j (0, 0) = ((X : Int), (Y : Int)) ∧ X < N ∧ Y < N := by
            have hme : b.getD j (0, 0) ∈ b := by rw [List.getD, List.getElem?_eq_getElem hjl]; exact List.getElem_mem _
            have := Hend.out _ hme
            unfold InN at this
            exact ⟨(b.getD j (0, 0)).1.toNat, (b.getD j (0, 0)).2.toNat, Prod.ext (by show (b.getD j (0, 0)).1 = ((b.getD j (0, 0)).1.toNat : Int); omega) (by show (b.getD j (0, 0)).2 = ((b.getD j (0, 0)).2.toNat : Int); omega), by omega, by omega⟩
          have hc := Hbcell.out j hjl
          have hsn := fun q => inB_snoc (b := b) (k := j) hjl q
          rw [hXY] at hc
          simp only [hXY] at hsn hc
          have hlb : rb < bM := by have := World.block_lt_of_cell? _ _ hc.1; rw [HbM.out] at this; exact this
          have cx : wr.cell? ⟨rb, ro + j * 2, none⟩ = some (.int .i64 (X : Int)) := by rw [← hc.1]; exact hb.cell (p := ⟨rb, ro + j * 2, none⟩) hlb
          have cy : wr.cell? ⟨rb, ro + j * 2 + 1, none⟩ = some (.int .i64 (Y : Int)) := by rw [← hc.2]; exact hb.cell (p := ⟨rb, ro + j * 2 + 1, none⟩) hlb
          have Hsn2 := Lib.hid hsn
          have hbE := below1 wr (Obj.cells #[.int .i64 (X : Int), .int .i64 (Y : Int)] 39)
          have cE := two_cells wr (.int .i64 (X : Int)) (.int .i64 (Y : Int)) 39
          have hmE := (hm.below hbE).below (Below.refl _ (wr.alloc (Obj.cells #[.int .i64 (X : Int), .int .i64 (Y : Int)] 39))).drew
          have hbE2 := Lib.hid ((hb.trans (hbE.mono (by omega))).drew)
          have hEz : wr.heap.size < (wr.alloc (Obj.cells #[.int .i64 (X : Int), .int .i64 (Y : Int)] 39)).heap.size := by rw [World.size_alloc]; omega
          clear hc hXY hsn hm hb hbE
          go_upto_region 12 with fail
          clear cx cy
          generalize wr.alloc (Obj.cells #[.int .i64 (X : Int), .int .i64 (Y : Int)] 39) = wE at *
          generalize wr.heap.size = E at *
          have cE' : wE.drew.cell? ⟨E, 0, none⟩ = some (.int .i64 (X : Int)) ∧ wE.drew.cell? ⟨E, 1, none⟩ = some (.int .i64 (Y : Int)) := cE
          obtain ⟨wA1, e1, mA1, gA1⟩ := hmE.put hX (by omega) (by omega)
          obtain ⟨wA2, e2, mA2, gA2⟩ := mA1.put hY (by omega) (by omega)
          obtain ⟨wB1, e3, mB1, gB1⟩ := hmE.put hY (by omega) (by omega)
          obtain ⟨wB2, e4, mB2, gB2⟩ := mB1.put hX (by omega) (by omega)
          have hne : (some E : Option Nat) ≠ some bM := fun e => by cases e; omega
          have tr : ∀ {wa wb : World}, wa.grownBy wb (some bM) → E < wa.heap.size → wa.cell? ⟨E, 0, none⟩ = some (.int .i64 (X : Int)) ∧ wa.cell? ⟨E, 1, none⟩ = some (.int .i64 (Y : Int)) → wb.cell? ⟨E, 0, none⟩ = some (.int .i64 (X : Int)) ∧ wb.cell? ⟨E, 1, none⟩ = some (.int .i64 (Y : Int)) := fun g hz c =>
            ⟨(World.cell?_of_block (a := ⟨E, 0, none⟩) (g.block E hz hne)).trans c.1, (World.cell?_of_block (a := ⟨E, 1, none⟩) (g.block E hz hne)).trans c.2⟩
          have cA1 := tr gA1 hEz cE'
          have cB1 := tr gB1 hEz cE'
          have cA2 := tr gA2 (Nat.lt_of_lt_of_le hEz gA1.size) cA1
          have cB2 := tr gB2 (Nat.lt_of_lt_of_le hEz gB1.size) cB1
          have RA := Lib.hid (show IMap wA2 bM (n' + 1 + 1) N (inB (b.take (j + 1))) ∧ Below bM wq wA2 ∧ bM < wA2.heap.size from ⟨mA2.congr fun v _ => by rw [Hsn2.out v]; simp only [Int.ofNat_inj, Bool.or_assoc], (hbE2.out.grown gA1 (by show bM ≤ wE.heap.size; omega) (fun g e => by cases e; exact Nat.le_refl _)).grown gA2 (by have := gA1.size; show bM ≤ wA1.heap.size; have h2 : wE.drew.heap.size = wE.heap.size := rfl; omega) (fun g e => by cases e; exact Nat.le_refl _), by have := mA2.lt; omega⟩)
          have RB := Lib.hid (show IMap wB2 bM (n' + 1 + 1) N (inB (b.take (j + 1))) ∧ Below bM wq wB2 ∧ bM < wB2.heap.size from ⟨mB2.congr fun v _ => by rw [Hsn2.out v]; simp only [Int.ofNat_inj, Bool.or_assoc]; congr 1; exact Bool.or_comm _ _, (hbE2.out.grown gB1 (by show bM ≤ wE.heap.size; omega) (fun g e => by cases e; exact Nat.le_refl _)).grown gB2 (by have := gB1.size; show bM ≤ wB1.heap.size; have h2 : wE.drew.heap.size = wE.heap.size := rfl; omega) (fun g e => by cases e; exact Nat.le_refl _), by have := mB2.lt; omega⟩)
          clear mA1 mA2 mB1 mB2 gA1 gA2 gB1 gB2 hmE tr cE
          go_region_held3 (fun w' => w'.cell? ⟨E, 0, none⟩ = some (.int .i64 (X : Int)) ∧ w'.cell? ⟨E, 1, none⟩ = some (.int .i64 (Y : Int))) (first | exact cE' | exact cA1 | exact cA2 | exact cB1 | exact cB2) (fail)
          all_goals go_wp2
          all_goals go_roundg (b.length - (j + 1))
          case measure => go_light; omega
          case rel => exact ⟨j + 1, n' + 1 + 1, by omega, rfl, by go_num, by omega, RA.out⟩
        · obtain rfl : j = b.length := by omega
          rw [List.take_length] at hm
          obtain ⟨D, hD, hDs⟩ := hm
          obtain ⟨wp, rfl⟩ : ∃ wp : World, wp = wr := ⟨_, rfl⟩
          have hfb : ∀ q, bcnt (L.take k) q ≤ 100 := fun q => by have := bcnt_le (L.take k) q; rw [List.length_take] at this; omega
          have hL0 : LeftIs N (inB b) (fun _ => false) (Maps.has D) := fun l => by rw [hDs l]; exact ⟨fun ⟨v, a, b, c⟩ => ⟨v, a, b, rfl, c⟩, fun ⟨v, a, b, _, c⟩ => ⟨v, a, b, c⟩⟩
          have hbp : Below wq.heap.size wq wp := by rw [HbM.out]; exact hb
          have hst := H1.out.below hbp
          have HL0 := Lib.hid hL0; have Hst := Lib.hid hst; have Hfb := Lib.hid hfb
          have hzC2 : bC < bM := by omega
          have hz5b : w5.heap.size ≤ bM := by omega
          clear hDs hb hL0 hst hbp hfb
          go_wp2_with (at_range; refine wpList_range_own _ rfl _ 76 rfl 3 3 intKeyedB Tryd.underlying76 _ bM n' D rfl hD ?_; intro w0 hrg0 hg0 hs0)
          go_frame
          go_loopw [47] (fun _ wr => ∃ (left : Lit → Bool) (cnt : Nat) (J : Nat → Bool), CuRg w5 wr N bC S bM wp.heap.size n' (bcnt (L.take k)) (inB b) D left cnt J) (fun _ wr => wr.rangeLeft bM wp.heap.size)
          case atStart => exact ⟨_, _, _, hrg0, HL0.out, fun q h => (by cases h), (by have h1 := Hst.out.below (below_grown0 hg0); exact ⟨h1.g, h1.row.congr fun q _ => rfl, h1.lt⟩)⟩
          case round =>
            obtain ⟨left, cnt, J, hst⟩ := hrel
            have Hs1 := Lib.hid hst
            have hrg := hst.rg
            clear hst
            go_wp2_with (first
              | (at_next; refine wpList_next_ranges_ii _ rfl _ rfl 3 3 .i64 .i64 intKeyedB Tryd.underlying3 Tryd.underlying3 bM wp.heap.size n' D _ _ rfl hrg ?_ ?_)
              | go_in)
            · intro hc0 hl0
              have hall := fun q (hq : q < N) (hi : inB b q = true) => Hs1.out.left.done hl0 hq hi
              have HS1 := Lib.hid (show CuSt w5 wr N bC S (bcnt (L.take (k + 1))) from ⟨Hs1.out.st.g, row_rn Hs1.out.st.row fun q hq => by
                rw [Hsn.out q]
                unfold plusJ
                have h1 := Hs1.out.sub q
                have h2 := hall q hq
                cases hJ : J q <;> cases hI : inB b q <;> simp_all, Hs1.out.st.lt⟩)
              clear hall hl0 hc0 hrg
              go_wp2
              go_roundg (n - (k + 1))
              case measure => go_light; omega
              case rel => exact ⟨k + 1, by omega, rfl, by go_num, HS1.out⟩
            · intro x c w1 cnt1 hwx hwc hlk hat hrg1 hlt1 hg1 hs1 hen
              obtain ⟨v, hv, hI, hJ, ex⟩ := (Hs1.out.left _).1 hlk
              simp only [Lit.int.injEq, true_and] at ex
              subst ex
              have hnext := Hs1.out.left.next (v := v) (by omega)
              have st1 : CuSt w5 w1 N bC S (plusJ (bcnt (L.take k)) J) := ⟨Hs1.out.st.g.andThen hg1 (fun j e => Or.inl (by have := Option.some.inj e; omega)), Hs1.out.st.row.of_block (hg1.block bC (by have := Hs1.out.st.row.lt; exact this) (fun e => by have := Option.some.inj e; omega)), Hs1.out.st.lt⟩
              have cv := st1.row.cell hv
              have fv := st1.row.frozen v
              have lv := st1.row.lt
              have hfv := Hfb.out v
              simp only [rn, plusJ, hJ, Bool.false_eq_true, if_false, Nat.add_zero] at cv
              generalize hfq : bcnt (L.take k) v = fq at *
              have hfin : CuRg w5 (w1.setCell ⟨bC, v, none⟩ (.int .i64 ((fq + 1 : Nat) : Int))) N bC S bM wp.heap.size n' (bcnt (L.take k)) (inB b) D (fun z => left z && !z.sameKey (.int .i64 (v : Int))) cnt1 (fun u => J u || decide (v = u)) := by
                have h2 := st1.add v (fq + 1)
                refine ⟨hrg1.kept (grown_set w1 bC v _) (fun e => by have := Option.some.inj e; omega) (fun e => by have := Option.some.inj e; omega), hnext, fun q hq => ?_, ⟨h2.g, row_rn h2.row fun q _ => ?_, h2.lt⟩⟩
                · simp only [Bool.or_eq_true, decide_eq_true_eq] at hq
                  rcases hq with hq | rfl
                  · exact Hs1.out.sub q hq
                  · exact hI
                · by_cases e : q = v
                  · subst e; simp [plusJ, hfq]
                  · simp [plusJ, e, Ne.symm e]
              have Hfin := Lib.hid hfin; have Hlt1 := Lib.hid hlt1
              clear hfin hnext st1 hrg1 hlt1 hg1 hlk hat hwx hwc hrg hI hJ
              go_wp2
              go_roundw
              case rel => exact ⟨_, _, _, Hfin.out⟩
              case measure =>
                show (w1.setCell ⟨bC, v, none⟩ (.int .i64 ((fq + 1 : Nat) : Int))).rangeLeft bM wp.heap.size < _
                rw [Hfin.out.rg.left_eq, Hs1.out.rg.left_eq]; exact Hlt1.out
    · obtain rfl : k = n := by omega
      obtain ⟨wo, rfl⟩ : ∃ wo : World, wo = wq := ⟨_, rfl⟩
      have hrow : wo.rowIs bC 3 N (rn (bcnt L)) := row_rn h.row fun q _ => by rw [Hn.out, List.take_length]
      have hbc := fun q => bcnt_le L q
      have Hrow := Lib.hid hrow; have Hbc := Lib.hid hbc; have Hg5 := Lib.hid h.g
      have hCo := hrow.lt
      clear h hrow hbc
      go_wp2
      go_loopg [12, 60] N (fun g s12 s60 wr => ∃ i : Nat, i ≤ N ∧ g = N - i ∧ s60 = .int .i64 i ∧ wr.ownsRow wo.heap.size 3 1 s12 (cutsTo L i).length (nvals (cutsTo L i)) ∧ Below wo.heap.size wo wr)
      case atStart => exact ⟨0, Nat.zero_le _, rfl, rfl, World.ownsRow_nil _ _ _ _, Below.refl _ _⟩
      case round =>
        obtain ⟨i, hi, rfl, rfl, ho, hb⟩ := hrel
        obtain ⟨a2, c2, rfl⟩ := ownsRow_form ho
        have hz := hb.size
        by_cases hlt : i < N
        · have ci := (Hrow.out.of_block (hb.block _ hCo)).cell hlt
          simp only [rn] at ci
          have hsu := cutsTo_succ L i
          have hcl : (cutsTo L i).length ≤ 100 := by have := List.length_filter_le (fun q => decide (1 < bcnt L q)) (List.range i); rw [List.length_range] at this; exact Nat.le_trans this (by omega)
          have hbi := Hbc.out i
          generalize bcnt L i = bi at *
          have Ho := Lib.hid ho; have Hb := Lib.hid hb; have Hsu := Lib.hid hsu
          clear ho hb hsu
          by_cases h1 : 1 < bi
          · have hI : (1 : Int) < (bi : Int) := by omega
            have Hsu2 := Lib.hid (show cutsTo L (i + 1) = cutsTo L i ++ [i] by rw [Hsu.out, if_pos h1])
            generalize hcc : cutsTo L i = cc at *
            have Hcc := Lib.hid hcc
            clear h1 hcc
            go_wp2_with (at_builtin; refine wpList_append_has rfl (.tmp 67) (.tmp 69) 29 rfl wo.heap.size 3 (.int .i64 0) 8 Tryd.underlying29 info3 rfl (.slice a2 cc.length c2) cc.length (nvals cc) rfl (Ho.out.alloc _) _ 1 (nvals [i]) rfl (HasCells.one _ _ _ rfl) (by omega) (by omega) (by simp; omega) ?_; intro a5 c5 w5' ho5 hg5; have Ho5 := Lib.hid ho5; have Hb5 := Lib.hid ((Hb.out.alloc hz (Obj.cells #[.int .i64 (i : Int)] 3)).grown hg5 (by simp; omega) (fun g e => (Ho.out.lt g e).1)); clear ho5 hg5)
            go_roundg (N - (i + 1))
            case measure => go_light; omega
            case rel => exact ⟨i + 1, by omega, rfl, by go_num, by rw [Hsu2.out]; have h5 := Ho5.out; simpa [nvals, ints] using h5, Hb5.out⟩
          · have hI : ¬ (1 : Int) < (bi : Int) := by omega
            have Hsu2 := Lib.hid (show cutsTo L (i + 1) = cutsTo L i by rw [Hsu.out, if_neg h1, List.append_nil])
            clear h1
            go_wp2
            go_roundg (N - (i + 1))
            case measure => go_light; omega
            case rel => exact ⟨i + 1, by omega, rfl, by go_num, by rw [Hsu2.out]; exact Ho.out, Hb.out⟩
        · obtain rfl : N = i := by omega
          have hrf : wo.rowIs (w.heap.size + 1) 27 2 (fun i => if i = 0 then .int .i64 0 else .int .i64 0) := S5.out.r.of_block (Hg5.out.block _ S5.out.r.lt (fun e => by have := Option.some.inj e; omega))
          have hrw := hrf.of_block (hb.block _ hrf.lt)
          obtain ⟨z0, z1, f0, f1, l0⟩ := row_facts hrw
          have e := (hrw.set 0 (.int .i64 0)).set 1 (.int .i64 0)
          have e0 := e.cell (show 0 < 2 by omega)
          have e1 := e.cell (show 1 < 2 by omega)
          simp only [if_true, show ¬ (1 : Nat) = 0 by omega, show ¬ (0 : Nat) = 1 by omega, if_false] at e0 e1
          have hbw : Below w.heap.size w wr := (S5.out.hb.grown Hg5.out S5.out.hb.size (fun g e => by have := Option.some.inj e; omega)).trans (hb.mono (by have := Hg5.out.size; have := S5.out.hb.size; omega))
          have hfin := (hbw.setCell (p := ⟨w.heap.size + 1, 0, none⟩) (by show w.heap.size ≤ w.heap.size + 1; omega) (.int .i64 0)).setCell (p := ⟨w.heap.size + 1, 1, none⟩) (by show w.heap.size ≤ w.heap.size + 1; omega) (.int .i64 0)
          have hlo : w.heap.size + 1 < wo.heap.size := hrf.lt
          have hside : ∀ g, (Value.slice a2 (cutsTo L N).length c2).ownBlock = some g → some g ≠ some (w.heap.size + 1) := fun g e e2 => by have := (ho.lt g e).1; have := Option.some.inj e2; omega
          have hsd : (Value.slice a2 (cutsTo L N).length c2).ownBlock = none ∨ (Value.slice a2 (cutsTo L N).length c2).ownBlock ≠ some (w.heap.size + 1) := by
            cases hq : (Value.slice a2 (cutsTo L N).length c2).ownBlock with
            | none => exact Or.inl rfl
            | some g => exact Or.inr (hside g hq)
          have how := ownsRow_low ((ho.kept (grown_set wr (w.heap.size + 1) 0 (.int .i64 0)) hsd).kept (grown_set _ (w.heap.size + 1) 1 (.int .i64 0)) hsd) (show w.heap.size ≤ wo.heap.size by omega)
          have Hcl := Lib.hid (show cutsL N (blkD l N) = cutsTo L N from Hcuts.out.symm)
          have Hho := Lib.hid how; have Hfin := Lib.hid hfin
          clear ho hb hrf hrw e hbw hfin how hside hsd
          go_wp2
          exact bodyPost_ret (v := .tuple #[.slice a2 (cutsTo L N).length c2, .agg #[.int .i64 0, .int .i64 0]]) (by simp [results, Tryd.results31, go_sem, e0, e1]) rfl ⟨_, rfl, by rw [Hcl.out]; exact Hho.out, Hfin.out⟩

end Go.Proofs.YtnhhohhhpaejmaaDoor
namespace Go.Proofs.YtnhhohhhpaejmaaDoor
open Go.RowKit

set_option maxHeartbeats 3200000 in
set_option maxRecDepth 100000 in
theorem pcomps_bad {l : List (Int × Int)} {n c a : Int} (hs : GraphSpec n l c a) (hc : c ≠ 0) (s : Value) (w : World) (h : IsEdges w s l) :
    Calls Tryd.prog 25 #[.agg #[.int .i64 n, s]] w fun e w' => e = .returned (.tuple #[.slice none 0 0, .agg #[.int .i64 c, .int .i64 a]]) ∧ Below w.heap.size w w' := by
  obtain ⟨ad, cap, rfl⟩ := h.form
  have Hs := Lib.hid hs
  have q : (c != 0) = true := by simpa using hc
  have St := Lib.hid (PSt.start (n := n) h)
  clear hs h hc
  go_enter Tryd.func25, Tryd.ntmps25
  go_upto_region 1 with fail
  generalize (w.alloc (Obj.cells #[.int .i64 n, .slice ad l.length cap] 24)).alloc (Obj.cells #[.int .i64 0, .int .i64 0] 27) = w1 at *
  have cn := St.out.cn
  have cs := St.out.cs
  have hl := St.out.r.lt
  go_upto_region 2 with (go_at_call 36; refine (gcheck_is Hs.out _ _ St.out.he).mono ?_; rintro e w2 ⟨rfl, hb2⟩; have hz2 := hb2.size; have S2 := Lib.hid (St.out.below (hb2.trans ((below1 w2 (Obj.cells #[.int .i64 c, .int .i64 a] 27)).mono hb2.size))); have e01 := two_cells w2 (.int .i64 c) (.int .i64 a) 27; clear hb2)
  generalize w2.alloc (Obj.cells #[.int .i64 c, .int .i64 a] 27) = w3 at *
  obtain ⟨e0, e1⟩ := e01
  clear cn cs St
  obtain ⟨z0, z1, f0, f1, l0⟩ := row_facts S2.out.r
  have n1 : w.heap.size + 1 ≠ w2.heap.size := by omega
  generalize w2.heap.size = E at *
  go_upto_region 3 with fail
  go_region_held3 (fun w' => w'.cell? ⟨E, 0, none⟩ = some (.int .i64 c) ∧ w'.cell? ⟨E, 1, none⟩ = some (.int .i64 a)) (go_keep) (fail)
  all_goals
    go_wp2
    have d0 := (S2.out.r.set 0 (.int .i64 c)).cell (show 0 < 2 by omega)
    simp only [if_true] at d0
    have e := (S2.out.r.set 0 (.int .i64 c)).set 1 (.int .i64 a)
    have e0 := e.cell (show 0 < 2 by omega)
    have e1 := e.cell (show 1 < 2 by omega)
    simp only [if_true, show ¬ (1 : Nat) = 0 by omega, show ¬ (0 : Nat) = 1 by omega, if_false] at e0 e1
    have hfin := ((S2.out.hb).setCell (p := ⟨w.heap.size + 1, 0, none⟩) (by show w.heap.size ≤ w.heap.size + 1; omega) (.int .i64 c)).setCell (p := ⟨w.heap.size + 1, 1, none⟩) (by show w.heap.size ≤ w.heap.size + 1; omega) (.int .i64 a)
    exact bodyPost_ret (v := .tuple #[.slice none 0 0, .agg #[.int .i64 c, .int .i64 a]]) (by simp [results, Tryd.results25, go_sem, d0, e0, e1]) rfl ⟨rfl, hfin.drew⟩

end Go.Proofs.YtnhhohhhpaejmaaDoor
