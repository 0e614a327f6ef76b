/- parts.Components: the parts of a graph, each rising, in order by their least nodes. -/
import Derived.Test.YtmhcnekbfngafaaPartP
import Derived.Test.YtmhcnekbfngafaaRCompW
import Derived.Test.YtmhcnekbfngafaaPA
import Derived.Test.YtmhcnekbfngafaaBlkR
namespace Go.Proofs.Ytmhcnekbfngafaa
open Go.RowKit Go.Maps

theorem nbrs_cm {l : List (Int × Int)} {N : Nat} (hg : GoodGraph N l) : CmA N (conB N (adj l)) (nbrs l N) where
  pre := con_pre
  len v _ := by rw [nbrs_length]; exact cntN_le _ _
  one v u hv hu := by
    have h := ((good_gr hg).nbs.mem v hv u).1 hu
    exact ⟨h.2.1, by rw [con_eqv (good_gr hg).sym hv]; exact rchB_iff.2 (.step .refl hv h.2.1 h.2.2 rfl)⟩
  way P v hv hP hall u hu he := by
    rw [con_eqv (good_gr hg).sym hv] at he
    have h := rchB_iff.1 he
    clear he
    induction h with
    | refl => exact hP
    | step _ h1 h2 h3 _ ih => exact hall _ h1 (ih h1) _ (((good_gr hg).nbs.mem _ h1 _).2 ⟨h1, h2, h3⟩)

/-- What parts.Components answers. -/
def CompsPost (l : List (Int × Int)) (N : Nat) (w : World) (e : Ending) (w' : World) : Prop :=
  ∃ v, e = .returned (.tuple #[v, .agg #[.int .i64 0, .int .i64 0]]) ∧ PRow w' w.heap.size v (compsL N (adj l)) ∧ Below w.heap.size w w'

set_option maxHeartbeats 6400000 in
set_option maxRecDepth 100000 in
theorem pcomps_ok {l : List (Int × Int)} {N : Nat} (hgood : GoodGraph N l) (s : Value) (w : World) (h : IsEdges w s l) :
    Calls Try.prog 31 #[.agg #[.int .i64 (N : Int), s]] w (CompsPost l N w) := by
  obtain ⟨ad, cap, rfl⟩ := h.form
  have hN : N ≤ 100 := by have := hgood.hi; omega
  have Hg := Lib.hid hgood
  have HA := Lib.hid (nbrs_cm hgood)
  have St := Lib.hid (PSt.start (n := (N : Int)) h)
  have hmk := run_make_row' (P := Try.prog) 60 4 (.bool false) 1 Try.underlying60 info4 rfl .i64 .i64 N (by omega) (by omega)
  clear hgood h
  go_enter Try.func31, Try.ntmps31
  go_upto_region 1 with fail
  generalize (w.alloc (Obj.cells #[.int .i64 (N : Int), .slice ad l.length cap] 24)).alloc (Obj.cells #[.int .i64 0, .int .i64 0] 27) = w1 at *
  have cn := St.out.cn
  have cs := St.out.cs
  have hl := St.out.r.lt
  go_upto_region 2 with (go_at_call 47; refine (gcheck_is Hg.out.spec _ _ St.out.he).mono ?_; rintro e w2 ⟨rfl, hb2⟩; have S2 := Lib.hid (St.out.below (hb2.trans ((below1 w2 (Obj.cells #[.int .i64 0, .int .i64 0] 27)).mono hb2.size))); have e01 := two_cells w2 (.int .i64 0) (.int .i64 0) 27; clear hb2)
  generalize w2.alloc (Obj.cells #[.int .i64 0, .int .i64 0] 27) = w3 at *
  obtain ⟨e0, e1⟩ := e01
  clear cn cs hl St
  have cn := S2.out.cn
  have cs := S2.out.cs
  go_upto_region 5 with (go_at_call 62; refine (glists_any Hg.out _ _ S2.out.he).mono ?_; rintro e w5 ⟨B, V, rfl, hnb, hBlo, hb5⟩)
  have S5 := Lib.hid (S2.out.below hb5)
  have Hnb := Lib.hid hnb
  clear e0 e1 cn cs S2 hnb hb5
  have cn := S5.out.cn
  have hr6 := (World.rowIs_made w5 (.bool false) N 4).congr (g := rb fun _ => false) fun _ _ => rfl
  have hb6 := below1 w5 (.cells (madeCells #[.bool false] N) 4)
  have hz6 : (w5.alloc (.cells (madeCells #[.bool false] N) 4)).heap.size = w5.heap.size + 1 := World.size_alloc _ _
  have Hr6 := Lib.hid hr6
  have Hb6 := Lib.hid hb6
  have cn6 := below_cell hb6 cn
  have hS1 : w.heap.size + 1 < w5.heap.size := S5.out.r.lt
  clear hr6 hb6
  go_upto_region 7 with fail
  clear hmk cn
  generalize w5.alloc (.cells (madeCells #[.bool false] N) 4) = w6 at *
  generalize hE0 : conB N (adj l) = E at *
  have HE0 := Lib.hid hE0
  clear hE0
  generalize hX0 : nbrs l N = X at *
  clear hX0
  have hDz : w5.heap.size < w6.heap.size := by omega
  go_wp2
  clear cn6
  go_loopg [7, 26] N (fun g s7 s26 wr => ∃ k : Nat, k ≤ N ∧ g = N - k ∧ s26 = .int .i64 k ∧ PaS w6 wr N w5.heap.size (inP E k) ∧ PRow wr w6.heap.size s7 ((lds E k).map (cls N E)))
  case atStart => exact ⟨0, Nat.zero_le _, rfl, rfl, ⟨World.grownBy.refl _ _, row_rb Hr6.out fun q _ => by simp [inP]⟩, PRow.nil _ _⟩
  case round =>
    obtain ⟨k, hk, rfl, rfl, hpa, hpr⟩ := hrel
    obtain ⟨wq, rfl⟩ : ∃ wq : World, wq = wr := ⟨_, rfl⟩
    have Hpa := Lib.hid hpa
    obtain ⟨vals, k1, k2⟩ := hpr
    obtain ⟨aO, cO, rfl⟩ := ownsRow_form k1
    rw [List.length_map] at k1
    rw [List.length_map]
    have hll := lds_len E k
    have K1 := Lib.hid k1; have K2 := Lib.hid k2
    have hzq := hpa.g.size
    clear k1 k2
    by_cases hlt : k < N
    · have cd := hpa.done.cell hlt
      have fd := hpa.done.frozen k
      have ld := hpa.done.lt
      simp only [rb] at cd
      have hls := lds_succ E k
      clear hpa
      cases hld : inP E k k with
      | true =>
        rw [hld] at cd
        have hl : ldB E k = false := by rw [ldB_inP, hld]; rfl
        rw [if_neg (by rw [hl]; simp), List.append_nil] at hls
        have Hls := Lib.hid hls; have Hl := Lib.hid hl
        clear hl hls hld
        go_wp2
        go_roundg (N - (k + 1))
        case measure => go_light; omega
        case rel => exact ⟨k + 1, by omega, rfl, by go_num, Hpa.out.congr fun q hq => (HA.out.pre.other hlt Hl.out q hq).symm, by rw [Hls.out]; exact ⟨vals, by rw [List.length_map]; exact K1.out, K2.out⟩⟩
      | false =>
        rw [hld] at cd
        have hl : ldB E k = true := by rw [ldB_inP, hld]; rfl
        rw [if_pos hl] at hls
        have Hls := Lib.hid hls
        have Hl := Lib.hid hl
        clear hl hls hld
        have hpa8 := (Hpa.out.set k true).below (below1 _ (Obj.cells #[.int .i64 (k : Int)] 3))
        have hz8 : ((wq.setCell ⟨w5.heap.size, k, none⟩ (.bool true)).alloc (Obj.cells #[.int .i64 (k : Int)] 3)).heap.size = wq.heap.size + 1 := by rw [World.size_alloc, size_setCell]
        have hg8 : wq.grownBy ((wq.setCell ⟨w5.heap.size, k, none⟩ (.bool true)).alloc (Obj.cells #[.int .i64 (k : Int)] 3)) (some w5.heap.size) := (grown_set wq w5.heap.size k _).trans (World.grownBy_alloc _ _ _)
        have ho8 : ((wq.setCell ⟨w5.heap.size, k, none⟩ (.bool true)).alloc (Obj.cells #[.int .i64 (k : Int)] 3)).ownsRow wq.heap.size 3 1 (.slice (some ⟨wq.heap.size, 0, none⟩) 1 1) [k].length (nvals [k]) := by
          have := World.ownsRow_lit (base := wq.heap.size) (e := 3) (size := 1) (wq.setCell ⟨w5.heap.size, k, none⟩ (.bool true)) #[.int .i64 (k : Int)] 1 (by rw [size_setCell]; exact Nat.le_refl _) (by decide) rfl
          rw [size_setCell] at this
          exact this
        have hcm := CmI.start HA.out hlt (I := inP E k) fun x _ => rfl
        have Hpa8 := Lib.hid hpa8; have Hg8 := Lib.hid hg8; have Ho8 := Lib.hid ho8; have Hcm := Lib.hid hcm
        clear hpa8 hg8 ho8 hcm
        go_upto_region 13 with fail
        clear cd fd ld hz8
        generalize (wq.setCell ⟨w5.heap.size, k, none⟩ (.bool true)).alloc (Obj.cells #[.int .i64 (k : Int)] 3) = w8 at *
        go_wp2
        go_loopg [9, 10] N (fun g s9 s10 wr => ∃ (i : Nat) (q : List Nat) (I : Nat → Bool), i ≤ q.length ∧ g = N - i ∧ s10 = .int .i64 i ∧ CmI N E X k I q i ∧ PaS w6 wr N w5.heap.size I ∧ wq.grownBy wr (some w5.heap.size) ∧ wr.ownsRow wq.heap.size 3 1 s9 q.length (nvals q))
        case atStart => exact ⟨0, [k], _, Nat.zero_le _, rfl, rfl, Hcm.out, Hpa8.out, Hg8.out, Ho8.out⟩
        case round =>
          obtain ⟨i, q, I, hi, rfl, rfl, hcm, hp3, hg3, ho3⟩ := hrel
          obtain ⟨a9, c9, rfl⟩ := ownsRow_form ho3
          have Hcm3 := Lib.hid hcm; have Hp3 := Lib.hid hp3; have Hg3 := Lib.hid hg3; have Ho3 := Lib.hid ho3
          have hql := hcm.len
          have hz3 := hg3.size
          clear hcm hp3 hg3 ho3
          by_cases hil : i < q.length
          · have hqi : q.getD i 0 ∈ q := by rw [List.getD, List.getElem?_eq_getElem hil]; exact List.getElem_mem _
            have hx := (Hcm3.out.mem _ hqi).1
            have hce : (nvals q)[i]? = some (.int .i64 ((q.getD i 0 : Nat) : Int)) := by simp [nvals, ints, List.getD, List.getElem?_eq_getElem hil]
            obtain ⟨g9, rfl⟩ : ∃ g, a9 = some ⟨g, 0, none⟩ := by
              rcases Ho3.out.2 with ⟨e, e0⟩ | ⟨g, cap', cur, e, -⟩
              · omega
              · simp only [Value.slice.injEq] at e; exact ⟨g, e.1⟩
            have cq := Ho3.out.cells (g := g9) rfl _ _ hce
            rw [Addr.add_lit, Nat.zero_add] at cq
            have hbw5 : Below w5.heap.size w5 wr := Hb6.out.grown Hp3.out.g Hb6.out.size (fun q e => by have := Option.some.inj e; omega)
            have hnb5 := Hnb.out.below hbw5
            have Hnb5 := Lib.hid hnb5
            obtain ⟨xx, hxx⟩ : ∃ x, q.getD i 0 = x := ⟨_, rfl⟩
            rw [hxx] at cq hx hqi
            obtain ⟨au, cu, eu⟩ := hnb5.form hx
            have Eu := Lib.hid eu
            have t1 := hnb5.ro.cell hx
            rw [eu] at t1
            have Hxx := Lib.hid hxx
            clear hqi hce hbw5 hnb5 hxx eu
            generalize hnQ : q.length = nQ at *
            have HnQ := Lib.hid hnQ
            clear hnQ
            have hnu := HA.out.len xx hx
            generalize hnX : (X xx).length = nu at *
            have HnX := Lib.hid hnX
            clear hnX
            obtain ⟨wz, rfl⟩ : ∃ wz : World, wz = wr := ⟨_, rfl⟩
            go_wp2
            clear cq t1
            go_loopg [9, 52] nu (fun g s9 s52 wi => ∃ (j : Nat) (I' : Nat → Bool) (q' : List Nat), j ≤ nu ∧ g = nu - j ∧ s52 = .int .i64 (j : Int) ∧ CmI N E X k I' q' i ∧ i < q'.length ∧ q'.getD i 0 = xx ∧ PaS w6 wi N w5.heap.size I' ∧ wq.grownBy wi (some w5.heap.size) ∧ wi.ownsRow wq.heap.size 3 1 s9 q'.length (nvals q') ∧ ∀ j', j' < j → I' ((X xx).getD j' 0) = true)
            case atStart => exact ⟨0, I, q, Nat.zero_le _, rfl, rfl, Hcm3.out, by rw [HnQ.out]; exact hil, Hxx.out, Hp3.out, Hg3.out, by rw [HnQ.out]; exact Ho3.out, fun j' h => absurd h (Nat.not_lt_zero _)⟩
            case round =>
              clear Hcm3 Hp3 Hg3 Ho3 HnQ Hxx
              obtain ⟨j, I', q', hj, rfl, rfl, hcm, hiq, hxx, hp4, hg4, ho4, hall⟩ := hrel
              obtain ⟨a9, c9', rfl⟩ := ownsRow_form ho4
              have Hcm4 := Lib.hid hcm; have Hp4 := Lib.hid hp4; have Hg4 := Lib.hid hg4; have Ho4 := Lib.hid ho4; have Hall := Lib.hid hall; have Hiq := Lib.hid hiq; have Hxx := Lib.hid hxx
              have hql4 := hcm.len
              have hz4 := hg4.size
              clear hcm hg4 ho4 hall hiq hxx
              by_cases hjl : j < nu
              · obtain ⟨gu, cu', eu, hcu⟩ := (Hnb.out.below (Hb6.out.grown hp4.g Hb6.out.size (fun q e => by have := Option.some.inj e; omega))).lookR hx (show j < (X xx).length by rw [HnX.out]; exact hjl)
                obtain ⟨rfl, rfl⟩ : au = some ⟨gu, 0, none⟩ ∧ cu = cu' := by
                  have := Eu.out.symm.trans eu
                  simp only [Value.slice.injEq] at this
                  exact ⟨this.1, this.2.2⟩
                have hmem : (X xx).getD j 0 ∈ X xx := by
                  have hj' : j < (X xx).length := by rw [HnX.out]; exact hjl
                  rw [List.getD, List.getElem?_eq_getElem hj']
                  exact List.getElem_mem hj'
                have hu := (HA.out.one xx _ hx hmem).1
                have Hmem := Lib.hid hmem
                generalize hij : (X xx).getD j 0 = u at *
                have Hij := Lib.hid hij
                have cw := hp4.done.cell hu
                simp only [rb] at cw
                have fw := hp4.done.frozen u
                have lw := hp4.done.lt
                clear hij hmem eu hp4
                generalize hn4 : q'.length = n4 at *
                have Hn4 := Lib.hid hn4
                clear hn4
                cases hI : I' u with
                | true =>
                  rw [hI] at cw
                  have HI := Lib.hid hI
                  clear hI
                  go_wp2
                  go_roundg (nu - (j + 1))
                  case measure => go_light; omega
                  case rel => exact ⟨j + 1, I', q', by omega, rfl, by go_num, Hcm4.out, by rw [Hn4.out]; exact Hiq.out, Hxx.out, Hp4.out, Hg4.out, by rw [Hn4.out]; exact Ho4.out, fun j' hj' => by
                    by_cases e : j' = j
                    · subst e; rw [Hij.out]; exact HI.out
                    · exact Hall.out j' (by omega)⟩
                | false =>
                  rw [hI] at cw
                  have HI := Lib.hid hI
                  clear hI
                  have hg5 := grown_set wr w5.heap.size u (.bool true)
                  have Ho5 := Lib.hid ((Ho4.out.kept hg5 (own_side Ho4.out (by omega))).alloc (Obj.cells #[.int .i64 (u : Int)] 3))
                  have Hp5 := Lib.hid ((Hp4.out.set u true).below (below1 _ (Obj.cells #[.int .i64 (u : Int)] 3)))
                  have Hg5 := Lib.hid (hg5.trans (World.grownBy_alloc (wr.setCell ⟨w5.heap.size, u, none⟩ (.bool true)) (Obj.cells #[.int .i64 (u : Int)] 3) (some w5.heap.size)))
                  have hone := HasCells.one (wr.setCell ⟨w5.heap.size, u, none⟩ (.bool true)) (.int .i64 (u : Int)) 3 rfl
                  rw [size_setCell] at hone
                  have Hone := Lib.hid hone
                  clear hg5 hone
                  go_wp2_with (at_builtin; (refine wpList_append_has rfl (.tmp 64) (.tmp 66) 39 rfl wq.heap.size 3 (.int .i64 0) 8 Try.underlying39 info3 rfl (.slice a9 n4 c9') n4 (nvals q') rfl Ho5.out _ 1 (nvals [u]) rfl Hone.out (by omega) (by omega) (by rw [World.size_alloc, size_setCell]; omega) ?_; intro a8 c8 w9 ho9 hg9; have P9 := Lib.hid (Hp5.out.grown hg9 (fun q e => Nat.le_trans hzq (Ho4.out.lt q e).1) hDz); have G9 := Lib.hid ((Hg4.out.trans Hg5.out).andThen hg9 (fun q e => Or.inl (Ho4.out.lt q e).1)); have Ho9 := Lib.hid ho9; clear ho9 hg9))
                  go_roundg (nu - (j + 1))
                  case measure => go_light; omega
                  case rel =>
                    refine ⟨j + 1, _, q' ++ [u], by omega, rfl, by go_num, Hcm4.out.add HA.out hlt (by rw [Hn4.out]; exact Hiq.out) (by rw [Hxx.out]; exact Hmem.out) HI.out, by rw [List.length_append]; have := Hiq.out; have := Hn4.out; simp only [List.length_cons, List.length_nil]; omega, ?_, P9.out, G9.out, ?_, fun j' hj' => ?_⟩
                    · have := Hxx.out
                      rw [← this]
                      simp [List.getD, List.getElem?_append_left (show i < q'.length by rw [Hn4.out]; exact Hiq.out)]
                    · have h9 := Ho9.out
                      simpa [nvals, ints, Hn4.out] using h9
                    · by_cases e : (X xx).getD j' 0 = u
                      · rw [if_pos e]
                      · rw [if_neg e]
                        by_cases e2 : j' = j
                        · subst e2; exact absurd Hij.out e
                        · exact Hall.out j' (by omega)
              · obtain rfl : nu = j := by omega
                clear hp4
                go_wp2
                go_roundg (N - (i + 1))
                case measure => go_light; omega
                case rel =>
                  refine ⟨i + 1, q', I', by have := Hiq.out; omega, rfl, by go_num, Hcm4.out.next fun u hu => ?_, Hp4.out, Hg4.out, Ho4.out⟩
                  rw [Hxx.out] at hu
                  obtain ⟨j', hj', rfl⟩ := List.mem_iff_getElem.1 hu
                  have e : (X xx)[j'] = (X xx).getD j' 0 := by simp [List.getD, hj']
                  rw [e]
                  exact Hall.out j' (by rw [← HnX.out]; exact hj')
          · obtain rfl : i = q.length := by omega
            obtain ⟨hcl, hin⟩ := Hcm3.out.fin HA.out hlt Hl.out rfl
            have hsort := sort_cls Hcm3.out.nodup (c := cls N E k) (List.pairwise_lt_range.filter _) hcl
            have Hsort := Lib.hid hsort; have Hin := Lib.hid hin
            have hlen : (cls N E k).length = q.length := by
              have h1 := congrArg List.length hsort
              rw [List.length_mergeSort, ints_length, ints_length] at h1
              exact h1.symm
            have Hlen := Lib.hid hlen
            have hos : wr.ownsRow wq.heap.size 3 1 (.slice a9 (cls N E k).length c9) (ints q).length ((ints q).map (Value.int .i64)) := by rw [ints_length, hlen]; exact Ho3.out
            have Hos := Lib.hid hos
            have hq1 : (ints q).length ≤ 100000 := by rw [ints_length]; omega
            have hncl : (cls N E k).length ≤ 100 := by omega
            clear hcl hin hsort hos
            rw [← hlen]
            clear hlen
            go_upto_region 24 with (go_at_call 63; refine (sortI_any Hos.out hq1).mono ?_; rintro e w9 ⟨rfl, ho9, hg9⟩; have Ho9 := Lib.hid ho9; have G9 := Lib.hid hg9; clear ho9 hg9)
            have P9 := Lib.hid (Hp3.out.grown G9.out (fun q e => Nat.le_trans hzq (Hos.out.lt q e).1) hDz)
            have hgq : wq.grownBy w9 (some w5.heap.size) := Hg3.out.andThen G9.out (fun q e => Or.inl (Hos.out.lt q e).1)
            have K1' := Lib.hid (K1.out.kept hgq (own_side K1.out hDz))
            have K2' := Lib.hid (show ∀ j, j < ((lds E k).map (cls N E)).length → ∃ r, vals[j]? = some r ∧ w9.ownsRow w6.heap.size 3 1 r (((lds E k).map (cls N E)).getD j []).length (nvals (((lds E k).map (cls N E)).getD j [])) from fun j hj => by
              obtain ⟨r, e, ho⟩ := K2.out j hj
              exact ⟨r, e, ho.kept hgq (own_side ho hDz)⟩)
            have Ho4 := Lib.hid (show w9.ownsRow w6.heap.size 3 1 (.slice a9 (cls N E k).length c9) (cls N E k).length (nvals (cls N E k)) from by
              have h9 := Ho9.out
              rw [Hsort.out, ints_length, ← Hlen.out] at h9
              exact ownsRow_low h9 hzq)
            have hz9 := hgq.size
            clear hgq K1 K2 Ho9 Hos hq1
            generalize hnl : (lds E k).length = nl at *
            have Hnl := Lib.hid hnl
            clear hnl
            go_wp2_with (at_builtin; refine wpList_append_at rfl (.tmp 71) (.tmp 73) 30 rfl w6.heap.size 39 (.slice none 0 0) 24 Try.underlying30 infoS rfl (.slice aO nl cO) nl vals rfl (K1'.out.alloc _) _ 1 [.slice a9 (cls N E k).length c9] rfl (HasCells.one _ _ _ rfl) (by omega) (by omega) (by omega) (by simp; omega) ?_; intro a8 c8 w10 ho8 hg8 hat8; have P8 := Lib.hid ((P9.out.below (below1 w9 (Obj.cells #[.slice a9 (cls N E k).length c9] 39))).grown hg8 (fun q e => (K1'.out.lt q e).1) hDz); have R8 := Lib.hid (PRow.more (m := (lds E k).map (cls N E)) (x := cls N E k) (by rw [List.length_map, Hnl.out]; exact K1'.out) K2'.out Ho4.out (by rw [List.length_map, Hnl.out]; exact ho8) hg8); clear ho8 hg8 hat8)
            go_roundg (N - (k + 1))
            case measure => go_light; omega
            case rel => exact ⟨k + 1, by omega, rfl, by go_num, P8.out.congr fun q hq => Hin.out q hq, by rw [Hls.out, List.map_append]; exact R8.out⟩
    · obtain rfl : k = N := by omega
      have hrf := S5.out.r.of_block (Hb6.out.block _ S5.out.r.lt)
      have hrw := hrf.of_block (hpa.g.block _ hrf.lt (fun e => by have := Option.some.inj e; omega))
      obtain ⟨z0, z1, f0, f1, l0⟩ := row_facts hrw
      have e := (hrw.set 0 (.int .i64 0)).set 1 (.int .i64 0)
      have e0 := e.cell (show 0 < 2 by omega)
      have e1 := e.cell (show 1 < 2 by omega)
      simp only [if_true, show ¬ (1 : Nat) = 0 by omega, show ¬ (0 : Nat) = 1 by omega, if_false] at e0 e1
      have hbw5 : Below w5.heap.size w5 wq := Hb6.out.grown hpa.g Hb6.out.size (fun q e => by have := Option.some.inj e; omega)
      have hbw : Below w.heap.size w wq := S5.out.hb.trans (hbw5.mono S5.out.hb.size)
      have hfin := (hbw.setCell (p := ⟨w.heap.size + 1, 0, none⟩) (by show w.heap.size ≤ w.heap.size + 1; omega) (.int .i64 0)).setCell (p := ⟨w.heap.size + 1, 1, none⟩) (by show w.heap.size ≤ w.heap.size + 1; omega) (.int .i64 0)
      have hcl : compsL k (adj l) = (lds E k).map (cls k E) := by
        show (lds (conB k (adj l)) k).map (cls k (conB k (adj l))) = _
        rw [HE0.out]
      have hlow : w.heap.size + 1 < w6.heap.size := by omega
      have hpr : PRow wq w6.heap.size (.slice aO (lds E k).length cO) (compsL k (adj l)) := by
        rw [hcl]
        exact ⟨vals, by rw [List.length_map]; exact K1.out, K2.out⟩
      have hpr2 := (hpr.kept (grown_set wq (w.heap.size + 1) 0 (.int .i64 0)) hlow).kept (grown_set _ (w.heap.size + 1) 1 (.int .i64 0)) hlow
      have Hfin := Lib.hid (show PRow ((wq.setCell ⟨w.heap.size + 1, 0, none⟩ (.int .i64 0)).setCell ⟨w.heap.size + 1, 1, none⟩ (.int .i64 0)) w.heap.size (.slice aO (lds E k).length cO) (compsL k (adj l)) from by
        obtain ⟨vs, h1, h2⟩ := hpr2
        exact ⟨vs, ownsRow_low h1 (by omega), fun j hj => by
          obtain ⟨r, e, ho⟩ := h2 j hj
          exact ⟨r, e, ownsRow_low ho (by omega)⟩⟩)
      have Hbw := Lib.hid hfin
      clear hpa hbw hbw5 hfin hrf hrw e hpr hpr2
      go_wp2
      exact bodyPost_ret (v := .tuple #[.slice aO (lds E k).length cO, .agg #[.int .i64 0, .int .i64 0]]) (by simp [results, Try.results31, go_sem, e0, e1]) rfl ⟨_, rfl, Hfin.out, Hbw.out⟩

end Go.Proofs.Ytmhcnekbfngafaa
