/- arborref.Components: the parts of a graph, each rising, in order by their least nodes. -/
import Derived.Test.YtnmljgjegodkaaaPRow
import Derived.Test.YtnmljgjegodkaaaPA
import Derived.Test.YtnmljgjegodkaaaReach
namespace Go.Proofs.Ytnmljgjegodkaaa
open Go.RowKit Go.Maps

/-- Which nodes hang together. -/
noncomputable abbrev conB (N : Nat) (G : Nat → Nat → Bool) : Nat → Nat → Bool := rchB N G (fun _ => false)
section
variable {N : Nat} {G : Nat → Nat → Bool}
theorem con_pre : Pre N (conB N G) := ⟨fun v _ => rchB_iff.2 .refl, fun u v w _ _ _ h1 h2 => rchB_iff.2 ((rchB_iff.1 h1).trans (rchB_iff.1 h2))⟩
theorem rch_sym (hs : ∀ i j, i < N → j < N → G i j = G j i) {a b : Nat} (ha : a < N) (h : Rch N G (fun _ => false) a b) : Rch N G (fun _ => false) b a := by
  induction h with
  | refl => exact .refl
  | @step b c hab hb hc hg hS ih => exact (Rch.step (.refl : Rch N G (fun _ => false) c c) hc hb (by rw [hs c b hc hb]; exact hg) rfl).trans ih
theorem con_eqv (hs : ∀ i j, i < N → j < N → G i j = G j i) {v w : Nat} (hv : v < N) : eqvB (conB N G) v w = conB N G v w := by
  unfold eqvB
  cases e : conB N G v w with
  | false => rfl
  | true =>
    have := rchB_iff.2 (rch_sym hs hv (rchB_iff.1 e))
    show (true && conB N G w v) = true
    rw [show conB N G w v = true from this]; rfl
end
/-- The parts of a graph. -/
noncomputable abbrev compsL (N : Nat) (G : Nat → Nat → Bool) : List (List Nat) := (lds (conB N G) N).map (cls N (conB N G))

set_option maxHeartbeats 3200000 in
set_option maxRecDepth 100000 in
theorem rcomps_any (N : Nat) (G : Nat → Nat → Bool) (gv : Value) (w : World) (hN : N ≤ 100) (hg : HasGrid w gv N G) (hs : ∀ i j, i < N → j < N → G i j = G j i) :
    Calls Try.prog 54 #[gv] w fun e w' => ∃ v, e = .returned v ∧ PRow w' w.heap.size v (compsL N G) ∧ Below w.heap.size w w' := by
  have HG := Lib.hid hg
  obtain ⟨Bg, ga, gc, gb, go', R0, rfl, -⟩ := hg
  have HP := Lib.hid (con_pre (N := N) (G := G))
  have HE := Lib.hid (fun v w (hv : v < N) => con_eqv hs (w := w) hv)
  have hmk2 := run_make_row' (P := Try.prog) 51 4 (.bool false) 1 Try.underlying51 info4 rfl .i64 .i64 N (by omega) (by omega)
  have hr5 := World.rowIs_made w (.bool false) N 4
  have hb5 := below1 w (.cells (madeCells #[.bool false] N) 4)
  have hz5 : (w.alloc (.cells (madeCells #[.bool false] N) 4)).heap.size = w.heap.size + 1 := World.size_alloc _ _
  have Hr5 := Lib.hid (hr5.congr (g := rb fun _ => false) fun _ _ => rfl)
  have Hb5 := Lib.hid hb5
  clear hr5 hb5 hs
  go_enter Try.func54, Try.ntmps54
  go_upto_region 3 with fail
  clear hmk2
  generalize w.alloc (.cells (madeCells #[.bool false] N) 4) = w5 at *
  generalize hE0 : conB N G = E at *
  have HE0 := Lib.hid hE0
  clear hE0
  have hDz : w.heap.size < w5.heap.size := by omega
  go_wp2
  go_loopg [3, 5] N (fun g s10 s44 wr => ∃ k : Nat, k ≤ N ∧ g = N - k ∧ s44 = .int .i64 k ∧ PaS w5 wr N w.heap.size (inP E k) ∧ PRow wr w5.heap.size s10 ((lds E k).map (cls N E)))
  case atStart => exact ⟨0, Nat.zero_le _, rfl, rfl, ⟨World.grownBy.refl _ _, row_rb Hr5.out fun q _ => by simp [inP]⟩, PRow.nil _ _⟩
  case round =>
    obtain ⟨k, hk, rfl, rfl, hpa, hpr⟩ := hrel
    obtain ⟨wq, rfl⟩ : ∃ wq : World, wq = wr := ⟨_, rfl⟩
    have Hpa := Lib.hid hpa
    obtain ⟨vals, k1, k2⟩ := hpr
    obtain ⟨aO, cO, rfl⟩ := ownsRow_form k1
    rw [List.length_map] at k1
    rw [List.length_map]
    have hll := lds_len E k
    have K1 := Lib.hid k1; have K2 := Lib.hid k2
    have hzq := hpa.g.size
    clear k1 k2
    by_cases hlt : k < N
    · have cd := hpa.done.cell hlt
      simp only [rb] at cd
      have hls := lds_succ E k
      clear hpa
      cases hld : inP E k k with
      | true =>
        rw [hld] at cd
        have hl : ldB E k = false := by rw [ldB_inP, hld]; rfl
        rw [if_neg (by rw [hl]; simp), List.append_nil] at hls
        have Hls := Lib.hid hls; have Hl := Lib.hid hl
        clear hl hls hld
        go_wp2
        go_roundg (N - (k + 1))
        case measure => go_light; omega
        case rel => exact ⟨k + 1, by omega, rfl, by go_num, Hpa.out.congr fun q hq => (HP.out.other hlt Hl.out q hq).symm, by rw [Hls.out]; exact ⟨vals, by rw [List.length_map]; exact K1.out, K2.out⟩⟩
      | false =>
        rw [hld] at cd
        have hl : ldB E k = true := by rw [ldB_inP, hld]; rfl
        rw [if_pos hl] at hls
        have Hls := Lib.hid hls
        have hst := HP.out.clsTo_start hl
        have Hl := Lib.hid hl
        have hbw : Below w.heap.size w wq := Hb5.out.grown Hpa.out.g Hb5.out.size (fun q e => by have := Option.some.inj e; omega)
        have HGq := Lib.hid (HG.out.below hbw); have Hbw := Lib.hid hbw
        clear hl hls hld hst hbw
        go_upto_region 8 with (go_at_call 36; refine (reach_any N k G (fun _ => false) _ _ wq hN hlt HGq.out (HasShut.nil wq)).mono ?_; rintro e w6 ⟨b6, rfl, hlo6, hr6, hb6⟩; rw [show rchB N G (fun _ => false) = E from HE0.out] at hr6; have P6 := Lib.hid (Hpa.out.below hb6); have Hr6 := Lib.hid hr6; have Hb6 := Lib.hid hb6; have hz6 := hb6.size; have lb6 := hr6.lt; clear hr6 hb6)
        clear cd
        go_wp2
        go_loopg [7, 8] N (fun g s12 s13 wr => ∃ i : Nat, i ≤ N ∧ g = N - i ∧ s13 = .int .i64 i ∧ PaS w5 wr N w.heap.size (fun q => inP E k q || (decide (q < i) && eqvB E k q)) ∧ w6.grownBy wr (some w.heap.size) ∧ wr.ownsRow w6.heap.size 3 1 s12 (clsTo E k i).length (nvals (clsTo E k i)))
        case atStart => exact ⟨0, Nat.zero_le _, rfl, rfl, P6.out.congr fun q hq => by simp, World.grownBy.refl _ _, World.ownsRow_nil _ _ _ _⟩
        case round =>
          obtain ⟨i, hi, rfl, rfl, hp3, hg3, ho3⟩ := hrel
          obtain ⟨aP, cP, rfl⟩ := ownsRow_form ho3
          have Hp3 := Lib.hid hp3; have Hg3 := Lib.hid hg3; have Ho3 := Lib.hid ho3
          have hcl := clsTo_len E k i
          have hz3 := hg3.size
          have ti := Hr6.out.of_block (hg3.block b6 lb6 (fun e => by have := Option.some.inj e; omega))
          clear hg3 ho3
          by_cases hil : i < N
          · have t1 := ti.cell hil
            have cd := hp3.done.cell hil
            have fd := hp3.done.frozen i
            have ld := hp3.done.lt
            simp only [rb] at cd t1
            have hsu := clsTo_succ E k i
            have heq : eqvB E k i = E k i := HE.out k i hlt
            rw [heq] at hsu
            clear hp3 ti
            cases hb : E k i with
            | true =>
              rw [hb] at t1
              rw [if_pos hb] at hsu
              have Hb := Lib.hid (heq.trans hb); have Hsu := Lib.hid hsu
              clear hb hsu heq
              generalize hcc : clsTo E k i = cc at *
              have Hcc := Lib.hid hcc
              clear hcc
              go_upto_region 14 with (at_builtin; refine wpList_append_has rfl (.tmp 35) (.tmp 37) 29 rfl w6.heap.size 3 (.int .i64 0) 8 Try.underlying29 info3 rfl (.slice aP cc.length cP) cc.length (nvals cc) rfl (Ho3.out.alloc _) _ 1 (nvals [i]) rfl (HasCells.one _ _ _ rfl) (by omega) (by omega) (by simp; omega) ?_; intro a8 c8 w8 ho8 hg8; have P8 := Lib.hid ((Hp3.out.below (below1 wr (Obj.cells #[.int .i64 (i : Int)] 3))).grown hg8 (fun q e => by have := (Ho3.out.lt q e).1; omega) hDz); have G8 := Lib.hid ((Hg3.out.trans (World.grownBy_alloc wr (Obj.cells #[.int .i64 (i : Int)] 3) (some w.heap.size))).andThen hg8 (fun q e => Or.inl (Ho3.out.lt q e).1)); have Ho8 := Lib.hid ho8; clear ho8 hg8)
              have cd8 := P8.out.done.cell hil
              have fd8 := P8.out.done.frozen i
              have ld8 := P8.out.done.lt
              clear t1 cd fd ld
              go_wp2
              go_roundg (N - (i + 1))
              case measure => go_light; omega
              case rel => exact ⟨i + 1, by omega, rfl, by go_num, (P8.out.set i true).congr fun q hq => by
                by_cases e : q = i
                · subst e; simp [Hb.out]
                · rw [if_neg e]
                  have : decide (q < i + 1) = decide (q < i) := by simp; omega
                  rw [this], G8.out.trans (grown_set _ w.heap.size i _), by
                have h9 := Ho8.out.kept (grown_set w8 w.heap.size i (.bool true)) (own_side Ho8.out (by omega))
                rw [Hsu.out]
                simpa [nvals, ints] using h9⟩
            | false =>
              rw [hb] at t1
              rw [if_neg (by rw [hb]; simp), List.append_nil] at hsu
              have Hb := Lib.hid (heq.trans hb); have Hsu := Lib.hid hsu
              clear hb hsu heq
              have fin : PaS w5 wr N w.heap.size (fun q => inP E k q || (decide (q < i + 1) && eqvB E k q)) := Hp3.out.congr fun q hq => by
                by_cases e : q = i
                · subst e; simp [Hb.out]
                · have : decide (q < i + 1) = decide (q < i) := by simp; omega
                  rw [this]
              have Hfin := Lib.hid fin
              clear fin
              go_wp2
              go_roundg (N - (i + 1))
              case measure => go_light; omega
              case rel => exact ⟨i + 1, by omega, rfl, by go_num, Hfin.out, Hg3.out, by rw [Hsu.out]; exact Ho3.out⟩
          · obtain rfl : i = N := by omega
            clear hp3 ti
            have hcls : clsTo E k i = cls i E k := rfl
            rw [hcls] at Ho3 hcl ⊢
            clear hcls
            have hgq : wq.grownBy wr (some w.heap.size) := ((grown_of_below Hb6.out).but _).trans Hg3.out
            have K1' := Lib.hid (K1.out.kept hgq (own_side K1.out hDz))
            have K2' := Lib.hid (show ∀ j, j < ((lds E k).map (cls i E)).length → ∃ r, vals[j]? = some r ∧ wr.ownsRow w5.heap.size 3 1 r (((lds E k).map (cls i E)).getD j []).length (nvals (((lds E k).map (cls i E)).getD j [])) from fun j hj => by
              obtain ⟨r, e, ho⟩ := K2.out j hj
              exact ⟨r, e, ho.kept hgq (own_side ho hDz)⟩)
            have Ho4 := Lib.hid (ownsRow_low Ho3.out (show w5.heap.size ≤ w6.heap.size by omega))
            clear hgq K1 K2
            generalize hnl : (lds E k).length = nl at *
            have Hnl := Lib.hid hnl
            clear hnl
            go_wp2_with (at_builtin; refine wpList_append_at rfl (.tmp 42) (.tmp 44) 42 rfl w5.heap.size 29 (.slice none 0 0) 24 Try.underlying42 infoS rfl (.slice aO nl cO) nl vals rfl (K1'.out.alloc _) _ 1 [.slice aP (cls i E k).length cP] rfl (HasCells.one _ _ _ rfl) (by omega) (by omega) (by omega) (by simp; omega) ?_; intro a8 c8 w8 ho8 hg8 hat8; have P8 := Lib.hid ((Hp3.out.below (below1 wr (Obj.cells #[.slice aP (cls i E k).length cP] 29))).grown hg8 (fun q e => (K1'.out.lt q e).1) hDz); have R8 := Lib.hid (PRow.more (m := (lds E k).map (cls i E)) (x := cls i E k) (by rw [List.length_map, Hnl.out]; exact K1'.out) K2'.out Ho4.out (by rw [List.length_map, Hnl.out]; exact ho8) hg8); clear ho8 hg8 hat8)
            go_roundg (i - (k + 1))
            case measure => go_light; omega
            case rel => exact ⟨k + 1, by omega, rfl, by go_num, P8.out.congr fun q hq => by rw [inP_succ]; simp [hq], by rw [Hls.out, List.map_append]; exact R8.out⟩
    · obtain rfl : k = N := by omega
      have hbw : Below w.heap.size w wq := Hb5.out.grown Hpa.out.g Hb5.out.size (fun q e => by have := Option.some.inj e; omega)
      have hcl : compsL k G = (lds E k).map (cls k E) := by
        show (lds (conB k G) k).map (cls k (conB k G)) = _
        rw [HE0.out]
      have Hfin := Lib.hid (show PRow wq w.heap.size (.slice aO (lds E k).length cO) (compsL k G) from by
        rw [hcl]
        exact ⟨vals, by rw [List.length_map]; exact ownsRow_low K1.out (by omega), fun j hj => by
          obtain ⟨r, e, ho⟩ := K2.out j hj
          exact ⟨r, e, ownsRow_low ho (by omega)⟩⟩)
      have Hbw := Lib.hid hbw
      clear hpa hbw
      go_wp2
      go_ret
      exact ⟨_, rfl, Hfin.out, Hbw.out⟩

end Go.Proofs.Ytnmljgjegodkaaa
