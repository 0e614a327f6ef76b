/- flow.straight: what lies between two visits of a node is left away. -/
import Derived.Test.YtbnbhjeknocboaaPD
import Derived.Test.YtbnbhjeknocboaaFMost
import Derived.Test.YtbnbhjeknocboaaPairMap
import Derived.Test.YtbnbhjeknocboaaFollow
import Derived.Maps.OwnSet
import Derived.Maps.OwnOps
namespace Go.Proofs.Ytbnbhjeknocboaa
open Go.RowKit Go.Maps

theorem intKeyed : Keyed Try.prog 3 := int_keyed Try.underlying3

/-- The map tells where each node lies; q behind j have been taken out. -/
structure IdxI (D : DataW Unit) (o : List Nat) (j q : Nat) : Prop where
  has : ∀ v : Nat, Maps.has D (.int .i64 (v : Int)) = true ↔ ∃ i, i < o.length ∧ o.getD i 0 = v ∧ (i ≤ j ∨ j + q < i)
  at_ : ∀ i, i < o.length → (i ≤ j ∨ j + q < i) → D.atKey (.int .i64 ((o.getD i 0 : Nat) : Int)) (.lit (.int .i64 0)) = .lit (.int .i64 (i : Int))
/-- The map tells where each node lies. -/
structure Idx (D : DataW Unit) (o : List Nat) : Prop where
  has : ∀ v : Nat, Maps.has D (.int .i64 (v : Int)) = true ↔ ∃ i, i < o.length ∧ o.getD i 0 = v
  at_ : ∀ i, i < o.length → D.atKey (.int .i64 ((o.getD i 0 : Nat) : Int)) (.lit (.int .i64 0)) = .lit (.int .i64 (i : Int))
theorem lit_ne {a b : Nat} (h : a ≠ b) : (Lit.int .i64 (a : Int)) ≠ .int .i64 (b : Int) := fun e => by
  simp only [Lit.int.injEq, true_and] at e
  omega
theorem Idx.start : Idx (.map []) [] := ⟨fun v => ⟨fun h => by simp [Maps.has_eq] at h, fun ⟨i, h, _⟩ => absurd h (Nat.not_lt_zero _)⟩, fun i h => absurd h (Nat.not_lt_zero _)⟩
theorem Idx.cut {D : DataW Unit} {o : List Nat} (h : Idx D o) (j : Nat) : IdxI D o j 0 := ⟨fun v => (h.has v).trans ⟨fun ⟨i, h1, h2⟩ => ⟨i, h1, h2, by omega⟩, fun ⟨i, h1, h2, _⟩ => ⟨i, h1, h2⟩⟩, fun i hi _ => h.at_ i hi⟩
theorem IdxI.del {D : DataW Unit} {o : List Nat} {j q : Nat} (h : IdxI D o j q) (hdif : ∀ a b, a < b → b < o.length → o.getD a 0 ≠ o.getD b 0) (hq : j + q + 1 < o.length) : IdxI (D.del (.int .i64 ((o.getD (j + q + 1) 0 : Nat) : Int))) o j (q + 1) := by
  have hne : ∀ i, i < o.length → i ≠ j + q + 1 → o.getD i 0 ≠ o.getD (j + q + 1) 0 := fun i hi hn => by
    rcases Nat.lt_or_gt_of_ne hn with e | e
    · exact hdif i _ e hq
    · exact Ne.symm (hdif _ i e hi)
  refine ⟨fun v => ?_, fun i hi hc => ?_⟩
  · by_cases e : v = o.getD (j + q + 1) 0
    · subst e
      rw [has_del_same]
      refine ⟨fun h => absurd h Bool.false_ne_true, fun ⟨i, h1, h2, h3⟩ => ?_⟩
      exact absurd h2 (hne i h1 (by omega))
    · rw [has_del_other (lit_ne e), h.has v]
      refine ⟨fun ⟨i, h1, h2, h3⟩ => ⟨i, h1, h2, ?_⟩, fun ⟨i, h1, h2, h3⟩ => ⟨i, h1, h2, by omega⟩⟩
      have : i ≠ j + q + 1 := fun e2 => e (by rw [← h2, e2])
      omega
  · have hn := hne i hi (by omega)
    rw [atKey_del_other (lit_ne hn)]
    exact h.at_ i hi (by omega)
theorem IdxI.done {D : DataW Unit} {o : List Nat} {j q : Nat} (h : IdxI D o j q) (hq : j + q + 1 = o.length) : Idx D (o.take (j + 1)) := by
  have hl : (o.take (j + 1)).length = j + 1 := by rw [List.length_take]; omega
  refine ⟨fun v => ?_, fun i hi => ?_⟩
  · rw [h.has v]
    refine ⟨fun ⟨i, h1, h2, h3⟩ => ⟨i, by omega, by rw [getD_take (by omega)]; exact h2⟩, fun ⟨i, h1, h2⟩ => ⟨i, by omega, by rw [getD_take (by omega)] at h2; exact h2, by omega⟩⟩
  · rw [getD_take (by omega)]
    exact h.at_ i (by omega) (by omega)
theorem Idx.put {D : DataW Unit} {o : List Nat} {v : Nat} (h : Idx D o) (hm : IsMap D) (hk : WideAt.IsKeyLit (.int .i64 (v : Int))) (hv : ∀ i, i < o.length → o.getD i 0 ≠ v) : Idx (D.put (.int .i64 (v : Int)) (.lit (.int .i64 (o.length : Int)))) (o ++ [v]) := by
  have hl : (o ++ [v]).length = o.length + 1 := by simp
  refine ⟨fun x => ?_, fun i hi => ?_⟩
  · by_cases e : x = v
    · subst e
      rw [has_put_same hm hk]
      exact ⟨fun _ => ⟨o.length, by omega, getD_app_eq⟩, fun _ => rfl⟩
    · rw [has_put_other (lit_ne e), h.has x]
      refine ⟨fun ⟨i, h1, h2⟩ => ⟨i, by omega, by rw [getD_app_lt h1]; exact h2⟩, fun ⟨i, h1, h2⟩ => ?_⟩
      by_cases e2 : i = o.length
      · rw [e2, getD_app_eq] at h2; exact absurd h2.symm e
      · rw [getD_app_lt (by omega)] at h2; exact ⟨i, by omega, h2⟩
  · by_cases e2 : i = o.length
    · rw [e2, getD_app_eq]; exact atKey_put_same hm hk _ _
    · rw [getD_app_lt (by omega), atKey_put_other (lit_ne (hv i (by omega)))]
      exact h.at_ i (by omega)

theorem run_slice_lo {P : Program} {t e : TypeId} {i : TypeInfo} (ht : P.underlying t = some (.slice e)) (hi : P.info? e = some i) (hs : i.size = 1) (b n cap lo : Nat) (h : lo ≤ n) (h2 : n ≤ cap) (w : World) :
    ∃ a', (Instr.slice t (.slice (some ⟨b, 0, none⟩) n cap) (some (.int .i64 (lo : Int))) none none).run P w = .ok (.slice a' (n - lo) (cap - lo)) w ∧ (lo < n → a' = some ⟨b, lo, none⟩) := by
  have hb : (Instr.sliceBound (.int .i64 (lo : Int)) n .sliceB).run P w = .ok lo w := run_sliceBound w .i64 lo n .sliceB (by omega) (by omega)
  refine ⟨_, by simp [Instr.slice, run_underlying ht, Instr.sliceBounds, hb, sizeOf, typeInfo, hi, hs]; rfl, fun hlt => ?_⟩
  rw [if_neg (by omega)]
  simp [Addr.add]
  exact fun e => e.symm
theorem ownsRow_head {w : World} {base g cap n k : Nat} {e : TypeId} {xs : List Value} (h : w.ownsRow base e 1 (.slice (some ⟨g, 0, none⟩) n cap) n xs) (hk : k ≤ n) : w.ownsRow base e 1 (.slice (some ⟨g, 0, none⟩) k cap) k (xs.take k) := by
  obtain ⟨h1, h2⟩ := h
  rcases h2 with ⟨h0, _⟩ | ⟨g', cap', cur, hv, hg, hh, hn, hcap, hsz, htake⟩
  · cases h0
  · cases hv
    refine ⟨by rw [List.length_take]; omega, .inr ⟨g, cap, cur, rfl, hg, hh, by omega, hcap, hsz, ?_⟩⟩
    rw [← htake, List.take_take, Nat.mul_one, Nat.mul_one, Nat.min_eq_left hk]
theorem ints_take (l : List Nat) (k : Nat) : ints (l.take k) = (ints l).take k := by unfold ints; rw [List.map_take]

/-- What lies between two visits has been left away. -/
def StraightPost (l : List Nat) (w : World) (e : Ending) (w' : World) : Prop :=
  ∃ (v : Value) (o : List Nat), e = .returned v ∧ StrOk l l.length o ∧ w'.ownsRow w.heap.size 3 1 v o.length ((ints o).map (Value.int .i64)) ∧ Below w.heap.size w w'

set_option maxHeartbeats 6400000 in
set_option maxRecDepth 100000 in
theorem straight_any (l : List Nat) (lv : Value) (w : World) (hl : l.length ≤ 2000000000) (hv : ∀ i, i < l.length → l.getD i 0 ≤ 1000000) (hi : IsInts w lv (ints l)) :
    Calls Try.prog 45 #[lv] w (StraightPost l w) := by
  obtain ⟨ad, cap, rfl⟩ : ∃ ad cap, lv = .slice ad l.length cap := by
    obtain ⟨a, c, _, _, rfl, _⟩ := hi
    exact ⟨a, c, by rw [ints_length]⟩
  have Hi := Lib.hid hi; have Hv := Lib.hid hv
  have hmm := @run_makeMap Try.prog
  have hm0 := World.ownsMap_made (H := Unit) (P := Try.prog) (k := 3) w (plainElem Try.prog 3)
  have hb0 := below1 w (.map #[] 0)
  have hs0 : w.heap.size < (w.alloc (.map #[] 0)).heap.size := by rw [World.size_alloc]; omega
  have Hb0 := Lib.hid hb0
  clear hi hv hb0
  go_enter Try.func45, Try.ntmps45
  go_wp2
  have HM0 := Lib.hid hm0
  clear hmm hm0
  obtain ⟨i3, hi3, hz3, hsz3, hby3⟩ := info_parts info3
  generalize w.alloc (.map #[] 0) = w1 at *
  go_loopg [3, 14] l.length (fun g s3 s14 wr => ∃ (k n : Nat) (o : List Nat) (D : DataW Unit), k ≤ l.length ∧ g = l.length - k ∧ n ≤ k ∧ o.length ≤ k ∧ s14 = .int .i64 (k : Int) ∧ wr.ownsRow (w.heap.size + 1) 3 1 s3 o.length ((ints o).map (Value.int .i64)) ∧ StrOk l k o ∧ wr.ownsMap Try.prog 3 (plainElem Try.prog 3) w.heap.size n D ∧ Idx D o ∧ Below w.heap.size w wr)
  case atStart => exact ⟨0, 0, [], _, Nat.zero_le _, rfl, Nat.le_refl _, Nat.le_refl _, rfl, World.ownsRow_nil _ _ _ _, StrOk.start l, HM0.out, Idx.start, Hb0.out⟩
  case round =>
    obtain ⟨k, n, o, D, hk, rfl, hn, hol, rfl, hown, hstr, hmap, hidx, hb⟩ := hrel
    have Hown := Lib.hid hown; have Hstr := Lib.hid hstr; have Hmap := Lib.hid hmap; have Hidx := Lib.hid hidx; have Hb := Lib.hid hb
    obtain ⟨a0, c0, rfl⟩ := ownsRow_form hown
    by_cases hlt : k < l.length
    · obtain ⟨lb, lo, rfl, cl⟩ := ints_at' Hi.out hb hlt
      have hvk := Hv.out k hlt
      have hbs := hmap.lt
      generalize hvv : l.getD k 0 = v at *
      have Hvv := Lib.hid hvv
      have wfv : (Lit.int .i64 ((v : Nat) : Int)).wf = true := WalkArith.wf_i64 (by omega)
      by_cases hin : ∃ j, j < o.length ∧ o.getD j 0 = v
      · obtain ⟨j, hj, hoj⟩ := hin
        have hhas : Maps.has D (.int .i64 ((v : Nat) : Int)) = true := (hidx.has v).2 ⟨j, hj, hoj⟩
        have hat := hidx.at_ j hj
        rw [hoj] at hat
        have Hat := Lib.hid hat; have Hoj := Lib.hid hoj
        obtain ⟨g, rfl⟩ : ∃ g, a0 = some ⟨g, 0, none⟩ := by
          rcases hown.2 with ⟨h0, _⟩ | ⟨g, _, _, h0, _⟩
          · simp only [Value.slice.injEq] at h0
            omega
          · simp only [Value.slice.injEq] at h0
            exact ⟨g, h0.1⟩
        have hcap : o.length ≤ c0 ∧ c0 ≤ 9223372036854775807 := by
          obtain ⟨h1, h2, -⟩ := ownsRow_cap hown
          exact ⟨h1, h2⟩
        obtain ⟨a', hrun, ha'⟩ := run_slice_lo (P := Try.prog) Try.underlying25 hi3 hsz3 g o.length c0 (j + 1) (by omega) hcap.1 wr
        have e1 : ((j + 1 : Nat) : Int) = (j : Int) + 1 := by omega
        rw [e1] at hrun
        have Hrun := Lib.hid hrun; have Ha' := Lib.hid ha'; have Hcap := Lib.hid hcap
        clear hown hstr hmap hidx hb hvv hoj hat hrun ha' e1 hcap
        go_upto_region 7 with (at_lookup; refine wpList_lookup_own_ok_int _ rfl _ _ 82 rfl 3 3 .i64 intKeyed Try.underlying82 Try.underlying3 (zero_run _) w.heap.size n D rfl Hmap.out _ _ rfl (keyOf_int_mk Try.underlying3 wfv) ?_; intro c hat hwc; rw [Hat.out] at hat; simp only [DataW.lit.injEq, Lit.int.injEq, true_and] at hat; subst hat; clear hwc)
        have hrun := Hrun.out
        go_wp2
        clear hrun
        obtain ⟨w2, rfl⟩ : ∃ w2 : World, w2 = wr := ⟨_, rfl⟩
        generalize hT : o.length - (j + 1) = T at *
        go_loopg [30] T (fun gg s30 wx => ∃ (q : Nat) (D' : DataW Unit), q ≤ T ∧ gg = T - q ∧ s30 = .int .i64 (q : Int) ∧ IdxI D' o j q ∧ wx.ownsMap Try.prog 3 (plainElem Try.prog 3) w.heap.size n D' ∧ wx.ownsRow (w.heap.size + 1) 3 1 (.slice (some ⟨g, 0, none⟩) o.length c0) o.length ((ints o).map (Value.int .i64)) ∧ Below w.heap.size w wx)
        case atStart => exact ⟨0, D, Nat.zero_le _, rfl, rfl, Hidx.out.cut j, Hmap.out, Hown.out, Hb.out⟩
        case round =>
          obtain ⟨q, D', hq, rfl, rfl, hidx', hmap', hown', hb'⟩ := hrel
          have Hidx' := Lib.hid hidx'; have Hmap' := Lib.hid hmap'; have Hown' := Lib.hid hown'; have Hb' := Lib.hid hb'
          by_cases hqT : q < T
          · obtain rfl := Ha'.out (by omega)
            have hx : j + q + 1 < o.length := by omega
            have ce : wr.cell? ⟨g, j + 1 + q, none⟩ = some (.int .i64 ((o.getD (j + q + 1) 0 : Nat) : Int)) := by
              rw [World.ownsRow.cellAt hown' (j + 1 + q) (by omega), show j + 1 + q = j + q + 1 by omega]
              simp [ints, List.getD, hx]
            have hmem : ∃ i, i < l.length ∧ l.getD i 0 = o.getD (j + q + 1) 0 := by
              obtain ⟨i, h1, -, h3⟩ := Hstr.out.pair (j + q) hx
              exact ⟨i + 1, by omega, h3⟩
            obtain ⟨i, hi1, hi2⟩ := hmem
            have hval := Hv.out i hi1
            rw [hi2] at hval
            generalize hzz : o.getD (j + q + 1) 0 = z at *
            have Hzz := Lib.hid hzz
            have wfz : (Lit.int .i64 ((z : Nat) : Int)).wf = true := WalkArith.wf_i64 (by omega)
            clear hidx' hmap' hown' hb' hzz hi2
            go_wp2_with (at_delete; refine wpList_delete_own _ rfl _ _ 82 3 rfl 3 intKeyed Try.underlying82 _ w.heap.size n D' rfl Hmap'.out _ _ rfl (keyOf_int_mk Try.underlying3 wfz) ?_; intro w3 hmap3 hturn3; have Hmap3 := Lib.hid hmap3; have Hturn3 := Lib.hid hturn3.grown; clear hmap3 hturn3)
            go_roundg (T - (q + 1))
            case measure => go_light; omega
            case rel => exact ⟨q + 1, _, by omega, rfl, by go_num, by
              have := Hidx'.out.del Hstr.out.dif hx
              rwa [Hzz.out] at this, Hmap3.out, Hown'.out.kept Hturn3.out (Or.inr (fun e2 => by have := (Hown'.out.lt w.heap.size e2).1; omega)), Hb'.out.grown Hturn3.out Hb'.out.size (fun g e => by cases e; exact Nat.le_refl _)⟩
          · obtain rfl : T = q := by omega
            have Hdone := Lib.hid (hidx'.done (by omega))
            have hhi := run_slice_hi (P := Try.prog) Try.underlying25 hi3 (some ⟨g, 0, none⟩) o.length c0 (j + 1) (by have := Hcap.out.1; omega) wr
            have e1 : ((j + 1 : Nat) : Int) = (j : Int) + 1 := by omega
            rw [e1] at hhi
            have hlen : (o.take (j + 1)).length = j + 1 := by rw [List.length_take]; omega
            have Hlen := Lib.hid hlen
            clear hidx' hmap' hown' hb' e1 hlen
            go_wp2
            go_roundg (l.length - (k + 1))
            case measure => go_light; omega
            case rel => exact ⟨k + 1, n, o.take (j + 1), D', by omega, rfl, by omega, by rw [Hlen.out]; omega, by go_num, by
              rw [Hlen.out, ints_take, List.map_take]
              exact ownsRow_head Hown'.out (by omega), Hstr.out.cut hj (by rw [Hoj.out, Hvv.out]), Hmap'.out, Hdone.out, Hb'.out⟩
      · have hno : Maps.has D (.int .i64 ((v : Nat) : Int)) = false := by
          cases e : Maps.has D (.int .i64 ((v : Nat) : Int)) with
          | false => rfl
          | true => exact absurd ((hidx.has v).1 e) hin
        have Hnew := Lib.hid (fun i (hi : i < o.length) (e : o.getD i 0 = v) => hin ⟨i, hi, e⟩)
        have hnl : n < maxLen := by unfold maxLen; omega
        clear hown hstr hmap hidx hvv hin
        go_wp2_with (first
          | (at_lookup; refine wpList_lookup_own_ok_int _ rfl _ _ 82 rfl 3 3 .i64 intKeyed Try.underlying82 Try.underlying3 (zero_run _) w.heap.size n D rfl Hmap.out _ _ rfl (keyOf_int_mk Try.underlying3 wfv) ?_; intro c hat hwc)
          | (at_mapUpdate; refine wpList_mapUpdate_own _ rfl _ _ _ 82 rfl 3 3 intKeyed Try.underlying82 _ w.heap.size n D rfl Hmap.out hnl _ _ _ rfl rfl (keyOf_int_mk Try.underlying3 wfv) _ [] (plainElem_int Try.underlying3 (WalkArith.wf_i64 (by omega))) ?_; intro w2 hmap2 hg2; have Hmap2 := Lib.hid hmap2; have Hg2 := Lib.hid hg2; have hsz2 := hg2.size; clear hmap2 hg2)
          | (at_builtin; refine wpList_append_has rfl (.tmp 45) (.tmp 47) 25 rfl (w.heap.size + 1) 3 (.int .i64 0) 8 Try.underlying25 info3 rfl _ o.length ((ints o).map (Value.int .i64)) rfl ((Hown.out.kept Hg2.out (by
              cases e : (Value.slice a0 o.length c0).ownBlock with
              | none => exact Or.inl rfl
              | some g => exact Or.inr (fun e2 => by have := (Hown.out.lt g e).1; cases e2; omega))).alloc _) _ 1 [.int .i64 (v : Int)] rfl (HasCells.one _ _ _ rfl) (by omega) (by omega) (by rw [World.size_alloc]; omega) ?_; intro a3 c3 w3 hown3 hg3; have Hown3 := Lib.hid hown3; have Hg3 := Lib.hid hg3; clear hown3 hg3))
        go_roundg (l.length - (k + 1))
        case measure => go_light; omega
        case rel => exact ⟨k + 1, n + 1, o ++ [v], _, by omega, rfl, by omega, by rw [List.length_append, List.length_singleton]; omega, by go_num, by
          rw [List.length_append, ints_snoc, List.map_append]
          exact Hown3.out, by
          have := Hstr.out.app (fun i hi => by rw [Hvv.out]; exact Hnew.out i hi)
          rwa [Hvv.out] at this, (Hmap2.out.alloc _).kept Hg3.out (fun e2 => by have := (Hown.out.lt w.heap.size e2.symm).1; omega), Hidx.out.put Hmap.out.isMap (intKeyed.key (keyOf_int_mk Try.underlying3 wfv)) Hnew.out, by
          have h1 := Hb.out.grown Hg2.out (by omega) (fun g e => by cases e; exact Nat.le_refl _)
          exact (h1.alloc h1.size (Obj.cells #[Value.int .i64 (v : Int)] 3)).grown Hg3.out (by rw [World.size_alloc]; omega) (fun g e => by have := (Hown.out.lt g e).1; omega)⟩
    · obtain rfl : l.length = k := by omega
      clear hown hstr hmap hidx hb
      go_wp2
      exact bodyPost_ret (v := .slice a0 o.length c0) (by simp [results, Try.results45, go_sem]) rfl ⟨_, o, rfl, Hstr.out, ownsRow_low Hown.out (by omega), Hb.out⟩

end Go.Proofs.Ytbnbhjeknocboaa
