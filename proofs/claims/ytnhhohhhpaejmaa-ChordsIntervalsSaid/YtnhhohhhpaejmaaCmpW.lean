/- slices.Compare at integers; slices.SortFunc over rows of integers of one's own. -/
import Derived.Test.YtnhhohhhpaejmaaPE
import Derived.Test.YtnhhohhhpaejmaaPD
import Derived.Test.YtnhhohhhpaejmaaShelf
import Derived.Deep.LoopGhost
import Derived.Deep.Light
namespace Go.Proofs.Ytnhhohhhpaejmaa
open Go Go.RowKit Go.Sort

set_option maxHeartbeats 1600000 in
set_option maxRecDepth 100000 in
theorem scmp_any {lv mv : Value} {L M : List Int} (w : World) (hl : IsInts w lv L) (hm : IsInts w mv M) :
    Calls Try.prog 47 #[lv, mv] w fun e w' => e = .returned (.int .i64 (cmpI L M)) ∧ w' = w := by
  obtain ⟨la, lc, lb, lo, rfl, l2, l3, l4, l5, l6⟩ := hl
  obtain ⟨ma, mc, mb, mo, rfl, m2, m3, m4, m5, m6⟩ := hm
  have HR := Lib.hid (show cmpI (L.drop 0) (M.drop 0) = cmpI L M from rfl)
  have L4 := Lib.hid l4; have L6 := Lib.hid l6; have M4 := Lib.hid m4; have M6 := Lib.hid m6
  generalize cmpI L M = r at *
  clear l4 l5 l6 m4 m5 m6
  go_enter Try.func47, Try.ntmps47
  go_wp2
  go_loopg [11] L.length (fun g s11 wr => ∃ k : Nat, k ≤ L.length ∧ k ≤ M.length ∧ g = L.length - k ∧ s11 = .int .i64 (k : Int) ∧ w = wr ∧ cmpI (L.drop k) (M.drop k) = r)
  case atStart => exact ⟨0, Nat.zero_le _, Nat.zero_le _, rfl, rfl, rfl, HR.out⟩
  case round =>
    obtain ⟨k, hk, hkm, rfl, rfl, rfl, hc⟩ := hrel
    have Hc := Lib.hid hc
    clear hc
    by_cases h1 : k < L.length
    · obtain rfl := L4.out (by omega)
      have c1 := L6.out k h1
      by_cases h2 : k < M.length
      · obtain rfl := M4.out (by omega)
        have c2 := M6.out k h2
        have He := Lib.hid (cmpI_at h1 h2)
        generalize L.getD k 0 = x at *
        generalize M.getD k 0 = y at *
        by_cases h3 : Lib.compareInt x y = 0
        · have He2 := Lib.hid (He.out.trans (if_pos h3))
          have q : (Lib.compareInt x y != 0) = false := by simp [h3]
          have q2 : (Lib.compareInt x y == 0) = true := by simp [h3]
          clear h3
          go_wp2_with (go_at_call 65; refine (Try.cmp_Compare_int x y _).mono ?_; rintro e w' ⟨rfl, hww⟩; rw [hww]; clear hww)
          go_roundg (L.length - (k + 1))
          case measure => go_light; omega
          case rel => exact ⟨k + 1, by omega, by omega, rfl, by go_num, rfl, He2.out.symm.trans Hc.out⟩
        · have He2 := Lib.hid (He.out.trans (if_neg h3))
          have q : (Lib.compareInt x y != 0) = true := by simp [h3]
          have q2 : (Lib.compareInt x y == 0) = false := by simp [h3]
          clear h3
          go_wp2_with (go_at_call 65; refine (Try.cmp_Compare_int x y _).mono ?_; rintro e w' ⟨rfl, hww⟩; rw [hww]; clear hww)
          go_ret
          exact ⟨ret_int (He2.out.symm.trans Hc.out), rfl⟩
      · have He := Lib.hid (cmpI_long (M := M) h1 (by omega))
        go_wp2
        go_ret
        exact ⟨ret_int (He.out.symm.trans Hc.out), rfl⟩
    · obtain hk2 : L.length = k := by omega
      have He := Lib.hid (cmpI_end hk2 hkm)
      by_cases h2 : k < M.length
      · have He2 := Lib.hid (He.out.trans (if_pos h2))
        go_wp2
        go_ret
        exact ⟨ret_int (He2.out.symm.trans Hc.out), rfl⟩
      · have He2 := Lib.hid (He.out.trans (if_neg h2))
        go_wp2
        go_ret
        exact ⟨ret_int (He2.out.symm.trans Hc.out), rfl⟩

set_option maxHeartbeats 1600000 in
set_option maxRecDepth 100000 in
/-- slices.SortFunc with slices.Compare, over rows of one's own. -/
theorem sortL_any {w : World} {S : Nat} {v : Value} {L : List (List Nat)} (h : IRow w S v (L.map ints)) (hl : L.length ≤ 17000000) :
    Calls Try.prog 60 #[v, .func (.func 47) #[] #[]] w fun e w' => e = .returned (.tuple #[]) ∧
      ∃ L' : List (List Nat), IRow w' S v (L'.map ints) ∧ w.grownBy w' v.ownBlock ∧ L'.Perm L ∧ L'.Pairwise fun a b => ¬ LstLt b a := by
  obtain ⟨vals, h1, h2⟩ := h
  rw [List.length_map] at h1 h2
  rcases h1.2 with ⟨rfl, h0⟩ | ⟨g, cap, cur, rfl, hb, hgg, h3, h4, h5, h6⟩
  · obtain rfl : L = [] := List.eq_nil_of_length_eq_zero h0
    refine (Try.slices_SortFunc_none_f60 (α := Nat) none 0 _ w).mono ?_
    rintro e w' ⟨rfl, rfl⟩
    exact ⟨rfl, [], ⟨vals, h1, h2⟩, World.grownBy.refl _ _, List.Perm.refl _, List.Pairwise.nil⟩
  · by_cases hz : L.length = 0
    · obtain rfl : L = [] := List.eq_nil_of_length_eq_zero hz
      refine (Try.slices_SortFunc_none_f60 (α := Nat) (some ⟨g, 0, none⟩) cap _ w).mono ?_
      rintro e w' ⟨rfl, rfl⟩
      exact ⟨rfl, [], ⟨vals, h1, h2⟩, World.grownBy.refl _ _, List.Perm.refl _, List.Pairwise.nil⟩
    have hn : 0 < L.length := by omega
    have hlv : vals.length = L.length := by have := h1.1; omega
    generalize hN : L.length = n at *
    have hg : g < w.heap.size := (Array.getElem?_eq_some_iff.1 hgg).1
    let cl : Nat → Nat := fun j => if j < n then j else 0
    have hcl : ∀ j, cl j < n := fun j => by show (if j < n then j else 0) < n; split <;> omega
    have hcj : ∀ j, j < n → cl j = j := fun j hj => if_pos hj
    let enc : Nat → Value := fun j => vals.getD (cl j) default
    let hd : Nat → List Nat := fun j => L.getD (cl j) []
    let cf : Nat → Nat → Int := fun a b => cmpN (hd a) (hd b)
    have hvj : ∀ j, j < n → vals[j]? = some (vals.getD j default) := fun j hj => by rw [List.getD, List.getElem?_eq_getElem (by omega)]; rfl
    have hsl : ∀ j, w.ownsRow S 3 1 (enc j) (hd j).length (nvals (hd j)) ∧ ∃ aj cj, enc j = .slice aj (hd j).length cj := fun j => by
      obtain ⟨r, e, ho⟩ := h2 (cl j) (hcl j)
      have e2 : enc j = r := by
        have := hvj (cl j) (hcl j)
        rw [e] at this
        exact (Option.some.inj this).symm
      rw [getD_ints] at ho
      rw [ints_length] at ho
      rw [e2]
      exact ⟨ho, ownsRow_form ho⟩
    have eg : ∀ args w, (callFunc 47 args).run Try.prog w = .ok (.enter 47 args) w := enters_of Try.func47 (by kernel_rfl) rfl
    have hO : SWO (ltOf cf) := ⟨fun x => cmpN_swo.irrefl (hd x), fun x y z => cmpN_swo.trans (hd x) (hd y) (hd z), fun x y z => cmpN_swo.ntrans (hd x) (hd y) (hd z)⟩
    have hH : Holds enc w g 0 (Array.range n) := fun j hj => by
      have hj' : j < n := by simpa using hj
      refine ⟨?_, by simp [World.frozen?, hgg]⟩
      have k := h1.cells (g := g) rfl _ _ (hvj j hj')
      rw [Addr.add_lit] at k
      rw [k]
      have : (Array.range n)[j]! = j := by simp [hj']
      rw [this]
      show some (vals.getD j default) = some (vals.getD (cl j) default)
      rw [hcj j hj']
    have hofar : ∀ {w' : World} (x : Nat), w.grownBy w' (some g) → w'.ownsRow S 3 1 (enc x) (hd x).length (nvals (hd x)) := fun {w'} x hgr => by
      obtain ⟨ox, -⟩ := hsl x
      refine ownsRow_typed ox hgr fun q e => ?_
      obtain rfl := Option.some.inj e
      exact ⟨cur, 29, _, hgg, by decide⟩
    have hcmp : CmpLays1 Try.prog 47 #[] enc cf g 0 (Array.range n).size w := fun m os dk _ x y => by
      have hgr := grownBy_sorted1 (w := w) (g := g) (n := m) (os := os) enc dk
      exact (scmp_any (sortWorld enc w g 0 m dk os) (IsInts.owned (hofar x hgr)) (IsInts.owned (hofar y hgr))).mono fun e w' ⟨h1, h2⟩ => ⟨h1, 0, #[], by rw [h2, grow_empty]; rfl⟩
    have hcon := Try.slices_SortFunc_f60 enc (fun x => by obtain ⟨-, ax, cx, ex⟩ := hsl x; rw [ex]; rfl) cf hO 47 #[] g 0 cap (Array.range n) w eg hcmp hH hg (by simp; omega)
    rw [Array.size_range] at hcon
    refine hcon.mono ?_
    rintro e w' ⟨rfl, d', k, os, hp, hs, rfl⟩
    obtain ⟨p1, -, p3⟩ := hp
    have hsz : d'.size = n := by rw [p1]; simp
    have hperm : d'.toList.Perm (List.range n) := by
      have e1 : d'.extract 0 n = d' := by rw [← hsz]; simp
      have e2 : (Array.range n).extract 0 n = Array.range n := by
        conv => lhs; rw [show n = (Array.range n).size by simp]
        simp
      rw [e1, e2] at p3
      rwa [Array.toList_range] at p3
    have hmem : ∀ j ∈ d'.toList, j < n := fun j hj => by have := (hperm.mem_iff).1 hj; exact List.mem_range.1 this
    have hLr : L = (List.range n).map fun j => L.getD j [] := by
      apply List.ext_getElem?
      intro i
      by_cases hi : i < n
      · rw [List.getElem?_map, List.getElem?_range hi, Option.map_some, List.getD, List.getElem?_eq_getElem (by omega)]; rfl
      · rw [List.getElem?_eq_none (by omega), List.getElem?_eq_none (by simp; omega)]
    have hgr := grownBy_sorted1 (w := w) (g := g) (n := k) (os := os) enc d'
    refine ⟨rfl, d'.toList.map fun j => L.getD j [], ⟨d'.toList.map enc, ?_, fun i hi => ?_⟩, hgr, ?_, ?_⟩
    · have hl2 : ((d'.toList.map fun j => L.getD j []).map ints).length = n := by simp [hsz]
      rw [hl2]
      refine ⟨by simp [hsz], Or.inr ⟨g, cap, _, rfl, hb, heap_sorted1 enc d' hgg, h3, h4, by simp [putCells, h5], ?_⟩⟩
      apply List.ext_getElem?
      intro i
      by_cases hi : i < n
      · rw [List.getElem?_take_of_lt (by omega), Array.getElem?_toList]
        have : i < cur.size := by omega
        simp [putCells, hsz, hi, this]
      · rw [List.getElem?_take_eq_none (by omega), List.getElem?_eq_none (by simp [hsz]; omega)]
    · have hi' : i < d'.toList.length := by simpa using hi
      have hdi := hmem _ (List.getElem_mem hi')
      generalize hq : d'.toList[i] = q at hdi
      have ho := hofar q hgr
      have ehd : hd q = L.getD q [] := by show L.getD (cl q) [] = _; rw [hcj q hdi]
      rw [ehd] at ho
      have e2 : ((d'.toList.map fun j => L.getD j []).map ints).getD i [] = ints (L.getD q []) := by
        rw [getD_ints, List.getD, List.getElem?_map, List.getElem?_eq_getElem hi', hq]; rfl
      refine ⟨enc q, ?_, ?_⟩
      · rw [List.getElem?_map, List.getElem?_eq_getElem hi', hq, Option.map_some]
      · rw [e2, ints_length]; exact ho
    · conv => rhs; rw [hLr]
      exact hperm.map _
    · rw [List.pairwise_map, List.pairwise_iff_getElem]
      intro i j hi hj hij
      have hi' : i < n := by rw [← hsz]; simpa using hi
      have hj' : j < n := by rw [← hsz]; simpa using hj
      have h9 := hs i j (Nat.zero_le _) hij (by simpa using hj')
      have h10 : ltOf cmpN (hd d'[j]!) (hd d'[i]!) = false := h9
      rw [ltOf_cmpN] at h10
      have h11 := of_decide_eq_false h10
      have ei : d'[i]! = d'.toList[i] := by rw [getElem!_pos d' i (by omega)]; simp
      have ej : d'[j]! = d'.toList[j] := by rw [getElem!_pos d' j (by omega)]; simp
      have ci := hcj _ (hmem _ (List.getElem_mem hi))
      have cj := hcj _ (hmem _ (List.getElem_mem hj))
      have : hd d'[i]! = L.getD d'.toList[i] [] := by rw [ei]; show L.getD (cl _) [] = _; rw [ci]
      rw [this] at h11
      have : hd d'[j]! = L.getD d'.toList[j] [] := by rw [ej]; show L.getD (cl _) [] = _; rw [cj]
      rw [this] at h11
      exact h11

end Go.Proofs.Ytnhhohhhpaejmaa
