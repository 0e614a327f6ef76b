/- Blocks of edges, put in order by their first edge: the comparison of parts.blocks, and the library's sort over them. -/
import Derived.Test.YtnhhohhhpaejmaaDoorOrder
import Derived.Test.YtnhhohhhpaejmaaDoorPU
import Derived.Test.YtnhhohhhpaejmaaDoorSrtS
import Derived.Shelf.SlSortCmp.Whole1
namespace Go.Proofs.YtnhhohhhpaejmaaDoor
open Go.RowKit Go.Sort

set_option maxHeartbeats 1600000 in
set_option maxRecDepth 100000 in
theorem bord_any {g1 n1 c1 g2 n2 c2 : Nat} {x y u v : Int} (hn1 : 0 < n1) (hn2 : 0 < n2) (W : World) (e0 : W.cell? ⟨g1, 0, none⟩ = some (.int .i64 x)) (e1 : W.cell? ⟨g1, 1, none⟩ = some (.int .i64 y)) (e2 : W.cell? ⟨g2, 0, none⟩ = some (.int .i64 u)) (e3 : W.cell? ⟨g2, 1, none⟩ = some (.int .i64 v)) :
    Calls Tryd.prog 59 #[.slice (some ⟨g1, 0, none⟩) n1 c1, .slice (some ⟨g2, 0, none⟩) n2 c2] W fun e w' => e = .returned (.int .i64 (cmpE (x, y) (u, v))) ∧ ∃ q os', w' = grow (W.drewN q) os' := by
  have hcon := fun a b W' => Tryd.cmp_Compare_int a b W'
  change ∀ a b W', Calls Tryd.prog 61 _ _ _ at hcon
  unfold cmpE
  simp only
  have h1 := fun W' => hcon x u W'
  have h2 := fun W' => hcon y v W'
  clear hcon
  generalize Lib.compareInt x u = r1 at h1 ⊢
  generalize Lib.compareInt y v = r2 at h2 ⊢
  generalize hr : (if r1 = 0 then r2 else r1) = r
  have HR := Lib.hid hr
  have hi1 : (0 : Int) < (n1 : Int) := by omega
  have hi2 : (0 : Int) < (n2 : Int) := by omega
  clear hr
  go_enter Tryd.func59, Tryd.ntmps59
  go_upto_region 1 with fail
  refine region_tail 18 (by kernel_rfl) (by kernel_rfl) ?_
  simp only [List.take_succ_cons, List.take_zero, List.drop_succ_cons, List.drop_zero]
  repeat still_step
  still_call (h1 _)
  repeat still_step
  still_call (h2 _)
  repeat still_step
  refine wpStill_nil ?_
  go_wp2_with (go_at_call 60; refine (or_two HR.out _ _ (by go_simp) (by go_simp)).mono ?_; rintro e w2 ⟨rfl, rfl⟩)
  go_ret
  exact ⟨rfl, 1, _, by simp only [alloc_eq_grow, grow_grow]; rfl⟩

/-- A block's first edge. -/
abbrev hdE (l : List (Int × Int)) : Int × Int := l.headD (0, 0)

/-- slices.SortFunc over blocks of the call's own. -/
theorem sortB_any {w : World} {S : Nat} {v : Value} {L : List (List (Int × Int))} (h : Blks w S (.slice none 0 0) v L) (hne : ∀ m ∈ L, m ≠ []) (hl : L.length ≤ 1000) :
    Calls Tryd.prog 58 #[v, .func (.func 59) #[] #[]] w fun e w' => e = .returned (.tuple #[]) ∧
      ∃ L', Blks w' S (.slice none 0 0) v L' ∧ w.grownBy w' v.ownBlock ∧ L'.Perm L ∧ L'.Pairwise fun a b => ¬ LexLt (hdE b) (hdE a) := by
  obtain ⟨vals, h1, h2⟩ := h
  rcases h1.2 with ⟨rfl, h0⟩ | ⟨g, cap, cur, rfl, hb, hgg, h3, h4, h5, h6⟩
  · obtain rfl : L = [] := List.eq_nil_of_length_eq_zero h0
    refine (Tryd.slices_SortFunc_none_f58 (α := Nat) none 0 _ w).mono ?_
    rintro e w' ⟨rfl, rfl⟩
    exact ⟨rfl, [], ⟨vals, h1, h2⟩, World.grownBy.refl _ _, List.Perm.refl _, List.Pairwise.nil⟩
  · by_cases hz : L.length = 0
    · obtain rfl : L = [] := List.eq_nil_of_length_eq_zero hz
      refine (Tryd.slices_SortFunc_none_f58 (α := Nat) (some ⟨g, 0, none⟩) cap _ w).mono ?_
      rintro e w' ⟨rfl, rfl⟩
      exact ⟨rfl, [], ⟨vals, h1, h2⟩, World.grownBy.refl _ _, List.Perm.refl _, List.Pairwise.nil⟩
    have hn : 0 < L.length := by omega
    have hlv : vals.length = L.length := by have := h1.1; omega
    generalize hN : L.length = n at *
    have hg : g < w.heap.size := (Array.getElem?_eq_some_iff.1 hgg).1
    let cl : Nat → Nat := fun j => if j < n then j else 0
    have hcl : ∀ j, cl j < n := fun j => by show (if j < n then j else 0) < n; split <;> omega
    have hcj : ∀ j, j < n → cl j = j := fun j hj => if_pos hj
    let enc : Nat → Value := fun j => vals.getD (cl j) default
    let hd : Nat → Int × Int := fun j => hdE (L.getD (cl j) [])
    let cf : Nat → Nat → Int := fun a b => cmpE (hd a) (hd b)
    have hvj : ∀ j, j < n → vals[j]? = some (vals.getD j default) := fun j hj => by rw [List.getD, List.getElem?_eq_getElem (by omega)]; rfl
    have hsl : ∀ j, ∃ gj cj, enc j = .slice (some ⟨gj, 0, none⟩) (L.getD (cl j) []).length cj ∧ 0 < (L.getD (cl j) []).length ∧ gj ≠ g ∧ gj < w.heap.size ∧ w.cell? ⟨gj, 0, none⟩ = some (.int .i64 (hd j).1) ∧ w.cell? ⟨gj, 1, none⟩ = some (.int .i64 (hd j).2) := fun j => by
      obtain ⟨r, e, ho, -⟩ := h2 (cl j) (hcl j)
      have e2 : enc j = r := by
        have := hvj (cl j) (hcl j)
        rw [e] at this
        exact (Option.some.inj this).symm
      have hlen : 0 < (L.getD (cl j) []).length := by
        refine List.length_pos_iff.2 (hne _ ?_)
        rw [List.getD, List.getElem?_eq_getElem (by rw [hN]; exact hcl j)]
        exact List.getElem_mem _
      obtain ⟨gj, cj, rfl, -⟩ := ho.block hlen
      have ho0 : w.ownsRow S 39 2 (.slice (some ⟨gj, 0, none⟩) (L.getD (cl j) []).length cj) (L.getD (cl j) []).length (cells2 (L.getD (cl j) [])) := ho
      obtain ⟨c, fz, hc⟩ := ownsRow_type ho0 gj rfl
      obtain ⟨q1, q2⟩ := cells2_get (L.getD (cl j) []) 0 hlen
      have k1 := ho0.cells (g := gj) rfl _ _ q1
      have k2 := ho0.cells (g := gj) rfl _ _ q2
      rw [Addr.add_lit] at k1 k2
      have e3 : (L.getD (cl j) []).getD 0 (0, 0) = hd j := by
        show _ = List.headD _ _
        cases L.getD (cl j) [] <;> rfl
      rw [e3] at k1 k2
      refine ⟨gj, cj, e2, hlen, fun e4 => ?_, (ho0.lt gj rfl).2, k1, k2⟩
      subst e4
      rw [hgg] at hc
      simp only [Option.some.injEq, Obj.cells.injEq] at hc
      exact absurd hc.2.1 (by decide)
    have eg : ∀ args w, (callFunc 59 args).run Tryd.prog w = .ok (.enter 59 args) w := enters_of Tryd.func59 (by kernel_rfl) rfl
    have hO : SWO (ltOf cf) := ⟨fun x => cmpE_swo.irrefl (hd x), fun x y z => cmpE_swo.trans (hd x) (hd y) (hd z), fun x y z => cmpE_swo.ntrans (hd x) (hd y) (hd z)⟩
    have hH : Holds enc w g 0 (Array.range n) := fun j hj => by
      have hj' : j < n := by simpa using hj
      refine ⟨?_, by simp [World.frozen?, hgg]⟩
      have k := h1.cells (g := g) rfl _ _ (hvj j hj')
      rw [Addr.add_lit] at k
      rw [k]
      have : (Array.range n)[j]! = j := by simp [hj']
      rw [this]
      show some (vals.getD j default) = some (vals.getD (cl j) default)
      rw [hcj j hj']
    have hcmp : CmpLays1 Tryd.prog 59 #[] enc cf g 0 (Array.range n).size w := fun m os dk _ x y => by
      obtain ⟨gx, cx, ex, hx, hxg, hxs, x0, x1⟩ := hsl x
      obtain ⟨gy, cy, ey, hy, hyg, hys, y0, y1⟩ := hsl y
      have hgr := grownBy_sorted1 (w := w) (g := g) (n := m) (os := os) enc dk
      have bx := hgr.block gx hxs (fun e => hxg (Option.some.inj e))
      have bY := hgr.block gy hys (fun e => hyg (Option.some.inj e))
      have tr : ∀ (q i : Nat) (u : Value), (sortWorld enc w g 0 m dk os).heap[q]? = w.heap[q]? → w.cell? ⟨q, i, none⟩ = some u → (sortWorld enc w g 0 m dk os).cell? ⟨q, i, none⟩ = some u := fun q i u e1 e2 => by rw [← e2]; unfold World.cell?; rw [e1]
      have := bord_any (c1 := cx) (c2 := cy) hx hy (sortWorld enc w g 0 m dk os) (tr _ _ _ bx x0) (tr _ _ _ bx x1) (tr _ _ _ bY y0) (tr _ _ _ bY y1)
      rw [ex, ey]
      exact this
    have hcon := Tryd.slices_SortFunc_f58 enc (fun x => by obtain ⟨gx, cx, ex, -⟩ := hsl x; rw [ex]; rfl) cf hO 59 #[] g 0 cap (Array.range n) w eg hcmp hH hg (by simp; omega)
    rw [Array.size_range] at hcon
    refine hcon.mono ?_
    rintro e w' ⟨rfl, d', k, os, hp, hs, rfl⟩
    obtain ⟨p1, -, p3⟩ := hp
    have hsz : d'.size = n := by rw [p1]; simp
    have hperm : d'.toList.Perm (List.range n) := by
      have e1 : d'.extract 0 n = d' := by rw [← hsz]; simp
      have e2 : (Array.range n).extract 0 n = Array.range n := by
        conv => lhs; rw [show n = (Array.range n).size by simp]
        simp
      rw [e1, e2] at p3
      rwa [Array.toList_range] at p3
    have hmem : ∀ j ∈ d'.toList, j < n := fun j hj => by have := (hperm.mem_iff).1 hj; exact List.mem_range.1 this
    have hLr : L = (List.range n).map fun j => L.getD j [] := by
      apply List.ext_getElem?
      intro i
      by_cases hi : i < n
      · rw [List.getElem?_map, List.getElem?_range hi, Option.map_some, List.getD, List.getElem?_eq_getElem (by omega)]; rfl
      · rw [List.getElem?_eq_none (by omega), List.getElem?_eq_none (by simp; omega)]
    have hgr := grownBy_sorted1 (w := w) (g := g) (n := k) (os := os) enc d'
    refine ⟨rfl, d'.toList.map fun j => L.getD j [], ⟨d'.toList.map enc, ?_, fun i hi => ?_⟩, hgr, ?_, ?_⟩
    · have hl2 : (d'.toList.map fun j => L.getD j []).length = n := by simp [hsz]
      rw [hl2]
      refine ⟨by simp [hsz], Or.inr ⟨g, cap, _, rfl, hb, heap_sorted1 enc d' hgg, h3, h4, by simp [putCells, h5], ?_⟩⟩
      apply List.ext_getElem?
      intro i
      by_cases hi : i < n
      · rw [List.getElem?_take_of_lt (by omega), Array.getElem?_toList]
        have : i < cur.size := by omega
        simp [putCells, hsz, hi, this]
      · rw [List.getElem?_take_eq_none (by omega), List.getElem?_eq_none (by simp [hsz]; omega)]
    · have hi' : i < d'.toList.length := by simpa using hi
      have hdi := hmem _ (List.getElem_mem hi')
      generalize hq : d'.toList[i] = q at hdi
      obtain ⟨r, e, ho, hr⟩ := h2 q hdi
      have ho0 : w.ownsRow S 39 2 r (L.getD q []).length (cells2 (L.getD q [])) := ho
      refine ⟨r, ?_, ?_, hr⟩
      · rw [List.getElem?_map, List.getElem?_eq_getElem hi', hq, Option.map_some]
        show some (vals.getD (cl q) default) = _
        rw [hcj q hdi, ← e, hvj q hdi]
      · have e2 : (d'.toList.map fun j => L.getD j []).getD i [] = L.getD q [] := by
          rw [List.getD, List.getElem?_map, List.getElem?_eq_getElem hi', hq]; rfl
        rw [e2]
        refine ho0.kept hgr ?_
        cases hr2 : r.ownBlock with
        | none => exact Or.inl rfl
        | some q2 =>
          refine Or.inr fun e4 => ?_
          cases e4
          obtain ⟨c, fz, hc⟩ := ownsRow_type ho0 g hr2
          rw [hgg] at hc
          simp only [Option.some.injEq, Obj.cells.injEq] at hc
          exact absurd hc.2.1 (by decide)
    · conv => rhs; rw [hLr]
      exact hperm.map _
    · rw [List.pairwise_map, List.pairwise_iff_getElem]
      intro i j hi hj hij
      have hi' : i < n := by rw [← hsz]; simpa using hi
      have hj' : j < n := by rw [← hsz]; simpa using hj
      have h9 := hs i j (Nat.zero_le _) hij (by simpa using hj')
      have h10 : ltOf cmpE (hd d'[j]!) (hd d'[i]!) = false := h9
      rw [cmpE_lt] at h10
      have h11 := of_decide_eq_false h10
      have ei : d'[i]! = d'.toList[i] := by rw [getElem!_pos d' i (by omega)]; simp
      have ej : d'[j]! = d'.toList[j] := by rw [getElem!_pos d' j (by omega)]; simp
      have ci := hcj _ (hmem _ (List.getElem_mem hi))
      have cj := hcj _ (hmem _ (List.getElem_mem hj))
      have : hd d'[i]! = hdE (L.getD d'.toList[i] []) := by rw [ei]; show hdE (L.getD (cl _) []) = _; rw [ci]
      rw [this] at h11
      have : hd d'[j]! = hdE (L.getD d'.toList[j] []) := by rw [ej]; show hdE (L.getD (cl _) []) = _; rw [cj]
      rw [this] at h11
      exact h11

end Go.Proofs.YtnhhohhhpaejmaaDoor
