/- chords.row: cliques in a row, each node's side by side. -/
import Derived.Test.YtnhhohhhpaejmaaCtnW
import Derived.Test.YtnhhohhhpaejmaaPJ
import Derived.Test.YtnhhohhhpaejmaaBMap
import Derived.Test.YtnhhohhhpaejmaaPK
import Derived.Test.YtnhhohhhpaejmaaCli1W
import Derived.Test.YtnhhohhhpaejmaaPB
import Derived.Test.YtnhhohhhpaejmaaClnW
namespace Go.Proofs.Ytnhhohhhpaejmaa
open Go Go.RowKit

set_option maxRecDepth 100000 in
theorem row_zero (a b : Option Addr) (c d : Nat) (uv sv : Value) (w : World) :
    Calls Try.prog 48 #[.slice a 0 c, .slice b 0 d, uv, sv] w fun e w' => e = .returned (.slice b 0 d) ∧ w' = w := by
  go_enter Try.func48, Try.ntmps48
  go_wp2
  go_ret
  exact ⟨rfl, rfl⟩

/-- What row is given. -/
structure RowPre (w : World) (L : List (List Nat)) (N : Nat) (lv ov sv : Value) (bu : Nat) (q : List Nat) : Prop where
  pos : 0 < L.length
  le : L.length ≤ 16777216
  hN : N ≤ 12
  hN0 : 0 < N
  lt : ∀ k, k < L.length → ∀ v, v ∈ L.getD k [] → v < N
  few : ∀ k, k < L.length → (L.getD k []).length ≤ 1000
  sta : StaI L q
  rows : IsRows w lv (L.map ints)
  ord : IsInts w ov (ints q)
  used : w.rowIs bu 4 L.length (rb fun k => decide (k ∈ q))
  st : IsInts w sv (fnL N (stI L q))
/-- What row answers. -/
def RowPost (L : List (List Nat)) (bu : Nat) (q : List Nat) (w : World) (e : Ending) (w' : World) : Prop :=
  ∃ r, e = .returned r ∧ w.grownBy w' (some bu) ∧
    ((∃ p a c, r = .slice (some a) p.length c ∧ FulI L p ∧ IsInts w' r (ints p)) ∨ (r = .slice none 0 0 ∧ NoI L q ∧ w'.rowIs bu 4 L.length (rb fun k => decide (k ∈ q))))
theorem ints_some {w : World} {v : Value} {q : List Nat} (h : IsInts w v (ints q)) (hp : 0 < q.length) : ∃ a c, v = .slice (some a) q.length c := by
  obtain ⟨a2, c2, b, o, rfl, h1, h2, h3, h4, h5⟩ := h
  have hl : (ints q).length = q.length := by simp [ints]
  exact ⟨⟨b, o, none⟩, c2, by rw [h3 (by omega), hl]⟩
theorem rows_len {w : World} {v : Value} {L : List (List Nat)} (h : IsRows w v (L.map ints)) : ∃ a c, v = .slice a L.length c := by
  obtain ⟨a, c, e, -⟩ := h.formT
  exact ⟨a, c, by rw [e, List.length_map]⟩

set_option maxHeartbeats 6400000 in
set_option maxRecDepth 100000 in
theorem row_full (L : List (List Nat)) (N bu : Nat) (lv ov sv : Value) (q : List Nat) (w : World) (h : RowPre w L N lv ov sv bu q) (hq : q.length = L.length) :
    Calls Try.prog 48 #[lv, ov, .slice (some ⟨bu, 0, none⟩) L.length L.length, sv] w (RowPost L bu q w) := by
  obtain ⟨la, lc, rfl⟩ := rows_len h.rows
  obtain ⟨oa, oc, rfl⟩ := ints_some h.ord (by have := h.pos; omega)
  have Hfin := Lib.hid (show RowPost L bu q w (.returned (.slice (some oa) q.length oc)) w from ⟨_, rfl, World.grownBy.refl _ _, .inl ⟨q, oa, oc, rfl, h.sta.full hq, h.ord⟩⟩)
  have hle := h.le
  rw [hq] at Hfin ⊢
  clear h hq
  generalize L.length = K at *
  go_enter Try.func48, Try.ntmps48
  go_wp2
  go_ret
  exact Hfin.out

theorem FnR.keptB {w w' : World} {B g N c : Nat} {f : Nat → Int} (h : FnR w B g N c f) {b : Nat} (hg : w.grownBy w' (some b)) (hb : g ≠ b) : FnR w' B g N c f := ⟨h.own.kept hg (.inr (by simpa [Value.ownBlock] using hb))⟩
theorem fn_cells {w : World} {b o N c : Nat} {f : Nat → Int} (h : IsInts w (.slice (some ⟨b, o, none⟩) N c) (fnL N f)) : ∀ j, j < N → w.cell? ⟨b, o + j, none⟩ = some (.int .i64 (f j)) := fun j hj => by
  obtain ⟨b2, o2, e, hc⟩ := h.atT (k := j) (by rw [fnL_len]; exact hj)
  obtain ⟨rfl, rfl⟩ : b = b2 ∧ o = o2 := by simpa using e
  rw [hc, fnL_at hj]
theorem ints_cells {w : World} {a : Option Addr} {n c : Nat} {C : List Nat} (h : IsInts w (.slice a n c) (ints C)) {j : Nat} (hj : j < C.length) : ∃ b o, a = some ⟨b, o, none⟩ ∧ w.cell? ⟨b, o + j, none⟩ = some (.int .i64 (C.getD j 0 : Nat)) := by
  obtain ⟨b, o, e, hc⟩ := h.atT (k := j) (by rw [ints_length]; exact hj)
  exact ⟨b, o, e, by rw [hc, ints_getD]⟩
theorem used_put {w : World} {bu K k : Nat} {q : List Nat} (h : w.rowIs bu 4 K (rb fun j => decide (j ∈ q))) : (w.setCell ⟨bu, k, none⟩ (.bool true)).rowIs bu 4 K (rb fun j => decide (j ∈ q ++ [k])) := by
  refine row_rb (row_set_rb h k true) fun j _ => ?_
  by_cases e : j = k
  · subst e; rw [if_pos rfl, decide_eq_true (by simp)]
  · rw [if_neg e]
    by_cases e2 : j ∈ q
    · rw [decide_eq_true e2, decide_eq_true (List.mem_append_left _ e2)]
    · rw [decide_eq_false e2, decide_eq_false (by simp [e, e2])]
theorem used_back {w : World} {bu K k : Nat} {q : List Nat} (hk : k ∉ q) (h : w.rowIs bu 4 K (rb fun j => decide (j ∈ q ++ [k]))) : (w.setCell ⟨bu, k, none⟩ (.bool false)).rowIs bu 4 K (rb fun j => decide (j ∈ q)) := by
  refine row_rb (row_set_rb h k false) fun j _ => ?_
  by_cases e : j = k
  · subst e; rw [if_pos rfl, decide_eq_false hk]
  · rw [if_neg e]
    by_cases e2 : j ∈ q
    · rw [decide_eq_true e2, decide_eq_true (List.mem_append_left _ e2)]
    · rw [decide_eq_false e2, decide_eq_false (by simp [e, e2])]
theorem grown_of_below' {w w' : World} (h : Below w.heap.size w w') : w.grownBy w' none := ⟨h.os, h.tape, h.output, h.size, fun k hk _ => h.block k hk⟩
theorem left_tb (L : List (List Nat)) (q : List Nat) (m : Nat) (lv : Value) (K bu : Nat) (w : World) (h : IsRows w lv (L.map ints)) (hK : L.length = K) (hu : w.rowIs bu 4 K (rb fun k => decide (k ∈ q))) :
    Calls Try.prog 67 #[lv, .slice (some ⟨bu, 0, none⟩) K K, .int .i64 (m : Int)] w fun e w' => ∃ x, e = .returned (.bool x) ∧ TB x (LfI L q m) ∧ w' = w := by
  refine (left_any (L.map ints) (fun k => decide (k ∈ q)) (m : Int) lv K bu w h (by rw [List.length_map, hK]) hu).mono ?_
  rintro e w' h2
  obtain ⟨⟨x, h3, h4⟩, h5⟩ := h2
  exact ⟨x, h3, h4.trans (left_iff m), h5⟩
theorem newR (w : World) (x : Value) (t : TypeId) : (w.alloc (.cells #[x] t)).cell? ⟨w.heap.size, 0, none⟩ = some x := by rw [World.cell?_alloc_at _ _ _ _ rfl]; rfl
theorem one_cellsR {w : World} {B : Nat} {x : Value} (h : w.cell? ⟨B, 0, none⟩ = some x) : ∀ j u, [x][j]? = some u → w.cell? ((⟨B, 0, none⟩ : Addr).add j) = some u := fun j u hu => by
  have hj : j < 1 := by have := (List.getElem?_eq_some_iff.1 hu).1; simpa using this
  obtain rfl : j = 0 := by omega
  rw [Addr.add_lit, Nat.add_zero, h]
  simpa using hu
theorem upR {a b c : World} (h : Below a.heap.size a b) (k : Below b.heap.size b c) : Below a.heap.size a c := h.trans (k.mono h.size)
theorem BMap.keptB {w w' : World} {b n g : Nat} {I : Nat → Bool} (h : BMap w b n I) (hg : w.grownBy w' (some g)) (hb : b ≠ g) : BMap w' b n I := h.kept (hg.block _ h.lt (fun e => hb (Option.some.inj e)))

set_option maxHeartbeats 6400000 in
set_option maxRecDepth 100000 in
theorem row_step (L : List (List Nat)) (N bu : Nat) (lv ov sv : Value) (q : List Nat) (w : World) (h : RowPre w L N lv ov sv bu q) (hq : q.length ≠ L.length)
    (ih : ∀ (k : Nat) (ov sv : Value) (w : World), k < L.length → k ∉ q → RowPre w L N lv ov sv bu (q ++ [k]) → Calls Try.prog 48 #[lv, ov, .slice (some ⟨bu, 0, none⟩) L.length L.length, sv] w (RowPost L bu (q ++ [k]) w)) :
    Calls Try.prog 48 #[lv, ov, .slice (some ⟨bu, 0, none⟩) L.length L.length, sv] w (RowPost L bu q w) := by
  obtain ⟨la, lc, rfl⟩ := rows_len h.rows
  obtain ⟨oa, oc, rfl⟩ : ∃ a c, ov = .slice a q.length c := by
    obtain ⟨a, c, b, o, e, -⟩ := h.ord
    exact ⟨a, c, by rw [e]; simp [ints]⟩
  obtain ⟨sb, so, sc, rfl⟩ : ∃ b o c, sv = .slice (some ⟨b, o, none⟩) N c := by
    obtain ⟨a, c, b, o, e, h1, h2, h3, -⟩ := h.st
    rw [fnL_len] at e h3
    exact ⟨b, o, c, by rw [e, h3 h.hN0]⟩
  have H := Lib.hid h
  have Hall := Lib.hid (fun (hn : ∀ k, k < L.length → k ∉ q → NoI L (q ++ [k])) => NoI.all hq hn)
  have hle := h.le
  have hqK : (q.length == L.length) = false := by simpa using hq
  have hqI : (((q.length : Nat) : Int) == ((L.length : Nat) : Int)) = false := by simp; omega
  clear h
  obtain ⟨K, hK⟩ : ∃ K, L.length = K := ⟨_, rfl⟩
  have HK := Lib.hid hK
  rw [hK] at hle hqI hq ih ⊢
  have Ih := Lib.hid ih
  clear ih
  clear hK hqK
  have hmm := @run_makeMap Try.prog
  go_enter Try.func48, Try.ntmps48
  go_upto_region 4 with fail
  go_loopg [27] K (fun g s27 wr => ∃ k : Nat, k ≤ K ∧ g = K - k ∧ s27 = .int .i64 (k : Int) ∧ w.grownBy wr (some bu) ∧ wr.rowIs bu 4 K (rb fun k => decide (k ∈ q)) ∧ ∀ j, j < k → j ∉ q → NoI L (q ++ [j]))
  case atStart => exact ⟨0, Nat.zero_le _, rfl, rfl, World.grownBy.refl _ _, by rw [← HK.out]; exact H.out.used, fun j hj => absurd hj (Nat.not_lt_zero _)⟩
  case round =>
    obtain ⟨k, hk, rfl, rfl, hg, hrow, hno⟩ := hrel
    have Hg := Lib.hid hg
    have Hrow := Lib.hid hrow
    have Hno := Lib.hid hno
    clear hg hno
    by_cases hlt : k < K
    · have Hrows := Lib.hid (show IsRows wr (.slice la K lc) (L.map ints) by have h1 := H.out.rows.buK H.out.used Hg.out; rw [HK.out] at h1; exact h1)
      obtain ⟨b', o, r, hla, cx, hr⟩ := Hrows.out.atT (k := k) (by rw [List.length_map, HK.out]; exact hlt)
      subst hla
      have Hr := Lib.hid hr
      have cu : wr.cell? ⟨bu, k, none⟩ = some (.bool (decide (k ∈ q))) := hrow.cell hlt
      clear hrow hr
      obtain ⟨C, hC⟩ : ∃ C, L.getD k [] = C := ⟨_, rfl⟩
      have HC := Lib.hid hC
      have er : (L.map ints).getD k [] = ints C := by rw [ints_rows, hC]
      have Hr2 := Lib.hid (er ▸ Hr.out)
      obtain ⟨ra, rc, rfl⟩ : ∃ a c, r = .slice a C.length c := by
        obtain ⟨a, c, b, o, e, -⟩ := Hr2.out
        exact ⟨a, c, by rw [e]; simp [ints]⟩
      have HCl := Lib.hid (show ∀ m, m < C.length → C.getD m 0 < N from fun m hm => by
        refine H.out.lt k (by rw [HK.out]; exact hlt) _ ?_
        rw [hC, List.getD, List.getElem?_eq_getElem hm]
        exact List.getElem_mem _)
      have hCN : C.length ≤ 1000 := by rw [← hC]; exact H.out.few k (by rw [HK.out]; exact hlt)
      clear hC er Hr
      by_cases hkq : k ∈ q
      · rw [decide_eq_true hkq] at cu
        have Hn := Lib.hid (show ∀ j, j < k + 1 → j ∉ q → NoI L (q ++ [j]) from fun j hj hjq => by
          by_cases e : j = k
          · subst e; exact absurd hkq hjq
          · exact Hno.out j (by omega) hjq)
        clear hkq
        go_wp2
        go_roundg (K - (k + 1))
        case measure => go_light; omega
        case rel => exact ⟨k + 1, by omega, rfl, by go_num, Hg.out, Hrow.out, Hn.out⟩
      · rw [decide_eq_false hkq] at cu
        have Hkq := Lib.hid hkq
        clear hkq
        have Hst := Lib.hid (H.out.st.buK H.out.used Hg.out)
        have Hsc := Lib.hid (fn_cells Hst.out)
        have hN := H.out.hN
        have hN0 := H.out.hN0
        go_upto_region 7 with fail
        go_upto_region 11 with (go_at_call 66; refine (clone_any N (stI L q) _ _ hN0 (by omega) Hst.out).mono ?_; rintro e w7 ⟨g7, c7, rfl, hf7, hb7⟩; have Hf7 := Lib.hid hf7; have Hb7 := Lib.hid hb7; clear hf7 hb7)
        obtain ⟨wo, rfl⟩ : ∃ wo : World, wo = wr := ⟨_, rfl⟩
        have Hb8 := Lib.hid (show Below wo.heap.size wo (w7.alloc (.map #[] 0)) from Hb7.out.alloc Hb7.out.size _)
        have Hm8 := Lib.hid (BMap.made w7)
        have Hf8 := Lib.hid (Hf7.out.below (Below.alloc (Below.refl _ w7) (Nat.le_refl _) (.map #[] 0)))
        have hbm := Hb7.out.size
        have hg7 := Hf7.out.lt
        generalize w7.heap.size = bm at *
        generalize w7.alloc (.map #[] 0) = w8 at *
        have hgo : wo.heap.size ≤ g7 := hg7.1
        have hgm : g7 < bm := hg7.2
        clear hg7
        go_loopg [12, 41] C.length (fun g s12 s41 wr => ∃ (m : Nat) (b : Bool), m ≤ C.length ∧ g = C.length - m ∧ s41 = .int .i64 (m : Int) ∧ s12 = .bool b ∧ Below wo.heap.size wo wr ∧ (∃ n, n ≤ m ∧ BMap wr bm n (fun v => decide (v ∈ C.take m))) ∧ FnR wr wo.heap.size g7 N c7 (nx2 C (stI L q) m) ∧ TB b (OkT L q C m))
        case atStart => exact ⟨0, true, Nat.zero_le _, rfl, rfl, rfl, Hb8.out, ⟨0, by omega, Hm8.out.congr (fun v => by simp)⟩, Hf8.out.congr (fun v _ => nx2_zero _ _ _), OkT.zero⟩
        case round =>
          obtain ⟨m, b, hm, rfl, rfl, rfl, hb9, ⟨nm, hnm, hm9⟩, hf9, hok⟩ := hrel
          have Hb9 := Lib.hid hb9
          have Hm9 := Lib.hid hm9
          have Hf9 := Lib.hid hf9
          have Hok := Lib.hid hok
          clear hb9 hm9 hf9 hok
          by_cases hml : m < C.length
          · obtain ⟨b2, o2, rfl, cc⟩ := ints_cells Hr2.out hml
            have hx := HCl.out m hml
            have Hstep := Lib.hid (fun v => nx2_step (C := C) (st := stI L q) hml v)
            have Hok2 := Lib.hid (OkT.step Hok.out hml)
            have Htk := Lib.hid (fun v => mem_take_succ hml v)
            have cx2 := below_cell Hb9.out cc
            have Hcs := Lib.hid (Hsc.out _ hx)
            have Hcn := Lib.hid (fun (W : World) (f : Nat → Int) (h : FnR W wo.heap.size g7 N c7 f) => h.cell hx)
            clear cc
            generalize C.getD m 0 = x at *
            generalize stI L q x = s at *
            have Harm := Lib.hid (fun (w10 : World) (hg : wr.grownBy w10 (some bm)) => show Below wo.heap.size wo w10 from Hb9.out.grown hg Hb9.out.size (fun g e => by cases e; exact hbm))
            cases b with
            | true =>
              go_wp2_with (at_mapUpdate; refine wpList_put_bool rfl _ _ _ rfl (b := bm) rfl Hm9.out (v := x) (by omega) (by omega) rfl true rfl ?_; intro w10 hm10 hg10; have Hm10 := Lib.hid hm10; have Hb10 := Lib.hid (Harm.out _ hg10); have Hf10 := Lib.hid (Hf9.out.keptB hg10 (by omega)); have cs := below_cell Hb10.out Hcs.out; have cn := Hcn.out _ _ Hf10.out; have cf := Hf10.out.frozen x; clear hm10 hg10)
              go_roundg (C.length - (m + 1))
              case measure => go_light; omega
              case rel =>
                refine ⟨m + 1, decide (s < 2), by omega, rfl, by go_num, rfl, Hb10.out.setCell hgo _, ⟨nm + 1, by omega, (Hm10.out.keptB (grown_set _ _ _ _) (by omega)).congr fun v => ?_⟩, (Hf10.out.set x 1).congr fun v _ => Hstep.out v, by have h := Hok2.out; simpa using h⟩
                have h := Htk.out v
                by_cases e : v = x
                · rw [if_pos e, decide_eq_true (h.2 (.inl e))]
                · rw [if_neg e]
                  exact decide_eq_decide.2 ⟨fun h2 => h.2 (.inr h2), fun h2 => (h.1 h2).resolve_left e⟩
            | false =>
              go_wp2_with (at_mapUpdate; refine wpList_put_bool rfl _ _ _ rfl (b := bm) rfl Hm9.out (v := x) (by omega) (by omega) rfl true rfl ?_; intro w10 hm10 hg10; have Hm10 := Lib.hid hm10; have Hb10 := Lib.hid (Harm.out _ hg10); have Hf10 := Lib.hid (Hf9.out.keptB hg10 (by omega)); have cs := below_cell Hb10.out Hcs.out; have cn := Hcn.out _ _ Hf10.out; have cf := Hf10.out.frozen x; clear hm10 hg10)
              go_roundg (C.length - (m + 1))
              case measure => go_light; omega
              case rel =>
                refine ⟨m + 1, false, by omega, rfl, by go_num, rfl, Hb10.out.setCell hgo _, ⟨nm + 1, by omega, (Hm10.out.keptB (grown_set _ _ _ _) (by omega)).congr fun v => ?_⟩, (Hf10.out.set x 1).congr fun v _ => Hstep.out v, by have h := Hok2.out; simpa using h⟩
                have h := Htk.out v
                by_cases e : v = x
                · rw [if_pos e, decide_eq_true (h.2 (.inl e))]
                · rw [if_neg e]
                  exact decide_eq_decide.2 ⟨fun h2 => h.2 (.inr h2), fun h2 => (h.1 h2).resolve_left e⟩
          · obtain rfl : m = C.length := by omega
            have Hm3 := Lib.hid (Hm9.out.congr (J := fun v => decide (v ∈ C)) fun v => by rw [List.take_length])
            have Hf3 := Lib.hid (Hf9.out.congr (f' := nx3 C (stI L q) 0) fun v _ => nx3_zero _ _ _)
            have Hok3 := Lib.hid (OkS.zero Hok.out)
            have Hb3 := Lib.hid Hb9.out
            have Hnm := Lib.hid (show nm ≤ 1000 by omega)
            clear Hm9 Hf9 Hok Hb9 hnm hm hml
            go_wp2
            go_loopg [12, 61] N (fun g s12 s61 wr => ∃ (m : Nat) (b : Bool), m ≤ N ∧ g = N - m ∧ s61 = .int .i64 (m : Int) ∧ s12 = .bool b ∧ Below wo.heap.size wo wr ∧ BMap wr bm nm (fun v => decide (v ∈ C)) ∧ FnR wr wo.heap.size g7 N c7 (nx3 C (stI L q) m) ∧ TB b (OkS L q C m))
            case atStart => exact ⟨0, b, Nat.zero_le _, rfl, rfl, rfl, Hb3.out, Hm3.out, Hf3.out, Hok3.out⟩
            case round =>
              clear Hb3 Hm3 Hf3 Hok3
              obtain ⟨m, b, hm, rfl, rfl, rfl, hb9, hm9, hf9, hok⟩ := hrel
              have Hb9 := Lib.hid hb9
              have Hm9 := Lib.hid hm9
              have Hf9 := Lib.hid hf9
              have Hok := Lib.hid hok
              clear hb9 hm9 hf9 hok
              by_cases hml : m < N
              · have cs := below_cell Hb9.out (Hsc.out m hml)
                obtain ⟨s, hs⟩ : ∃ s, stI L q m = s := ⟨_, rfl⟩
                have Hs := Lib.hid hs
                rw [hs] at cs
                clear hs
                have hlook := Hm9.out.look (v := m) (by omega)
                by_cases hs1 : s = 1
                · by_cases hmC : m ∈ C
                  · have Hf4 := Lib.hid (Hf9.out.congr fun v _ => nx3_skip (m := m) (fun h => h.2 hmC) v)
                    have Hok4 := Lib.hid (OkS.skip Hok.out (fun h => h.2 hmC))
                    have hl2 : (Instr.lookup 93 (.map (some bm)) (.int .i64 (m : Int)) false).run Try.prog wr = .ok (.bool true) wr := by rw [hlook, decide_eq_true hmC]
                    clear hlook hmC
                    subst hs1
                    go_wp2
                    go_roundg (N - (m + 1))
                    case measure => go_light; omega
                    case rel => exact ⟨m + 1, b, by omega, rfl, by go_num, rfl, Hb9.out, Hm9.out, Hf4.out, Hok4.out⟩
                  · have hl2 : (Instr.lookup 93 (.map (some bm)) (.int .i64 (m : Int)) false).run Try.prog wr = .ok (.bool false) wr := by rw [hlook, decide_eq_false hmC]
                    have Hput := Lib.hid (fun v => nx3_put (C := C) (st := stI L q) (by rw [Hs.out, hs1]) hmC v)
                    have Hokp := Lib.hid (fun x => OkS.put (x := x) Hok.out (by rw [Hs.out, hs1]) hmC)
                    have Hf4 := Lib.hid ((Hf9.out.set m 2).congr fun v _ => Hput.out v)
                    have Hm4 := Lib.hid (Hm9.out.keptB (grown_set wr g7 m (.int .i64 2)) (by omega))
                    have Hb4 := Lib.hid (Hb9.out.setCell hgo (.int .i64 2) : Below wo.heap.size wo (wr.setCell ⟨g7, m, none⟩ (.int .i64 2)))
                    have cn := Hf9.out.cell hml
                    have cf := Hf9.out.frozen m
                    clear hlook hmC
                    subst hs1
                    cases b with
                    | false =>
                      have Hok4 := Lib.hid (OkS.stop Hok.out)
                      go_wp2
                      go_roundg (N - (m + 1))
                      case measure => go_light; omega
                      case rel => exact ⟨m + 1, false, by omega, rfl, by go_num, rfl, Hb4.out, Hm4.out, Hf4.out, Hok4.out⟩
                    | true =>
                      go_upto_region 22 with fail
                      generalize wr.setCell ⟨g7, m, none⟩ (.int .i64 2) = w5 at *
                      have Hr5 := Lib.hid (Hrows.out.below Hb4.out)
                      have Hu5 := Lib.hid (Hrow.out.of_block (Hb4.out.block _ Hrow.out.lt))
                      have Hl5 := Lib.hid (left_tb L q m _ K bu w5 Hr5.out HK.out Hu5.out)
                      go_wp2_with fail
                      refine Hl5.out.mono ?_
                      rintro e w6 ⟨x, rfl, hx, rfl⟩
                      have Hx := Lib.hid (Hokp.out x hx)
                      clear hx
                      cases x with
                      | true =>
                        go_wp2
                        go_roundg (N - (m + 1))
                        case measure => go_light; omega
                        case rel => exact ⟨m + 1, false, by omega, rfl, by go_num, rfl, Hb4.out, Hm4.out, Hf4.out, Hx.out⟩
                      | false =>
                        go_wp2
                        go_roundg (N - (m + 1))
                        case measure => go_light; omega
                        case rel => exact ⟨m + 1, true, by omega, rfl, by go_num, rfl, Hb4.out, Hm4.out, Hf4.out, Hx.out⟩
                · have Hf4 := Lib.hid (Hf9.out.congr fun v _ => nx3_skip (m := m) (fun h => hs1 (Hs.out ▸ h.1)) v)
                  have Hok4 := Lib.hid (OkS.skip Hok.out (fun h => hs1 (Hs.out ▸ h.1)))
                  have hsb : (s == 1) = false := by simpa using hs1
                  clear hlook hs1
                  go_wp2
                  go_roundg (N - (m + 1))
                  case measure => go_light; omega
                  case rel => exact ⟨m + 1, b, by omega, rfl, by go_num, rfl, Hb9.out, Hm9.out, Hf4.out, Hok4.out⟩
              · obtain rfl : N = m := by omega
                have Hok5 := Lib.hid (OkS.all (by rw [HC.out]; exact Hok.out) : TB b (OkI L N q k))
                have Hf5 := Lib.hid (Hf9.out.congr (f' := stI L (q ++ [k])) fun v hv => by have h := nx3_all (L := L) (q := q) (k := k) hv; rw [HC.out] at h; exact h)
                have Hg5 := Lib.hid (Hg.out.trans ((grown_of_below' Hb9.out).but (some bu)))
                have Hu5 := Lib.hid (Hrow.out.of_block (Hb9.out.block _ Hrow.out.lt))
                cases b with
                | false =>
                  have Hn := Lib.hid (show ∀ j, j < k + 1 → j ∉ q → NoI L (q ++ [j]) from fun j hj hjq => by
                    by_cases e : j = k
                    · subst e; exact NoI.bad (TB.no Hok5.out)
                    · exact Hno.out j (by omega) hjq)
                  go_wp2
                  go_roundg (K - (k + 1))
                  case measure => go_light; omega
                  case rel => exact ⟨k + 1, by omega, rfl, by go_num, Hg5.out, Hu5.out, Hn.out⟩
                | true =>
                  obtain ⟨i0, hi, hz0, hz1, hz2⟩ := info_parts info3
                  have hsta := Lib.hid (H.out.sta.snoc (k := k) (by rw [HK.out]; exact hlt) Hkq.out (TB.yes Hok5.out).1)
                  have hub : bu < wo.heap.size := Hrow.out.lt
                  have cu2 := Hu5.out.cell hlt
                  have cf2 := Hu5.out.frozen k
                  have Hw6 := Lib.hid (used_put (k := k) Hu5.out)
                  have Hg6 := Lib.hid (Hg5.out.trans (grown_set wr bu k (.bool true)))
                  have Hf6 := Lib.hid (Hf5.out.keptB (grown_set wr bu k (.bool true)) (by omega))
                  have hbs : w.heap.size ≤ wr.heap.size := Hg5.out.size
                  go_upto_region 26 with fail
                  generalize wr.setCell ⟨bu, k, none⟩ (.bool true) = w6 at *
                  have Ho6 := Lib.hid (H.out.ord.buK H.out.used Hg6.out)
                  have Hr6 := Lib.hid (show IsRows w6 (.slice (some ⟨b', o, none⟩) K lc) (L.map ints) by have h1 := H.out.rows.buK H.out.used Hg6.out; rw [HK.out] at h1; exact h1)
                  obtain ⟨-, hoc, ol1, ol2, -⟩ := Ho6.out.olds
                  have OL := Lib.hid (fun W (h : Below w6.heap.size w6 W) => (Ho6.out.below h).olds.2.2.2.2)
                  have hqk : q.length ≤ K := by rw [← HK.out]; exact H.out.sta.le
                  have hu6 := Hw6.out
                  have Hpre := Lib.hid (fun (W : World) (v : Value) (h : Below w6.heap.size w6 W) (hv : IsInts W v (ints (q ++ [k]))) => show RowPre W L N (.slice (some ⟨b', o, none⟩) K lc) v (.slice (some ⟨g7, 0, none⟩) N c7) bu (q ++ [k]) from ⟨H.out.pos, H.out.le, H.out.hN, H.out.hN0, H.out.lt, H.out.few, hsta.out, Hr6.out.below h, hv, by rw [HK.out]; exact hu6.of_block (h.block _ hu6.lt), (Hf6.out.below h).ints⟩)
                  have Hend := Lib.hid (show ∀ j, j < k + 1 → j ∉ q → NoI L (q ++ [k]) → NoI L (q ++ [j]) from fun j hj hjq hn => by
                    by_cases e : j = k
                    · subst e; exact hn
                    · exact Hno.out j (by omega) hjq)
                  clear hu6 cu2 cf2 Hok5 Hf5 Hu5 Hg5
                  go_wp2_with (first
                    | (go_at_call 59; refine (clip_any oa q.length oc _ hoc).mono ?_; rintro e wC ⟨rfl, hwC⟩; rw [hwC]; clear hwC)
                    | (at_builtin; refine wpList_append_grows _ rfl (.tmp 93) (.tmp 95) 29 rfl 3 i0 (.int .i64 0) 1 8 Try.underlying29 hi hz0 hz1 hz2 rfl (by decide) oa q.length q.length (nvals q) rfl ol2 ol1 (OL.out _ (below1 _ _)) _ 1 1 (nvals [k]) rfl rfl (one_cellsR (newR _ _ _)) (ints_oneCell _ _) (by omega) (by unfold maxLen; omega) (by omega) ?_; intro vA wA hoA hgA; obtain ⟨aA, kA, rfl⟩ := ownsRow_form hoA; have HbA := Lib.hid (upR (below1 _ _) (below_grown0 hgA)); have HiA := Lib.hid (TI.own (L := q ++ [k]) (by rw [nvals_append]; exact hoA)).is; clear hoA hgA))
                  refine (Ih.out k _ _ _ hlt Hkq.out (Hpre.out _ _ HbA.out HiA.out)).mono ?_
                  rintro e w9 ⟨r, rfl, hg9, hres⟩
                  have Hg9 := Lib.hid ((Hg6.out.trans ((grown_of_below' HbA.out).but (some bu))).trans hg9)
                  rcases hres with ⟨p, a9, c9, rfl, hp, hi9⟩ | ⟨rfl, hn9, hu9⟩
                  · have Hfin := Lib.hid (show RowPost L bu q w (.returned (.slice (some a9) p.length c9)) w9 from ⟨_, rfl, Hg9.out, .inl ⟨p, a9, c9, rfl, hp, hi9⟩⟩)
                    clear hp hi9 hg9
                    generalize p.length = pl at *
                    go_wp2
                    go_ret
                    exact Hfin.out
                  · rw [HK.out] at hu9
                    have Hu9 := Lib.hid (used_back Hkq.out hu9)
                    have cu9 := hu9.cell hlt
                    have cf9 := hu9.frozen k
                    have Hg10 := Lib.hid (Hg9.out.trans (grown_set w9 bu k (.bool false)))
                    have Hn := Lib.hid (fun j hj hjq => Hend.out j hj hjq hn9)
                    clear hu9 hn9 hg9
                    go_wp2
                    go_roundg (K - (k + 1))
                    case measure => go_light; omega
                    case rel => exact ⟨k + 1, by omega, rfl, by go_num, Hg10.out, Hu9.out, Hn.out⟩
    · obtain rfl : k = K := by omega
      have Hfin := Lib.hid (show RowPost L bu q w (.returned (.slice none 0 0)) wr from ⟨_, rfl, Hg.out, .inr ⟨rfl, Hall.out fun j hj hjq => Hno.out j (by rw [← HK.out]; exact hj) hjq, by rw [HK.out]; exact Hrow.out⟩⟩)
      go_wp2
      go_ret
      exact Hfin.out
theorem row_any (L : List (List Nat)) (N bu : Nat) (lv : Value) : ∀ (n : Nat) (ov sv : Value) (q : List Nat) (w : World), L.length - q.length = n → RowPre w L N lv ov sv bu q →
    Calls Try.prog 48 #[lv, ov, .slice (some ⟨bu, 0, none⟩) L.length L.length, sv] w (RowPost L bu q w)
  | n, ov, sv, q, w, hn, h => by
    by_cases hq : q.length = L.length
    · exact row_full L N bu lv ov sv q w h hq
    · refine row_step L N bu lv ov sv q w h hq fun k ov2 sv2 w2 hk hkq h2 => ?_
      have hle := h.sta.le
      exact row_any L N bu lv (L.length - (q ++ [k]).length) ov2 sv2 (q ++ [k]) w2 rfl h2
  termination_by n => n
  decreasing_by
    rw [List.length_append, List.length_singleton]
    omega
end Go.Proofs.Ytnhhohhhpaejmaa
