/- parts.Bridges: the blocks of one edge. -/
import Derived.Test.YtmhcnekbfngafaaPartP
import Derived.Test.YtmhcnekbfngafaaBlkAt
import Derived.Test.YtmhcnekbfngafaaBlkR
namespace Go.Proofs.Ytmhcnekbfngafaa
open Go.RowKit

/-- The blocks of one edge among the first k. -/
abbrev oneTo (L : List (List (Int × Int))) (k : Nat) : List (Int × Int) := oneL (L.take k)
theorem oneTo_succ {L : List (List (Int × Int))} {k : Nat} (hk : k < L.length) : oneTo L (k + 1) = oneTo L k ++ if (L.getD k []).length = 1 then [(L.getD k []).headD (0, 0)] else [] := by
  unfold oneTo oneL
  rw [List.take_add_one, List.getElem?_eq_getElem hk, List.filter_append, List.map_append]
  have : L.getD k [] = L[k] := by rw [List.getD, List.getElem?_eq_getElem hk]; rfl
  rw [this]
  by_cases h : L[k].length = 1 <;> simp [h]
theorem oneTo_len (L : List (List (Int × Int))) (k : Nat) : (oneTo L k).length ≤ k := by
  unfold oneTo oneL
  rw [List.length_map]
  exact Nat.le_trans (List.length_filter_le _ _) (by rw [List.length_take]; omega)

set_option maxHeartbeats 3200000 in
set_option maxRecDepth 100000 in
theorem pbridges_ok {l : List (Int × Int)} {N : Nat} (hgood : GoodGraph N l) (s : Value) (w : World) (h : IsEdges w s l) :
    Calls Try.prog 32 #[.agg #[.int .i64 (N : Int), s]] w fun e w' => ∃ v L, e = .returned (.tuple #[v, .agg #[.int .i64 0, .int .i64 0]]) ∧ OwnE w' w.heap.size v (oneL L) ∧ Below w.heap.size w w' ∧ BlksR (blkD l N) L := by
  obtain ⟨ad, cap, rfl⟩ := h.form
  have hN : N ≤ 100 := by have := hgood.hi; omega
  have Hg := Lib.hid hgood
  have St := Lib.hid (PSt.start (n := (N : Int)) h)
  clear hgood h
  go_enter Try.func32, Try.ntmps32
  go_upto_region 1 with fail
  generalize (w.alloc (Obj.cells #[.int .i64 (N : Int), .slice ad l.length cap] 24)).alloc (Obj.cells #[.int .i64 0, .int .i64 0] 27) = w1 at *
  have cn := St.out.cn
  have cs := St.out.cs
  have hl := St.out.r.lt
  go_upto_region 2 with (go_at_call 47; refine (gcheck_is Hg.out.spec _ _ St.out.he).mono ?_; rintro e w2 ⟨rfl, hb2⟩; have S2 := Lib.hid (St.out.below (hb2.trans ((below1 w2 (Obj.cells #[.int .i64 0, .int .i64 0] 27)).mono hb2.size))); have e01 := two_cells w2 (.int .i64 0) (.int .i64 0) 27; clear hb2)
  generalize w2.alloc (Obj.cells #[.int .i64 0, .int .i64 0] 27) = w3 at *
  obtain ⟨e0, e1⟩ := e01
  clear cn cs hl St
  have cn := S2.out.cn
  have cs := S2.out.cs
  go_upto_region 5 with fail
  clear e0 e1
  go_upto_region 6 with (go_at_call 59; refine (blocks_any Hg.out _ _ S2.out.he).mono ?_; rintro e w5 ⟨v, L, rfl, h5, hb5, hr5⟩; obtain ⟨aB, cB, rfl⟩ := h5.form)
  have S5 := Lib.hid (S2.out.below hb5)
  have hLb : L.length ≤ 100 := by
    rw [hr5.length]
    have := (allD_ok (nbrs_ask (l := l) hN) N (Nat.le_refl _)).blk
    unfold blkD; omega
  have HR := Lib.hid hr5
  have H5 := Lib.hid h5
  have HAt := Lib.hid (fun j (hj : j < L.length) => h5.at hj)
  have Hsu := Lib.hid (fun k (hk : k < L.length) => oneTo_succ hk)
  have hz5 := hb5.size
  have hz3 : w.heap.size + 1 < w5.heap.size := S5.out.r.lt
  clear h5 hb5 hr5 S2 cn cs
  obtain ⟨n, hn⟩ : ∃ n, L.length = n := ⟨_, rfl⟩
  have Hn := Lib.hid hn
  rw [hn] at hLb HAt Hsu ⊢
  clear hn
  go_wp2
  go_loopg [5, 17] n (fun g s5 s17 wr => ∃ k : Nat, k ≤ n ∧ g = n - k ∧ s17 = .int .i64 k ∧ OwnE wr w5.heap.size s5 (oneTo L k) ∧ Below w5.heap.size w5 wr)
  case atStart => exact ⟨0, Nat.zero_le _, rfl, rfl, OwnE.nil _ _, Below.refl _ _⟩
  case round =>
    obtain ⟨k, hk, rfl, rfl, ho, hb⟩ := hrel
    obtain ⟨a5, c5, rfl⟩ := ho.form
    have Ho := Lib.hid ho; have Hb := Lib.hid hb
    have hz := hb.size
    have hol := oneTo_len L k
    by_cases hlt : k < n
    · obtain ⟨g, r, e1, c1, he1⟩ := HAt.out k hlt
      subst e1
      have hsu := Hsu.out k hlt
      have c1 := below_cell hb c1
      have he1 := he1.below hb
      generalize L.getD k [] = bk at *
      obtain ⟨ar, cr, br, or_, rfl, hcapr, hmaxr, hadr, -, hcell⟩ := he1
      clear ho hb
      by_cases h1 : bk.length = 1
      · rw [if_pos h1] at hsu
        obtain ⟨x, y, hxy⟩ : ∃ x y, bk = [(x, y)] := by
          match bk, h1 with
          | [e], _ => exact ⟨e.1, e.2, rfl⟩
        subst hxy
        obtain rfl := hadr (by simp)
        have cx := (hcell 0 (by simp)).1
        have cy := (hcell 0 (by simp)).2
        simp only [Nat.zero_mul, Nat.add_zero, List.getD_cons_zero] at cx cy
        have hsu : oneTo L (k + 1) = oneTo L k ++ [(x, y)] := hsu
        have Hsu1 := Lib.hid hsu
        have hcapr : 1 ≤ cr := hcapr
        have Hoa := Lib.hid (Ho.out.below (below1 wr (Obj.cells #[.int .i64 x, .int .i64 y] 61)))
        have hza : w5.heap.size ≤ (wr.alloc (Obj.cells #[.int .i64 x, .int .i64 y] 61)).heap.size := by rw [World.size_alloc]; omega
        generalize hcc : oneTo L k = cc at *
        have Hcc := Lib.hid hcc
        clear hsu hcell hadr h1 hcc
        go_wp2_with (at_builtin; refine wpList_append_edges rfl (.tmp 24) (.tmp 28) 22 rfl w5.heap.size Try.underlying22 info2 _ cc rfl Hoa.out _ [(x, y)] rfl (edge_one _ _ _ _ rfl) _ rfl (by simp; omega) hza ?_; intro a6 c6 w6 ho6 hg6; have Ho6 := Lib.hid ho6; have Hb6 := Lib.hid ((Hb.out.alloc hz (Obj.cells #[.int .i64 x, .int .i64 y] 61)).grown hg6 (by simpa using hza) (fun g e => (World.ownsRow.lt Hoa.out g e).1)); clear hg6 ho6)
        go_roundg (n - (k + 1))
        case measure => go_light; omega
        case rel => exact ⟨k + 1, by omega, rfl, by go_num, by have h9 := Ho6.out; rw [Hsu1.out]; simpa only [List.length_append, List.length_cons, List.length_nil, Nat.zero_add] using h9, Hb6.out⟩
      · rw [if_neg h1, List.append_nil] at hsu
        have Hsu1 := Lib.hid hsu
        have h2 : ((bk.length : Int) == 1) = false := by simp; omega
        clear hsu hcell hadr h1
        generalize bk.length = nb at *
        go_wp2
        go_roundg (n - (k + 1))
        case measure => go_light; omega
        case rel => exact ⟨k + 1, by omega, rfl, by go_num, by rw [Hsu1.out]; exact Ho.out, Hb.out⟩
    · obtain rfl : n = k := by omega
      have hrw := S5.out.r.of_block (hb.block _ S5.out.r.lt)
      obtain ⟨z0, z1, f0, f1, l0⟩ := row_facts hrw
      have e := (hrw.set 0 (.int .i64 0)).set 1 (.int .i64 0)
      have e0 := e.cell (show 0 < 2 by omega)
      have e1 := e.cell (show 1 < 2 by omega)
      simp only [if_true, show ¬ (1 : Nat) = 0 by omega, show ¬ (0 : Nat) = 1 by omega, if_false] at e0 e1
      have hbw : Below w.heap.size w wr := S5.out.hb.trans (hb.mono S5.out.hb.size)
      have hfin := (hbw.setCell (p := ⟨w.heap.size + 1, 0, none⟩) (by show w.heap.size ≤ w.heap.size + 1; omega) (.int .i64 0)).setCell (p := ⟨w.heap.size + 1, 1, none⟩) (by show w.heap.size ≤ w.heap.size + 1; omega) (.int .i64 0)
      have hol : oneTo L n = oneL L := by unfold oneTo; rw [← Hn.out, List.take_length]
      rw [hol] at ho Ho ⊢
      have how := ((ho.set (show w.heap.size + 1 < w5.heap.size by omega) 0 (.int .i64 0)).set (show w.heap.size + 1 < w5.heap.size by omega) 1 (.int .i64 0)).low (show w.heap.size ≤ w5.heap.size by omega)
      have Hhow := Lib.hid how; have Hfin := Lib.hid hfin
      clear ho hb hrw e hbw hfin how
      go_wp2
      exact bodyPost_ret (v := .tuple #[.slice a5 (oneL L).length c5, .agg #[.int .i64 0, .int .i64 0]]) (by simp [results, Try.results32, go_sem, e0, e1]) rfl ⟨_, L, rfl, Hhow.out, Hfin.out, HR.out⟩

end Go.Proofs.Ytmhcnekbfngafaa
