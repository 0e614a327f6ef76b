/- slices.Clip; chords.cliques$1: those of a list that are near a node. -/
import Derived.Test.YtnhhohhhpaejmaaPK
import Derived.Test.YtnhhohhhpaejmaaPA
import Derived.Deep.LoopGhost
import Derived.Deep.Light
namespace Go.Proofs.Ytnhhohhhpaejmaa
open Go Go.RowKit

set_option maxRecDepth 100000 in
theorem clip_any (a : Option Addr) (n c : Nat) (w : World) (h : n ≤ c) :
    Calls Try.prog 59 #[.slice a n c] w fun e w' => e = .returned (.slice a n n) ∧ w' = w := by
  obtain ⟨i3, hi3, -, hz3, -⟩ := info_parts info3
  have e1 := fun W => run_slice_3 (P := Try.prog) Try.underlying29 hi3 a n c n (Nat.le_refl _) h W
  go_enter Try.func59, Try.ntmps59
  go_wp2
  go_ret
  exact ⟨rfl, rfl⟩

theorem filter_take {p : Nat → Bool} {L : List Nat} {k : Nat} (h : k < L.length) : (L.take (k + 1)).filter p = (L.take k).filter p ++ (if p (L.getD k 0) then [L.getD k 0] else []) := by
  rw [List.take_add_one, List.getElem?_eq_getElem h, List.filter_append]
  have : L.getD k 0 = L[k] := by rw [List.getD, List.getElem?_eq_getElem h]; rfl
  rw [this]
  cases hp : p L[k] <;> simp [hp]
theorem filter_len {p : Nat → Bool} {L : List Nat} {k : Nat} : ((L.take k).filter p).length ≤ k := Nat.le_trans (List.length_filter_le _ _) (by rw [List.length_take]; omega)

set_option maxHeartbeats 1600000 in
set_option maxRecDepth 100000 in
theorem near1_any {N v : Nat} {G : Nat → Nat → Bool} {gv lv : Value} {L : List Nat} {TB : Nat} (w : World) (hN : N ≤ 100) (hv : v < N) (hL : ∀ x ∈ L, x < N) (hlen : L.length ≤ 1000) (hl : TI w lv L) (ct : w.cell? ⟨TB, 0, none⟩ = some gv) (hg : HasGrid w gv N G) :
    Calls Try.prog 55 #[.int .i64 (v : Int), lv, .pointer (some ⟨TB, 0, none⟩)] w fun e w' => ∃ r, e = .returned r ∧ w'.ownsRow w.heap.size 3 1 r (L.filter (G v)).length (nvals (L.filter (G v))) ∧ Below w.heap.size w w' := by
  obtain ⟨Bg, ga, gc, gb, go', R, rfl, hgc, hga, hgrid⟩ := hg
  obtain rfl := (hga (by omega)).1
  obtain ⟨la, lc, rfl⟩ := hl.form
  obtain ⟨-, l1, l2, l3, l4⟩ := hl.cell
  have Hgr := Lib.hid hgrid; have H4 := Lib.hid l4; have HL := Lib.hid hL; have Ct := Lib.hid ct
  clear hgrid hga hL hl l3 l4 ct
  go_enter Try.func55, Try.ntmps55
  go_wp2
  go_loopg [6, 11] L.length (fun g s6 s11 wr => ∃ k : Nat, k ≤ L.length ∧ g = L.length - k ∧ s11 = .int .i64 (k : Int) ∧ wr.ownsRow w.heap.size 3 1 s6 ((L.take k).filter (G v)).length (nvals ((L.take k).filter (G v))) ∧ Below w.heap.size w wr)
  case atStart => exact ⟨0, Nat.zero_le _, rfl, rfl, World.ownsRow_nil _ _ _ _, Below.refl _ _⟩
  case round =>
    obtain ⟨k, hk, rfl, rfl, ho, hb⟩ := hrel
    obtain ⟨a0, c0, rfl⟩ := ownsRow_form ho
    have Ho := Lib.hid ho; have Hb := Lib.hid hb
    have hll : ((L.take k).filter (G v)).length ≤ k := filter_len
    clear ho
    by_cases hlt : k < L.length
    · obtain ⟨b, o, rfl, hc⟩ := H4.out (by omega)
      have ck := below_cell hb (hc k hlt)
      have hx : L.getD k 0 < N := HL.out _ (by rw [List.getD, List.getElem?_eq_getElem hlt]; exact List.getElem_mem _)
      have Hf := Lib.hid (filter_take (p := G v) hlt)
      have hsz := hb.size
      clear hc
      generalize L.getD k 0 = x at *
      have ct := below_cell hb Ct.out
      have g1 := below_cell hb (Hgr.out.head v hv)
      have g2 := below_cell hb (Hgr.out.cell hv hx)
      clear hb
      generalize hn : ((L.take k).filter (G v)).length = n at *
      have Hn := Lib.hid hn
      clear hn
      cases hgx : G v x with
      | true =>
        rw [hgx] at g2
        have Hgx := Lib.hid hgx
        clear hgx
        go_wp2_with (at_builtin; refine wpList_append_has rfl (.tmp 22) (.tmp 24) 29 rfl w.heap.size 3 (.int .i64 0) 8 Try.underlying29 info3 rfl _ n (nvals ((L.take k).filter (G v))) rfl (Ho.out.alloc _) _ 1 (nvals [x]) rfl (HasCells.one _ _ _ rfl) (by omega) (by omega) (by simp; omega) ?_; intro a2 c2 w2 hown2 hg2; have Hown2 := Lib.hid hown2; have Hg2 := Lib.hid ((Hb.out.alloc hsz (Obj.cells #[Value.int .i64 (x : Int)] 3)).grown hg2 (by rw [World.size_alloc]; omega) (fun g e => (Ho.out.lt g e).1)); clear hown2 hg2)
        go_roundg (L.length - (k + 1))
        case measure => go_light; omega
        case rel =>
          refine ⟨k + 1, by omega, rfl, by go_num, ?_, Hg2.out⟩
          rw [Hf.out, Hgx.out, if_pos rfl, List.length_append, Hn.out, nvals_append]
          exact Hown2.out
      | false =>
        rw [hgx] at g2
        have Hgx := Lib.hid hgx
        clear hgx
        go_wp2
        go_roundg (L.length - (k + 1))
        case measure => go_light; omega
        case rel =>
          refine ⟨k + 1, by omega, rfl, by go_num, ?_, Hb.out⟩
          rw [Hf.out, Hgx.out, if_neg (by decide), List.append_nil, Hn.out]
          exact Ho.out
    · obtain rfl : L.length = k := by omega
      go_wp2
      go_ret
      refine ⟨_, rfl, ?_, Hb.out⟩
      have hh := Ho.out
      simp only [List.take_length] at hh ⊢
      exact hh

end Go.Proofs.Ytnhhohhhpaejmaa
