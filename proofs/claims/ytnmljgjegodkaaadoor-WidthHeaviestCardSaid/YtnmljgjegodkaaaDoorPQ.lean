/- arborref.Rows: a copy of lists. (The text of the walk; XName kept apart from the given Rows.) Contract of arborref.Lists. -/
import Derived.Test.YtnmljgjegodkaaaDoorBase
import Derived.Test.YtnmljgjegodkaaaDoorPC
namespace Go.Proofs.YtnmljgjegodkaaaDoor
open Go.RowKit

/-- What Rows leaves. -/
def RowsPost (m : List (List Int)) (w : World) (e : Ending) (w' : World) : Prop := ∃ v, e = .returned v ∧ IsRows w' v m ∧ Below w.heap.size w w'

set_option maxHeartbeats 400000 in
theorem rows_any (m : List (List Int)) (s : Value) (w : World) (h : IsRows w s m) (hm : m.length * 24 ≤ 140737488351232) (hr : ∀ j, j < m.length → (m.getD j []).length * 8 ≤ 140737488351232) :
    Calls Tryd.prog 16 #[s] w (RowsPost m w) := by
  obtain ⟨a, cap, b, o, rfl, hcap, hmax, hadr, -, hcell⟩ := h
  have Hr := Lib.hid hr; clear hr
  go_enter Tryd.func16, Tryd.ntmps16
  go_wp2
  go_loopw [3, 4] (fun v i wr => ∃ k : Nat, k ≤ m.length ∧ i = .int .i64 k ∧ Copied w.heap.size wr v k m ∧ Below w.heap.size w wr) (fun _ i _ => m.length - (intOf i).toNat)
  case atStart => exact ⟨0, Nat.zero_le _, rfl, ⟨[], World.ownsRow_nil _ _ _ _, fun _ h => absurd h (Nat.not_lt_zero _)⟩, Below.refl _ _⟩
  case round =>
    obtain ⟨k, hk, rfl, hcp, hb⟩ := hrel
    by_cases hlt : k < m.length
    · obtain rfl := hadr (by omega)
      obtain ⟨x, Hx, ra, rcap, hc, hr⟩ := rows_at hcell hb hlt
      have hxl : x.length * 8 ≤ 140737488351232 := by have := Hr.out k hlt; rwa [Hx.out] at this
      obtain ⟨vals, hown, hv⟩ := hcp
      obtain ⟨va, vc, rfl⟩ := ownsRow_form hown
      have hsz := hb.size
      have Hv := Lib.hid hv; have Hown := Lib.hid hown; have Hcell := Lib.hid hcell
      clear hcell hadr hv hown
      go_wp2_with (first
        | (at_builtin; refine wpList_append_has rfl (.const (.slice none 0 0)) (.tmp 15) 30 rfl w.heap.size 3 (.int .i64 0) 8 Tryd.underlying30 info3 rfl _ 0 [] rfl (World.ownsRow_nil _ _ _ _) _ x.length (x.map (Value.int .i64)) rfl hr.cells (by omega) (by omega) (by omega) ?_; intro a1 c1 w1 hown1 hg1; simp only [Nat.zero_add, List.nil_append] at hown1; have hsz1 := hg1.size)
        | (at_builtin; refine wpList_append_has rfl (.tmp 11) (.tmp 17) 29 rfl w.heap.size 30 (.slice none 0 0) 24 Tryd.underlying29 infoS rfl _ k vals rfl ((grown_none Hown.out hg1).alloc _) _ 1 [.slice a1 x.length c1] rfl (HasCells.one _ _ _ rfl) (by omega) (by omega) (by simp; omega) ?_; intro a2 c2 w2 hown2 hg2))
      have HC := Copied.more (m := m) Hown.out Hv.out hg1 (by rw [Hx.out]; exact hown1) hown2 hg2
      have hb1 := (hb.grown hg1 (by omega) (fun _ h => by cases h)).alloc (by omega) (Obj.cells #[Value.slice a1 x.length c1] 30)
      have hb2 := hb1.grown hg2 hb1.size (fun g hg => (Hown.out.lt g hg).1)
      go_roundw
      case rel => exact ⟨k + 1, by omega, by go_num, HC, hb2⟩
      case measure => simp [intOf]; omega
    · go_wp2
      go_ret
      obtain rfl : k = m.length := by omega
      exact ⟨_, rfl, hcp.rows, hb⟩

end Go.Proofs.YtnmljgjegodkaaaDoor
namespace Go.Proofs.YtnmljgjegodkaaaDoor
open Go.RowKit

/-- Are two lists of lists the same. -/
theorem lists_any (l m : List (List Int)) (s t : Value) (w : World) (h : IsRows w s l) (h' : IsRows w t m) :
    Calls Tryd.prog 18 #[s, t] w fun e w' => e = .returned (.bool (decide (l = m))) ∧ Drew w w' := by
  obtain ⟨a, cap, b, o, rfl, hcap, hmax, hadr, -, hcell⟩ := h
  obtain ⟨a', cap', b', o', rfl, hcap', hmax', hadr', -, hcell'⟩ := h'
  by_cases hlen : l.length = m.length
  · have hl : ((l.length : Int) != (m.length : Int)) = false := by rw [hlen]; simp
    have hl2 : ((l.length : Int) == (m.length : Int)) = true := by rw [hlen]; simp
    have Hlen := Lib.hid hlen; clear hlen
    go_enter Tryd.func18, Tryd.ntmps18
    go_wp2
    clear hl hl2
    go_loopw [5] (fun i wr => Drew w wr ∧ ∃ k : Nat, k ≤ l.length ∧ i = .int .i64 k ∧ ∀ j, j < k → l.getD j [] = m.getD j []) (fun i _ => l.length - (intOf i).toNat)
    case atStart => exact ⟨⟨0, rfl⟩, 0, Nat.zero_le _, rfl, fun _ h => absurd h (Nat.not_lt_zero _)⟩
    case round =>
      obtain ⟨hd, k, hk, rfl, hne⟩ := hrel
      have Hne := Lib.hid hne; clear hne
      by_cases hlt : k < l.length
      · obtain rfl := hadr (by omega)
        have hlt' : k < m.length := by have := Hlen.out; omega
        obtain rfl := hadr' (by omega)
        obtain ⟨x, Hx, ra, rcap, hc, hr⟩ := rows_at hcell hd.below hlt
        obtain ⟨y, Hy, ra', rcap', hc', hr'⟩ := rows_at hcell' hd.below hlt'
        clear hcell hadr hcell' hadr'
        by_cases hv : x = y
        · have hb : decide (x = y) = true := by simpa using hv
          have Hv := Lib.hid hv; have Hb := Lib.hid hb; clear hv hb
          go_wp2
          go_quiet ((go_at_call 19; exact Calls.quiet_of (ints_is _ _ _ _ _ (hr.drewN _) (hr'.drewN _) Hb.out)))
          go_wp2
          go_roundw
          case rel => exact ⟨hd.add _, k + 1, by omega, by go_num, fun j hj => by
            by_cases e : j = k
            · rw [e, Hx.out, Hy.out]; exact Hv.out
            · exact Hne.out j (by omega)⟩
          case measure => simp [intOf]; omega
        · have hb : decide (x = y) = false := by simpa using hv
          have Hv := Lib.hid hv; have Hb := Lib.hid hb; clear hv hb
          go_wp2
          go_quiet ((go_at_call 19; exact Calls.quiet_of (ints_is _ _ _ _ _ (hr.drewN _) (hr'.drewN _) Hb.out)))
          go_wp2
          go_ret
          exact ⟨ret_bool (decide_eq_false (fun e => Hv.out (by rw [← Hx.out, ← Hy.out, e]))).symm, hd.add _⟩
      · clear hcell hadr hcell' hadr'
        go_wp2
        go_ret
        obtain rfl : k = l.length := by omega
        refine ⟨ret_bool (decide_eq_true ?_).symm, hd⟩
        refine List.ext_getElem Hlen.out fun j h1 h2 => ?_
        have := Hne.out j h1
        simpa [List.getD, h1, h2] using this
  · have hl : ((l.length : Int) != (m.length : Int)) = true := by simp; omega
    have hl2 : ((l.length : Int) == (m.length : Int)) = false := by simp; omega
    go_enter Tryd.func18, Tryd.ntmps18
    go_wp2
    go_ret
    exact ⟨ret_bool (decide_eq_false (fun e => hlen (by rw [e]))).symm, ⟨0, rfl⟩⟩

end Go.Proofs.YtnmljgjegodkaaaDoor
