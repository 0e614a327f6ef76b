/- arborref.Rows: a copy of lists. (The text of the walk; XName kept apart from the given Rows.) -/
import Derived.Test.YtfccfmjamdpeaaaBase
import Derived.Test.YtfccfmjamdpeaaaOwn
namespace Go.Proofs.Ytfccfmjamdpeaaa
open Go.RowKit

/-- k rows of m are copied: the value v owns their heads; each is owned, too. -/
def Copied (B : Nat) (wr : World) (v : Value) (k : Nat) (m : List (List Int)) : Prop :=
  ∃ vals, wr.ownsRow B 51 1 v k vals ∧ ∀ j, j < k → ∃ r, vals[j]? = some r ∧ wr.ownsRow B 3 1 r (m.getD j []).length ((m.getD j []).map (Value.int .i64))

theorem Copied.rows {B : Nat} {wr : World} {v : Value} {m : List (List Int)} (h : Copied B wr v m.length m) : IsRows wr v m := by
  obtain ⟨vals, hown, hv⟩ := h
  obtain ⟨a, c, rfl⟩ := ownsRow_form hown
  obtain ⟨h1, h2, h3, b, h4, h5⟩ := ownsRow_cap hown
  refine ⟨a, c, b, 0, rfl, h1, h2, fun hp => (h4 hp).1, h3, fun j hj => ?_⟩
  obtain ⟨r, hr, ho⟩ := hv j hj
  exact ⟨r, by rw [Nat.zero_add]; exact h5 j r hr, IsInts.owned ho⟩

/-- One row more. -/
theorem Copied.more {B : Nat} {wr w1 w2 : World} {v r v' : Value} {k : Nat} {m : List (List Int)} {vals : List Value} {o : Obj}
    (hown : wr.ownsRow B 51 1 v k vals) (hv : ∀ j, j < k → ∃ r, vals[j]? = some r ∧ wr.ownsRow B 3 1 r (m.getD j []).length ((m.getD j []).map (Value.int .i64)))
    (g1 : wr.grownBy w1 none) (hr : w1.ownsRow B 3 1 r (m.getD k []).length ((m.getD k []).map (Value.int .i64)))
    (h2 : w2.ownsRow B 51 1 v' (k + 1) (vals ++ [r])) (g2 : (w1.alloc o).grownBy w2 v.ownBlock) : Copied B w2 v' (k + 1) m := by
  have hlen : vals.length = k := by have := hown.1; omega
  have ty : ∀ g, v.ownBlock = some g → ∃ c e' fz, (w1.alloc o).heap[g]? = some (.cells c e' fz) ∧ e' ≠ 3 := fun g hg => by
    obtain ⟨c, fz, hc⟩ := ownsRow_type ((hown.kept g1 (by cases v.ownBlock <;> simp)).alloc o) g hg
    exact ⟨c, _, fz, hc, by decide⟩
  refine ⟨_, h2, fun j hj => ?_⟩
  by_cases e : j = k
  · subst e
    exact ⟨r, by rw [List.getElem?_append_right (by omega)]; simp [hlen], ownsRow_typed (hr.alloc o) g2 ty⟩
  · obtain ⟨q, hq, ho⟩ := hv j (by omega)
    exact ⟨q, by rw [List.getElem?_append_left (by omega)]; exact hq, ownsRow_typed ((ho.kept g1 (by cases q.ownBlock <;> simp)).alloc o) g2 ty⟩

/-- What Rows leaves. -/
def RowsPost (m : List (List Int)) (w : World) (e : Ending) (w' : World) : Prop := ∃ v, e = .returned v ∧ IsRows w' v m ∧ Below w.heap.size w w'

set_option maxHeartbeats 400000 in
theorem rows_any (m : List (List Int)) (s : Value) (w : World) (h : IsRows w s m) (hm : m.length * 24 ≤ 140737488351232) (hr : ∀ j, j < m.length → (m.getD j []).length * 8 ≤ 140737488351232) :
    Calls Try.prog 34 #[s] w (RowsPost m w) := by
  obtain ⟨a, cap, b, o, rfl, hcap, hmax, hadr, -, hcell⟩ := h
  have Hr := Lib.hid hr; clear hr
  go_enter Try.func34, Try.ntmps34
  go_wp2
  go_loopw [3, 4] (fun v i wr => ∃ k : Nat, k ≤ m.length ∧ i = .int .i64 k ∧ Copied w.heap.size wr v k m ∧ Below w.heap.size w wr) (fun _ i _ => m.length - (intOf i).toNat)
  case atStart => exact ⟨0, Nat.zero_le _, rfl, ⟨[], World.ownsRow_nil _ _ _ _, fun _ h => absurd h (Nat.not_lt_zero _)⟩, Below.refl _ _⟩
  case round =>
    obtain ⟨k, hk, rfl, hcp, hb⟩ := hrel
    by_cases hlt : k < m.length
    · obtain rfl := hadr (by omega)
      obtain ⟨x, Hx, ra, rcap, hc, hr⟩ := rows_at hcell hb hlt
      have hxl : x.length * 8 ≤ 140737488351232 := by have := Hr.out k hlt; rwa [Hx.out] at this
      obtain ⟨vals, hown, hv⟩ := hcp
      obtain ⟨va, vc, rfl⟩ := ownsRow_form hown
      have hsz := hb.size
      have Hv := Lib.hid hv; have Hown := Lib.hid hown; have Hcell := Lib.hid hcell
      clear hcell hadr hv hown
      go_wp2_with (first
        | (at_builtin; refine wpList_append_has rfl (.const (.slice none 0 0)) (.tmp 15) 51 rfl w.heap.size 3 (.int .i64 0) 8 Try.underlying51 info3 rfl _ 0 [] rfl (World.ownsRow_nil _ _ _ _) _ x.length (x.map (Value.int .i64)) rfl hr.cells (by omega) (by omega) (by omega) ?_; intro a1 c1 w1 hown1 hg1; simp only [Nat.zero_add, List.nil_append] at hown1; have hsz1 := hg1.size)
        | (at_builtin; refine wpList_append_has rfl (.tmp 11) (.tmp 17) 40 rfl w.heap.size 51 (.slice none 0 0) 24 Try.underlying40 infoS rfl _ k vals rfl ((grown_none Hown.out hg1).alloc _) _ 1 [.slice a1 x.length c1] rfl (HasCells.one _ _ _ rfl) (by omega) (by omega) (by simp; omega) ?_; intro a2 c2 w2 hown2 hg2))
      have HC := Copied.more (m := m) Hown.out Hv.out hg1 (by rw [Hx.out]; exact hown1) hown2 hg2
      have hb1 := (hb.grown hg1 (by omega) (fun _ h => by cases h)).alloc (by omega) (Obj.cells #[Value.slice a1 x.length c1] 51)
      have hb2 := hb1.grown hg2 hb1.size (fun g hg => (Hown.out.lt g hg).1)
      go_roundw
      case rel => exact ⟨k + 1, by omega, by go_num, HC, hb2⟩
      case measure => simp [intOf]; omega
    · go_wp2
      go_ret
      obtain rfl : k = m.length := by omega
      exact ⟨_, rfl, hcp.rows, hb⟩

end Go.Proofs.Ytfccfmjamdpeaaa
