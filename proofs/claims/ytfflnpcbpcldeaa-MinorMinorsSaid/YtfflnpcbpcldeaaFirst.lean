/- arborref.First: the search, by lists. -/
import Derived.Test.YtfflnpcbpcldeaaHas2
import Derived.Test.YtfflnpcbpcldeaaGridOf
import Derived.Test.YtfflnpcbpcldeaaNears
namespace Go.Proofs.Ytfflnpcbpcldeaa
open Go.RowKit

/-- A list comes back, or none. -/
def FirstPost (r : Option (List Nat)) (w : World) (e : Ending) (w' : World) : Prop :=
  (∃ l v, r = some l ∧ e = .returned (.tuple #[v, .bool true]) ∧ IsInts w' v (ints l) ∧ Below w.heap.size w w') ∨
  (r = none ∧ e = .returned (.tuple #[.slice none 0 0, .bool false]) ∧ Below w.heap.size w w')

theorem HasGrid.len {w : World} {v : Value} {n : Nat} {G : Nat → Nat → Bool} (h : HasGrid w v n G) : ∃ a c, v = .slice a n c := by
  obtain ⟨B, a, cap, b, o, R, rfl, _⟩ := h
  exact ⟨a, cap, rfl⟩

theorem okTo_contains {G H : Nat → Nat → Bool} {l : List Nat} {v k : Nat} : ∀ {i}, okTo G H l v k i = true → l.contains v = false
  | 0, h => by unfold okTo at h; simpa using h
  | i + 1, h => by rw [okTo, Bool.and_eq_true] at h; exact okTo_contains h.1

set_option maxHeartbeats 3200000 in
set_option maxRecDepth 100000 in
theorem first_any (N M : Nat) (G H : Nat → Nat → Bool) (hN : N ≤ 100) (hM : M ≤ 100) : ∀ (f : Nat) (l : List Nat) (gv hv s : Value) (w : World), f + l.length = M → (∀ x ∈ l, x < N) → IsInts w s (ints l) → HasGrid w gv N G → HasGrid w hv M H →
    Calls Try.prog 39 #[gv, hv, s] w (FirstPost (tryF N G H f l) w) := by
  intro f
  induction f with
  | zero =>
    intro l gv hv s w hf hx hi hg hh
    obtain ⟨ha, hc, rfl⟩ := hh.len
    have Hi := Lib.hid hi
    obtain ⟨a, cap, b, o, rfl, -⟩ := hi
    have e : (((ints l).length : Int) == (M : Int)) = true := by simp [ints_length]; omega
    clear hg hh hx hf
    go_enter Try.func39, Try.ntmps39
    go_wp2
    go_ret2
    exact Or.inl ⟨l, _, rfl, rfl, Hi.out, Below.refl _ _⟩
  | succ f ih =>
    intro l gv hv s w hf hx hi hg hh
    obtain ⟨ha, hc, rfl⟩ := hh.len
    obtain ⟨ga, gc, rfl⟩ := hg.len
    have Hi := Lib.hid hi
    have Hg := Lib.hid hg
    have Hh := Lib.hid hh
    have Hx := Lib.hid hx
    obtain ⟨a, cap, b, o, rfl, hcap, hmax, -⟩ := hi
    have hlen := ints_length l
    rw [hlen] at hcap
    have e : (((ints l).length : Int) == (M : Int)) = false := by simp [ints_length]; omega
    rw [hlen] at e
    simp only [hlen] at *
    clear hg hh hx hlen
    go_enter Try.func39, Try.ntmps39
    go_wp2
    clear e
    go_loopg [9] N (fun g s9 wr => ∃ v : Nat, v ≤ N ∧ g = N - v ∧ s9 = .int .i64 v ∧ Below w.heap.size w wr ∧ ∀ u, u < v → (if okTo G H l u l.length l.length then tryF N G H f (l ++ [u]) else none) = none)
    case atStart => exact ⟨0, Nat.zero_le _, rfl, rfl, Below.refl _ _, fun _ h => absurd h (Nat.not_lt_zero _)⟩
    case round =>
      obtain ⟨v, hvN, rfl, rfl, hb, hno⟩ := hrel
      have Hno := Lib.hid hno
      have Hb := Lib.hid hb
      clear hno hb
      by_cases hlt : v < N
      · go_wp2_with (go_at_call 82; refine (has2_any l _ v _ (Hi.out.below Hb.out)).mono ?_; rintro e w' ⟨rfl, rfl⟩)
        obtain ⟨wo, rfl⟩ : ∃ wo : World, wo = wr := ⟨_, rfl⟩
        go_loopg [10, 11] l.length (fun g s10 s11 wr => ∃ i : Nat, i ≤ l.length ∧ g = l.length - i ∧ s11 = .int .i64 i ∧ s10 = .bool (okTo G H l v l.length i) ∧ Below wo.heap.size wo wr)
        case atStart => exact ⟨0, Nat.zero_le _, rfl, rfl, congrArg Value.bool (by simp [okTo]), Below.refl _ _⟩
        case round =>
          obtain ⟨i, hil, rfl, rfl, rfl, hbi⟩ := hrel
          have hb0 := Hb.out.trans (hbi.mono Hb.out.size)
          have Hbi := Lib.hid hbi
          have hkM : l.length < M := by omega
          by_cases hli : i < l.length
          · obtain ⟨hb1, ho1, hc1, hr1, hev, hh1, hh2⟩ := (Hh.out.below hb0).entry hkM (show i < M by omega)
            obtain ⟨lb, lo, hla, hl1⟩ := ints_at' Hi.out hb0 hli
            have hxl : l.getD i 0 < N := Hx.out _ (by rw [List.getD_eq_getElem?_getD, List.getElem?_eq_getElem hli]; exact List.getElem_mem hli)
            obtain ⟨gb1, go1, gc1, gr1, gev, gg1, gg2⟩ := (Hg.out.below hb0).entry hlt hxl
            simp only [Value.slice.injEq, true_and] at hev gev
            obtain ⟨rfl, rfl⟩ := hev
            obtain ⟨rfl, rfl⟩ := gev
            subst hla
            have hst : okTo G H l v l.length (i + 1) = (okTo G H l v l.length i && (!H l.length i || G v (l.getD i 0))) := rfl
            have Hst := Lib.hid hst
            clear hst hbi hb0
            generalize okTo G H l v l.length i = c at *
            generalize H l.length i = x at *
            generalize hy : G v (l.getD i 0) = y at *
            clear hy
            generalize l.getD i 0 = li at *
            cases c
            · go_wp2
              go_quiet (fail)
              go_wp2
              go_roundg (l.length - (i + 1))
              case measure => go_light; omega
              case rel => exact ⟨i + 1, by omega, rfl, by go_num, by rw [Hst.out]; rfl, Below.drewN' Hbi.out _⟩
            · cases x
              · go_wp2
                go_quiet (fail)
                go_wp2
                go_roundg (l.length - (i + 1))
                case measure => go_light; omega
                case rel => exact ⟨i + 1, by omega, rfl, by go_num, by rw [Hst.out]; rfl, Below.drewN' Hbi.out _⟩
              · go_wp2
                go_quiet (fail)
                go_wp2
                go_roundg (l.length - (i + 1))
                case measure => go_light; omega
                case rel => exact ⟨i + 1, by omega, rfl, by go_num, by rw [Hst.out]; simp, Below.drewN' Hbi.out _⟩
          · obtain rfl : i = l.length := by omega
            have Hb0 := Lib.hid hb0
            have hvN' : v < N := hlt
            clear hbi hb0 hlt
            cases hc : okTo G H l v l.length l.length
            · have Hc := Lib.hid hc
              clear hc
              go_wp2
              go_roundg (N - (v + 1))
              case measure => go_light; omega
              case rel => exact ⟨v + 1, by omega, rfl, by go_num, Hb0.out, fun u hu => by
                by_cases e : u = v
                · subst e; rw [if_neg (by rw [Hc.out]; exact Bool.false_ne_true)]
                · exact Hno.out u (by omega)⟩
            · have Hc := Lib.hid hc
              clear hc
              have Hiw := Lib.hid (Hi.out.below Hb0.out)
              have hsz := Hb0.out.size
              go_wp2_with (first
                | (at_builtin; refine wpList_append_has rfl (.const (.slice none 0 0)) (.tmp 63) 51 rfl w.heap.size 3 (.int .i64 0) 8 Try.underlying51 info3 rfl _ 0 [] rfl (World.ownsRow_nil _ _ _ _) _ l.length ((ints l).map (Value.int .i64)) rfl ((ints_length l) ▸ Hiw.out.cells) (by omega) (by omega) (by omega) ?_; intro a1 c1 w1 hown1 hg1; simp only [Nat.zero_add, List.nil_append] at hown1; have hsz1 := hg1.size)
                | (at_builtin; refine wpList_append_has rfl (.tmp 64) (.tmp 66) 51 rfl w.heap.size 3 (.int .i64 0) 8 Try.underlying51 info3 rfl _ l.length ((ints l).map (Value.int .i64)) rfl (hown1.alloc _) _ 1 [.int .i64 (v : Int)] rfl (HasCells.one _ _ _ rfl) (by omega) (by omega) (by simp; omega) ?_; intro a2 c2 w2 hown2 hg2)
                | fail)
              have hbw1 := (Hb0.out.trans ((below_grown0 hg1).mono Hb0.out.size)).alloc (by omega) (Obj.cells #[Value.int .i64 (v : Int)] 3)
              have hb2 := hbw1.grown hg2 (by rw [World.size_alloc]; omega) (fun g e => (hown1.lt g e).1)
              have hi2 : IsInts w2 (.slice a2 (l.length + 1) c2) (ints (l ++ [v])) := IsInts.owned (base := w.heap.size) (e := 3) (n := l.length + 1) (by rw [ints_snoc, List.map_append]; exact hown2)
              have Hb2 := Lib.hid hb2
              have Hi2 := Lib.hid hi2
              clear hbw1 hb2 hi2 hown1 hown2 hg1 hg2 hsz1
              refine (ih (l ++ [v]) _ _ _ _ (by simp; omega) (fun x hx => by
                rcases List.mem_append.1 hx with h | h
                · exact Hx.out x h
                · obtain rfl : x = v := by simpa using h
                  exact hvN') Hi2.out (Hg.out.below Hb2.out) (Hh.out.below Hb2.out)).mono ?_
              rintro e w3 (⟨r, v3, hr, rfl, hi3, hb3⟩ | ⟨hr, rfl, hb3⟩)
              · have Hr := Lib.hid hr
                have Hi3 := Lib.hid hi3
                have Hb3 := Lib.hid hb3
                clear hr hi3 hb3
                go_wp2
                go_ret2
                exact Or.inl ⟨r, _, by
                  rw [tryF]
                  exact firstOf_some (v := v) Hno.out (by rw [if_pos Hc.out]; exact Hr.out) hvN', rfl, Hi3.out, Hb2.out.trans (Hb3.out.mono Hb2.out.size)⟩
              · have Hr := Lib.hid hr
                have Hb3 := Lib.hid hb3
                clear hr hb3
                go_wp2
                go_roundg (N - (v + 1))
                case measure => go_light; omega
                case rel => exact ⟨v + 1, by omega, rfl, by go_num, Hb2.out.trans (Hb3.out.mono Hb2.out.size), fun u hu => by
                  by_cases e : u = v
                  · subst e; rw [if_pos Hc.out]; exact Hr.out
                  · exact Hno.out u (by omega)⟩
      · obtain rfl : v = N := by omega
        go_wp2
        go_ret2
        exact Or.inr ⟨by rw [tryF]; exact firstOf_none Hno.out, rfl, Hb.out⟩

end Go.Proofs.Ytfflnpcbpcldeaa
