/- arborref.Sparse answers false where there is no such colouring. -/
import Derived.Test.YtfflnpcbpcldeaaDoorColg
import Derived.Test.YtfflnpcbpcldeaaDoorOwn
import Derived.Test.YtfflnpcbpcldeaaDoorBase
namespace Go.Proofs.YtfflnpcbpcldeaaDoor
open Go.RowKit

/-- A list of colours where nodes that see one another have two. -/
def PropL (G : Nat → Nat → Bool) (L : List Nat) : Prop := ∀ u, u < L.length → ∀ v, v < L.length → G u v = true → L.getD u 0 ≠ L.getD v 0
theorem PropL.snoc {G : Nat → Nat → Bool} {L : List Nat} {c : Nat} (h : PropL G L) (hs : ∀ u v, G u v = G v u) (hi : ∀ u, G u u = false) (hc : ∀ w, w < L.length → G L.length w = true → L.getD w 0 ≠ c) : PropL G (L ++ [c]) := by
  have e1 : ∀ j, j < L.length → (L ++ [c]).getD j 0 = L.getD j 0 := fun j hj => by simp [List.getD, List.getElem?_append_left hj]
  have e2 : (L ++ [c]).getD L.length 0 = c := by simp [List.getD]
  intro u hu v hv hg
  rw [List.length_append, List.length_singleton] at hu hv
  by_cases h1 : u < L.length <;> by_cases h2 : v < L.length
  · rw [e1 u h1, e1 v h2]; exact h u h1 v h2 hg
  · obtain rfl : v = L.length := by omega
    rw [e1 u h1, e2]; rw [hs] at hg; exact hc u h1 hg
  · obtain rfl : u = L.length := by omega
    rw [e1 v h2, e2]; exact fun e => hc v h2 hg e.symm
  · obtain rfl : u = v := by omega
    rw [hi] at hg; cases hg
/-- An operation behind '&&', where the test has come out so. -/
theorem wpList_guarded {P : Program} {ops : Array Oper} {Q : Exit → Act → World → Prop} {a : Act} {w : World} {rest : List Oper} {o : Oper} (hw : Region.wanted o (yielded ops a.tmps) = true)
    (h : wpList P ops Q ({ o with guard := none } :: rest) a w) : wpList P ops Q (o :: rest) a w := by
  unfold wpList at h ⊢
  rw [if_pos hw]
  rw [if_pos (by simp [Region.wanted])] at h
  exact h
theorem ints_entry {w wr : World} {l : List Nat} {a : Option Addr} {c n : Nat} (h : IsInts w (.slice a n c) (ints l)) (hb : Below w.heap.size w wr) {k : Nat} (hk : k < l.length) :
    ∃ b o, a = some ⟨b, o, none⟩ ∧ wr.cell? ⟨b, o + k, none⟩ = some (.int .i64 ((l.getD k 0 : Nat) : Int)) := ints_at' h hb hk

set_option maxHeartbeats 3200000 in
set_option maxRecDepth 100000 in
theorem sparse_no (N K : Nat) (G : Nat → Nat → Bool) (hN : N ≤ 100) (hK : K ≤ 1000) (hsy : ∀ u v, G u v = G v u) (hirr : ∀ u, G u u = false) : ∀ (f : Nat) (l : List Nat) (used : Nat) (gv s : Value) (w : World), f + l.length = N → (∀ x ∈ l, x < K) → PropL G l → used ≤ l.length → IsInts w s (ints l) → HasGrid w gv N G →
    (∀ L : List Nat, L.length = N → L.take l.length = l → (∀ x ∈ L, x < K) → ¬ PropL G L) →
    Calls Tryd.prog 29 #[gv, .int .i64 (K : Int), .int .i64 (used : Int), s] w fun e w' => e = .returned (.bool false) ∧ Below w.heap.size w w' := by
  intro f
  induction f with
  | zero =>
    intro l used gv s w hf hx hpr _ _ _ hno
    exact absurd hpr (hno l (by omega) (by rw [List.take_length]) hx)
  | succ f ih =>
    intro l used gv s w hf hx hpr hus hi hg hno
    have Hg := Lib.hid hg
    obtain ⟨ga, gc, rfl⟩ : ∃ a c, gv = .slice a N c := by
      obtain ⟨B, a, c, b, o, R, rfl, _⟩ := hg
      exact ⟨a, c, rfl⟩
    obtain ⟨a, cap, b, o, rfl, hcap, hmax, -⟩ := id hi
    have hlen := ints_length l
    rw [hlen] at hcap hi
    have e : ((l.length : Int) == (N : Int)) = false := by simp; omega
    have Hi := Lib.hid hi; have Hx := Lib.hid hx; have Hno := Lib.hid hno; have Hpr := Lib.hid hpr; have Hsy := Lib.hid hsy; have Hirr := Lib.hid hirr
    have hlN : l.length < N := by omega
    rw [hlen]
    clear hg hx hi hno hlen hpr hsy hirr
    go_enter Tryd.func29, Tryd.ntmps29
    go_wp2
    clear e
    go_loopg [10] (used + 1) (fun g s10 wr => ∃ c : Nat, c ≤ used + 1 ∧ g = used + 1 - c ∧ s10 = .int .i64 c ∧ Below w.heap.size w wr)
    case atStart => exact ⟨0, Nat.zero_le _, rfl, rfl, Below.refl _ _⟩
    case round =>
      obtain ⟨c, hc, rfl, rfl, hb⟩ := hrel
      have Hb := Lib.hid hb
      clear hb
      by_cases hcu : c ≤ used
      · by_cases hck : c < K
        · go_wp2
          go_loopg [11, 12] l.length (fun g s11 s12 wx => ∃ (u : Nat) (ok : Bool), u ≤ l.length ∧ g = l.length - u ∧ s11 = .bool ok ∧ s12 = .int .i64 (u : Int) ∧ (ok = true → ∀ q, q < u → G l.length q = true → l.getD q 0 ≠ c) ∧ Below w.heap.size w wx)
          case atStart => exact ⟨0, true, Nat.zero_le _, rfl, rfl, rfl, fun _ q hq => absurd hq (Nat.not_lt_zero _), Hb.out⟩
          case round =>
            obtain ⟨u, ok, hu, rfl, rfl, rfl, hok, hb⟩ := hrel
            have Hok := Lib.hid hok; have Hb3 := Lib.hid hb
            have hsz := hb.size
            by_cases hul : u < l.length
            · obtain ⟨gb, go, gc', gr, ge, c1, c2⟩ := (Hg.out.below hb).entry hlN (show u < N by omega)
              simp only [Value.slice.injEq, true_and] at ge
              obtain ⟨rfl, rfl⟩ := ge
              obtain ⟨lb, lo, rfl, c3⟩ := ints_entry Hi.out hb hul
              clear hb hok
              cases ok with
              | false =>
                clear c1 c2 c3
                go_wp2
                go_roundg (l.length - (u + 1))
                case measure => go_light; omega
                case rel => exact ⟨u + 1, false, by omega, rfl, rfl, by go_num, (fun h => by cases h), Hb3.out⟩
              | true =>
                cases hG : G l.length u with
                | false =>
                  rw [hG] at c2
                  have HG := Lib.hid hG
                  clear hG c3
                  go_wp2
                  go_roundg (l.length - (u + 1))
                  case measure => go_light; omega
                  case rel => exact ⟨u + 1, true, by omega, rfl, rfl, by go_num, (fun h q hq hg => by
                    by_cases e : q = u
                    · subst e; rw [HG.out] at hg; cases hg
                    · exact Hok.out trivial q (by omega) hg), Hb3.out⟩
                | true =>
                  rw [hG] at c2
                  clear hG
                  by_cases hlc : l.getD u 0 = c
                  · have q0 : ((l.getD u 0 : Nat) : Int) = (c : Int) := by rw [hlc]
                    rw [q0] at c3
                    clear hlc q0
                    go_wp2
                    go_roundg (l.length - (u + 1))
                    case measure => go_light; omega
                    case rel => exact ⟨u + 1, false, by omega, rfl, rfl, by go_num, (fun h => by cases h), Hb3.out⟩
                  · have Hlc := Lib.hid hlc
                    have q0 : (((l.getD u 0 : Nat) : Int) == (c : Int)) = false := by simp only [beq_eq_false_iff_ne, ne_eq]; omega
                    generalize hd : l.getD u 0 = d at *
                    have Hd := Lib.hid hd
                    clear hlc hd
                    go_wp2
                    go_roundg (l.length - (u + 1))
                    case measure => go_light; omega
                    case rel => exact ⟨u + 1, true, by omega, rfl, rfl, by go_num, (fun h q hq hg => by
                      by_cases e : q = u
                      · subst e; rw [Hd.out]; exact Hlc.out
                      · exact Hok.out trivial q (by omega) hg), Hb3.out⟩
            · obtain rfl : u = l.length := by omega
              have Hiw := Lib.hid (Hi.out.below hb)
              clear hb hok
              by_cases hcs : c = used
              · have q1 : ((c : Int) == (used : Int)) = true := by simp [hcs]
                have hcs2 : used ≤ c := by omega
                clear hcs
                cases ok with
                | false =>
                  go_wp2
                  go_roundg (used + 1 - (c + 1))
                  case measure => go_light; omega
                  case rel => exact ⟨c + 1, by omega, rfl, by go_num, Hb3.out⟩
                | true =>
                  have Hokk := Lib.hid (Hok.out rfl)
                  go_wp2_with (first
                    | (at_builtin; refine wpList_guarded (by first | rfl | simp [Region.wanted, yielded, go_sem]) ?_; refine wpList_append_has rfl (.const (.slice none 0 0)) (.tmp 65) 29 rfl w.heap.size 3 (.int .i64 0) 8 Tryd.underlying29 info3 rfl _ 0 [] rfl (World.ownsRow_nil _ _ _ _) _ l.length ((ints l).map (Value.int .i64)) rfl ((ints_length l) ▸ Hiw.out.cells) (by omega) (by omega) (by omega) ?_; intro a1 c1 w1 hown1 hg1; simp only [Nat.zero_add, List.nil_append] at hown1; have hsz1 := hg1.size)
                    | (at_builtin; refine wpList_guarded (by first | rfl | simp [Region.wanted, yielded, go_sem]) ?_; refine wpList_append_has rfl (.tmp 66) (.tmp 68) 29 rfl w.heap.size 3 (.int .i64 0) 8 Tryd.underlying29 info3 rfl _ l.length ((ints l).map (Value.int .i64)) rfl (hown1.alloc _) _ 1 [.int .i64 (c : Int)] rfl (HasCells.one _ _ _ rfl) (by omega) (by omega) (by simp; omega) ?_; intro a2 c2 w2 hown2 hg2)
                    | fail)
                  have hbw1 := (Hb3.out.trans ((below_grown0 hg1).mono Hb3.out.size)).alloc (by omega) (Obj.cells #[Value.int .i64 (c : Int)] 3)
                  have hb2 := hbw1.grown hg2 (by rw [World.size_alloc]; omega) (fun g e => (hown1.lt g e).1)
                  have hi2 : IsInts w2 (.slice a2 (l.length + 1) c2) (ints (l ++ [c])) := IsInts.owned (base := w.heap.size) (e := 3) (n := l.length + 1) (by rw [ints_snoc, List.map_append]; exact hown2)
                  have Hb4 := Lib.hid hb2
                  have Hi2 := Lib.hid hi2
                  clear hbw1 hb2 hi2 hown1 hown2 hg1 hg2 hsz1
                  refine (ih (l ++ [c]) (used + 1) _ _ _ (by simp; omega) (fun x hx => by
                    rcases List.mem_append.1 hx with h | h
                    · exact Hx.out x h
                    · obtain rfl : x = c := by simpa using h
                      exact hck) (Hpr.out.snoc Hsy.out Hirr.out Hokk.out) (by simp; omega) Hi2.out (Hg.out.below Hb4.out) (fun L h1 h2 h3 => Hno.out L h1 (by
                        have := congrArg (List.take l.length) h2
                        rw [List.take_take, Nat.min_eq_left (by simp)] at this
                        rw [this]; simp) h3)).mono ?_
                  rintro e w3 ⟨rfl, hb3⟩
                  have Hb5 := Lib.hid (Hb4.out.trans (hb3.mono Hb4.out.size))
                  clear hb3
                  go_wp2
                  go_roundg (used + 1 - (c + 1))
                  case measure => go_light; omega
                  case rel => exact ⟨c + 1, by omega, rfl, by go_num, Hb5.out⟩
              · have q1 : ((c : Int) == (used : Int)) = false := by simp only [beq_eq_false_iff_ne, ne_eq]; omega
                have hcs2 : c < used := by omega
                clear hcs
                cases ok with
                | false =>
                  go_wp2
                  go_roundg (used + 1 - (c + 1))
                  case measure => go_light; omega
                  case rel => exact ⟨c + 1, by omega, rfl, by go_num, Hb3.out⟩
                | true =>
                  have Hokk := Lib.hid (Hok.out rfl)
                  go_wp2_with (first
                    | (at_builtin; refine wpList_guarded (by first | rfl | simp [Region.wanted, yielded, go_sem]) ?_; refine wpList_append_has rfl (.const (.slice none 0 0)) (.tmp 65) 29 rfl w.heap.size 3 (.int .i64 0) 8 Tryd.underlying29 info3 rfl _ 0 [] rfl (World.ownsRow_nil _ _ _ _) _ l.length ((ints l).map (Value.int .i64)) rfl ((ints_length l) ▸ Hiw.out.cells) (by omega) (by omega) (by omega) ?_; intro a1 c1 w1 hown1 hg1; simp only [Nat.zero_add, List.nil_append] at hown1; have hsz1 := hg1.size)
                    | (at_builtin; refine wpList_guarded (by first | rfl | simp [Region.wanted, yielded, go_sem]) ?_; refine wpList_append_has rfl (.tmp 66) (.tmp 68) 29 rfl w.heap.size 3 (.int .i64 0) 8 Tryd.underlying29 info3 rfl _ l.length ((ints l).map (Value.int .i64)) rfl (hown1.alloc _) _ 1 [.int .i64 (c : Int)] rfl (HasCells.one _ _ _ rfl) (by omega) (by omega) (by simp; omega) ?_; intro a2 c2 w2 hown2 hg2)
                    | fail)
                  have hbw1 := (Hb3.out.trans ((below_grown0 hg1).mono Hb3.out.size)).alloc (by omega) (Obj.cells #[Value.int .i64 (c : Int)] 3)
                  have hb2 := hbw1.grown hg2 (by rw [World.size_alloc]; omega) (fun g e => (hown1.lt g e).1)
                  have hi2 : IsInts w2 (.slice a2 (l.length + 1) c2) (ints (l ++ [c])) := IsInts.owned (base := w.heap.size) (e := 3) (n := l.length + 1) (by rw [ints_snoc, List.map_append]; exact hown2)
                  have Hb4 := Lib.hid hb2
                  have Hi2 := Lib.hid hi2
                  clear hbw1 hb2 hi2 hown1 hown2 hg1 hg2 hsz1
                  refine (ih (l ++ [c]) (used) _ _ _ (by simp; omega) (fun x hx => by
                    rcases List.mem_append.1 hx with h | h
                    · exact Hx.out x h
                    · obtain rfl : x = c := by simpa using h
                      exact hck) (Hpr.out.snoc Hsy.out Hirr.out Hokk.out) (by simp; omega) Hi2.out (Hg.out.below Hb4.out) (fun L h1 h2 h3 => Hno.out L h1 (by
                        have := congrArg (List.take l.length) h2
                        rw [List.take_take, Nat.min_eq_left (by simp)] at this
                        rw [this]; simp) h3)).mono ?_
                  rintro e w3 ⟨rfl, hb3⟩
                  have Hb5 := Lib.hid (Hb4.out.trans (hb3.mono Hb4.out.size))
                  clear hb3
                  go_wp2
                  go_roundg (used + 1 - (c + 1))
                  case measure => go_light; omega
                  case rel => exact ⟨c + 1, by omega, rfl, by go_num, Hb5.out⟩
        · have hck2 : K ≤ c := by omega
          clear hck
          go_wp2
          go_ret
          exact ⟨rfl, Hb.out⟩
      · have hcu2 : used < c := by omega
        clear hcu
        go_wp2
        go_ret
        exact ⟨rfl, Hb.out⟩

end Go.Proofs.YtfflnpcbpcldeaaDoor
