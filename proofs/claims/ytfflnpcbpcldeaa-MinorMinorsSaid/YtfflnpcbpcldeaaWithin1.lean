/- The function literal of minor.Within: the search, by bits. -/
import Derived.Test.YtfflnpcbpcldeaaTryF
import Derived.Test.YtfflnpcbpcldeaaBits
import Derived.Test.YtfflnpcbpcldeaaFirst
import Derived.OneCell
import Derived.Shelf.Abstract
namespace Go.Proofs.Ytfflnpcbpcldeaa
open Go.RowKit

theorem eg_within1 : ∀ args w, (callFunc 81 args).run Try.prog w = .ok (.enter 81 args) w := enters_of Try.func81 (by kernel_rfl) rfl

/-- A row of one's own that is not empty. -/
theorem ownsRow_some {w : World} {base : Nat} {e : TypeId} {v : Value} {n : Nat} {xs : List Value} (h : w.ownsRow base e 1 v (n + 1) xs) : ∃ g cap, v = .slice (some ⟨g, 0, none⟩) (n + 1) cap ∧ n + 1 ≤ cap ∧ cap ≤ 9223372036854775807 := by
  rcases h.2 with ⟨_, h2⟩ | ⟨g, cap, cur, rfl, _, _, h3, h4, _⟩
  · cases h2
  · exact ⟨g, cap, rfl, h3, by unfold maxLen at h4; omega⟩

/-- What the search reads; its own memory lies from base on, and in bT. -/
structure WEnv (w : World) (N M : Nat) (mg mh : Nat → Nat) (bT bH bG bW bN bF rW rN base : Nat) : Prop where
  cg : w.cell? ⟨bG, 0, none⟩ = some (.int .i64 (N : Int))
  ch : w.cell? ⟨bH, 0, none⟩ = some (.int .i64 (M : Int))
  cw : w.cell? ⟨bW, 0, none⟩ = some (.slice (some ⟨rW, 0, none⟩) M M)
  cn : w.cell? ⟨bN, 0, none⟩ = some (.slice (some ⟨rN, 0, none⟩) N N)
  rw : w.rowIs rW 3 M (rn mh)
  rn : w.rowIs rN 3 N (rn mg)
  cf : w.cell? ⟨bF, 0, none⟩ = some (.func (.func 81) #[] #[.pointer (some ⟨bT, 0, none⟩), .pointer (some ⟨bH, 0, none⟩), .pointer (some ⟨bG, 0, none⟩), .pointer (some ⟨bW, 0, none⟩), .pointer (some ⟨bN, 0, none⟩), .pointer (some ⟨bF, 0, none⟩)])
  lt : bG < base ∧ bH < base ∧ bW < base ∧ bN < base ∧ bF < base ∧ rW < base ∧ rN < base ∧ bT < base
  ne : bG ≠ bT ∧ bH ≠ bT ∧ bW ≠ bT ∧ bN ≠ bT ∧ bF ≠ bT ∧ rW ≠ bT ∧ rN ≠ bT
  sz : base ≤ w.heap.size

/-- What the search may turn. -/
abbrev Turns (bT base : Nat) : Nat → Prop := fun k => k = bT ∨ base ≤ k

section
variable {w w' : World} {N M : Nat} {mg mh : Nat → Nat} {bT bH bG bW bN bF rW rN base : Nat}
theorem WEnv.chg (h : WEnv w N M mg mh bT bH bG bW bN bF rW rN base) (hc : Chg (Turns bT base) w w') : WEnv w' N M mg mh bT bH bG bW bN bF rW rN base := by
  obtain ⟨l1, l2, l3, l4, l5, l6, l7, l8⟩ := h.lt
  obtain ⟨n1, n2, n3, n4, n5, n6, n7⟩ := h.ne
  have t : ∀ k, k < base → k ≠ bT → ¬ Turns bT base k := fun k h1 h2 h3 => by
    rcases h3 with h3 | h3
    · exact h2 h3
    · omega
  exact ⟨hc.cell h.cg (t _ l1 n1), hc.cell h.ch (t _ l2 n2), hc.cell h.cw (t _ l3 n3), hc.cell h.cn (t _ l4 n4), hc.rowIs h.rw (t _ l6 n6), hc.rowIs h.rn (t _ l7 n7), hc.cell h.cf (t _ l5 n5), h.lt, h.ne, Nat.le_trans h.sz hc.size⟩
end

/-- The list under way: a row of one's own, in the variable bT. -/
def Holds (w : World) (bT base : Nat) (l : List Nat) : Prop := ∃ v, w.heap[bT]? = some (.cells #[v] 51 (0, 0)) ∧ w.ownsRow base 3 1 v l.length ((ints l).map (Value.int .i64))

theorem Holds.chg0 {w w' : World} {bT base : Nat} {l : List Nat} (h : Holds w bT base l) (hb : Below w.heap.size w w') : Holds w' bT base l := by
  obtain ⟨v, h1, h2⟩ := h
  exact ⟨v, by rw [hb.block _ (lt_of_block h1)]; exact h1, ownsRow_below h2 hb (Nat.le_refl _)⟩

/-- 'to = append(to, v)' and what it stores. -/
theorem Holds.push {w w2 : World} {bT base v : Nat} {l : List Nat} {s s2 : Value} {o : Obj} (h1 : w.heap[bT]? = some (.cells #[s] 51 (0, 0))) (h2 : w.ownsRow base 3 1 s l.length ((ints l).map (Value.int .i64))) (hT : bT < base)
    (hz : base ≤ w.heap.size) (ho : w2.ownsRow base 3 1 s2 (l.length + 1) ((ints l).map (Value.int .i64) ++ [.int .i64 (v : Int)])) (hg : (w.alloc o).grownBy w2 s.ownBlock) :
    w2.heap[bT]? = some (.cells #[s] 51 (0, 0)) ∧ Holds (w2.setCell ⟨bT, 0, none⟩ s2) bT base (l ++ [v]) ∧ Chg (Turns bT base) w (w2.setCell ⟨bT, 0, none⟩ s2) := by
  have hlt := lt_of_block h1
  have e1 : w2.heap[bT]? = some (.cells #[s] 51 (0, 0)) := by
    rw [hg.block bT (by rw [World.size_alloc]; omega) (fun e => by have := (h2.lt bT e.symm).1; omega), (below1 w o).block bT hlt]
    exact h1
  have ho' : w2.ownsRow base 3 1 s2 (l ++ [v]).length ((ints (l ++ [v])).map (Value.int .i64)) := by
    rw [ints_snoc, List.map_append, List.length_append]; exact ho
  refine ⟨e1, ⟨s2, one_setCell e1, ho'.kept (grown_set w2 bT 0 s2) ?_⟩, ?_⟩
  · cases hv : s2.ownBlock with
    | none => exact Or.inl rfl
    | some g =>
      have := (ho'.lt g hv).1
      exact Or.inr (fun e => by cases e; omega)
  · have c1 : Chg (Turns bT base) w (w.alloc o) := (Chg.refl _ _).alloc _
    have c2 : Chg (Turns bT base) (w.alloc o) w2 := ⟨hg.os, hg.tape, hg.output, hg.size, fun k hk hs => hg.block k hk (fun e => hs (Or.inr (h2.lt k e.symm).1))⟩
    exact (c1.trans c2).setCell (p := ⟨bT, 0, none⟩) (fun _ => Or.inl rfl) _

/-- 'to = to[:k]'. -/
theorem Holds.pop {w : World} {bT base v g cap : Nat} {l : List Nat} (h1 : w.heap[bT]? = some (.cells #[.slice (some ⟨g, 0, none⟩) (l.length + 1) cap] 51 (0, 0))) (hT : bT < base)
    (h2 : w.ownsRow base 3 1 (.slice (some ⟨g, 0, none⟩) (l.length + 1) cap) (l.length + 1) ((ints (l ++ [v])).map (Value.int .i64))) :
    Holds (w.setCell ⟨bT, 0, none⟩ (.slice (some ⟨g, 0, none⟩) l.length cap)) bT base l ∧ Chg (Turns bT base) w (w.setCell ⟨bT, 0, none⟩ (.slice (some ⟨g, 0, none⟩) l.length cap)) := by
  rw [ints_snoc, List.map_append] at h2
  have h3 := ownsRow_pop (last := [.int .i64 (v : Int)]) (by simp [ints_length]) h2
  refine ⟨⟨_, one_setCell h1, h3.kept (grown_set w bT 0 _) (Or.inr (fun e => ?_))⟩, (Chg.refl _ _).setCell (p := ⟨bT, 0, none⟩) (fun _ => Or.inl rfl) _⟩
  have := (h3.lt g rfl).1
  have e' : g = bT := by simpa [Value.ownBlock] using e
  omega

def TryPost (r : Option (List Nat)) (l : List Nat) (bT base : Nat) (w : World) (e : Ending) (w' : World) : Prop :=
  Chg (Turns bT base) w w' ∧ ((∃ r', r = some r' ∧ e = .returned (.bool true) ∧ Holds w' bT base r') ∨ (r = none ∧ e = .returned (.bool false) ∧ Holds w' bT base l))

/-- What the masks tell. -/
abbrev tells (m : Nat → Nat) : Nat → Nat → Bool := fun i j => (m i).testBit j

theorem okTo_stays {G H : Nat → Nat → Bool} {l : List Nat} {v k : Nat} {i : Nat} (h : okTo G H l v k i = false) : ∀ j, i ≤ j → okTo G H l v k j = false := by
  intro j
  induction j with
  | zero => intro hj; obtain rfl : i = 0 := by omega
            exact h
  | succ j ih =>
    intro hj
    by_cases e : i = j + 1
    · subst e; exact h
    · rw [okTo, ih (by omega)]; rfl

set_option maxHeartbeats 6400000 in
set_option maxRecDepth 100000 in
theorem within1_any (N M : Nat) (mg mh : Nat → Nat) (bT bH bG bW bN bF rW rN base : Nat) (hN : N ≤ 10) (hM : M ≤ 6) (fg : ∀ i, i < N → Few (mg i)) (fh : ∀ i, i < M → Few (mh i)) : ∀ (f : Nat) (l : List Nat) (used : Nat) (w : World),
    f + l.length = M → (∀ x ∈ l, x < N) → (∀ u, u < N → used.testBit u = l.contains u) → Few used → WEnv w N M mg mh bT bH bG bW bN bF rW rN base → Holds w bT base l →
    Calls Try.prog 81 #[.int .i64 (used : Int), .pointer (some ⟨bT, 0, none⟩), .pointer (some ⟨bH, 0, none⟩), .pointer (some ⟨bG, 0, none⟩), .pointer (some ⟨bW, 0, none⟩), .pointer (some ⟨bN, 0, none⟩), .pointer (some ⟨bF, 0, none⟩)] w
      (TryPost (tryF N (tells mg) (tells mh) f l) l bT base w) := by
  intro f
  induction f with
  | zero =>
    intro l used w hf hx hu hfu he hh
    have Hh := Lib.hid hh
    obtain ⟨v, h1, h2⟩ := hh
    obtain ⟨a, c, rfl⟩ := ownsRow_form h2
    have ct := cell_of_one h1
    have ch := he.ch
    have e : (((l.length : Nat) : Int) == (M : Int)) = true := by simp; omega
    clear hx hu hfu he h1 h2 hf
    go_enter Try.func81, Try.ntmps81
    go_wp2
    go_ret
    exact ⟨Chg.refl _ _, Or.inl ⟨l, rfl, rfl, Hh.out⟩⟩
  | succ f ih =>
    intro l used w hf hx hu hfu he hh
    have Hh := Lib.hid hh
    have He := Lib.hid he
    have Hx := Lib.hid hx
    have Hu := Lib.hid hu
    have Fg := Lib.hid fg
    have Fh := Lib.hid fh
    obtain ⟨v, h1, h2⟩ := hh
    obtain ⟨a, c, rfl⟩ := ownsRow_form h2
    have ct := cell_of_one h1
    have ch := he.ch
    have cg := he.cg
    have e : (((l.length : Nat) : Int) == (M : Int)) = false := by simp; omega
    clear hx hu he h1 h2 fg fh
    go_enter Try.func81, Try.ntmps81
    go_wp2
    clear e ct ch cg
    go_loopg [21] N (fun g s21 wr => ∃ v : Nat, v ≤ N ∧ g = N - v ∧ s21 = .int .i64 v ∧ Chg (Turns bT base) w wr ∧ Holds wr bT base l ∧ ∀ u, u < v → (if okTo (tells mg) (tells mh) l u l.length l.length then tryF N (tells mg) (tells mh) f (l ++ [u]) else none) = none)
    case atStart => exact ⟨0, Nat.zero_le _, rfl, rfl, Chg.refl _ _, Hh.out, fun _ h => absurd h (Nat.not_lt_zero _)⟩
    case round =>
      obtain ⟨v, hvN, rfl, rfl, hc, hho, hno⟩ := hrel
      have Hno := Lib.hid hno
      have Hc := Lib.hid hc
      have Hho := Lib.hid hho
      clear hno hc hho
      by_cases hlt : v < N
      · have q1 := op_shr used v
        have q2 : bits .and .i64 (shr used v : Int) 1 = (bit used v : Int) := op_bit hfu
        have q3 : (((bit used v : Nat) : Int) == 0) = okTo (tells mg) (tells mh) l v l.length 0 := by
          have h0 := Hu.out v hlt
          unfold okTo
          rw [← h0]
          cases hb : used.testBit v
          · rw [bit_zero hb]; rfl
          · rw [bit_one hb]; rfl
        go_wp2
        obtain ⟨wo, rfl⟩ : ∃ wo : World, wo = wr := ⟨_, rfl⟩
        clear q1 q2 q3
        go_loopg [11, 12] l.length (fun g s11 s12 wr => ∃ i : Nat, i ≤ l.length ∧ g = l.length - i ∧ s12 = .int .i64 i ∧ s11 = .bool (okTo (tells mg) (tells mh) l v l.length i) ∧ Below wo.heap.size wo wr)
        case atStart => exact ⟨0, Nat.zero_le _, rfl, rfl, rfl, Below.refl _ _⟩
        case round =>
          obtain ⟨i, hil, rfl, rfl, rfl, hbi⟩ := hrel
          have Hc2 := Lib.hid (Hc.out.trans (Chg.ofBelow hbi))
          have Hho2 := Lib.hid (Hho.out.chg0 hbi)
          have Hbi := Lib.hid hbi
          clear hbi
          have hvN' : v < N := hlt
          by_cases hg : i < l.length ∧ okTo (tells mg) (tells mh) l v l.length i = true
          · obtain ⟨hli, hg⟩ := hg
            have e2 := He.out.chg Hc2.out
            obtain ⟨s, hs1, hs2⟩ := Hho2.out
            have his := IsInts.owned (base := base) (e := 3) hs2
            obtain ⟨a2, c2, rfl⟩ := ownsRow_form hs2
            obtain ⟨lb, lo, rfl, hl1⟩ := ints_at' his (Below.refl _ _) hli
            have hxl : l.getD i 0 < N := Hx.out _ (by rw [List.getD_eq_getElem?_getD, List.getElem?_eq_getElem hli]; exact List.getElem_mem hli)
            have ct := cell_of_one hs1
            have cw := e2.cw
            have cn := e2.cn
            have hkM : l.length < M := by omega
            have r1 : wr.cell? ⟨rW, l.length, none⟩ = some (.int .i64 (mh l.length : Int)) := e2.rw.cell hkM
            have r2 : wr.cell? ⟨rN, v, none⟩ = some (.int .i64 (mg v : Int)) := e2.rn.cell hvN'
            have q1 := op_shr (mh l.length) i
            have q2 := op_bit (v := i) (Fh.out _ hkM)
            have q3 := op_shr (mg v) (l.getD i 0)
            have q4 := op_bit (v := l.getD i 0) (Fg.out _ hvN')
            have hst : okTo (tells mg) (tells mh) l v l.length (i + 1) = (okTo (tells mg) (tells mh) l v l.length i && (!tells mh l.length i || tells mg v (l.getD i 0))) := rfl
            rw [hg] at hst
            have Hst := Lib.hid hst
            clear hst e2 his hs1 hs2
            rw [hg]
            generalize l.getD i 0 = li at *
            cases hx : (mh l.length).testBit i
            · rw [bit_zero hx] at q2
              have Hx2 := Lib.hid hx
              clear hx
              go_wp2
              go_quiet (fail)
              go_wp2
              go_roundg (l.length - (i + 1))
              case measure => go_light; omega
              case rel => exact ⟨i + 1, by omega, rfl, by go_num, by rw [Hst.out]; simp [tells, Hx2.out], Below.drewN' Hbi.out _⟩
            · rw [bit_one hx] at q2
              have Hx2 := Lib.hid hx
              clear hx
              cases hy : (mg v).testBit li
              · rw [bit_zero hy] at q4
                have Hy2 := Lib.hid hy
                clear hy
                go_wp2
                go_quiet (fail)
                go_wp2
                go_roundg (l.length - (i + 1))
                case measure => go_light; omega
                case rel => exact ⟨i + 1, by omega, rfl, by go_num, by rw [Hst.out]; simp [tells, Hx2.out, Hy2.out], Below.drewN' Hbi.out _⟩
              · rw [bit_one hy] at q4
                have Hy2 := Lib.hid hy
                clear hy
                go_wp2
                go_quiet (fail)
                go_wp2
                go_roundg (l.length - (i + 1))
                case measure => go_light; omega
                case rel => exact ⟨i + 1, by omega, rfl, by go_num, by rw [Hst.out]; simp [tells, Hx2.out, Hy2.out], Below.drewN' Hbi.out _⟩
          · cases hk : okTo (tells mg) (tells mh) l v l.length i
            · have Hk := Lib.hid (okTo_stays hk l.length hil)
              clear hk hg
              by_cases hli : i < l.length
              all_goals
                go_wp2
                go_roundg (N - (v + 1))
                case measure => go_light; omega
                case rel => exact ⟨v + 1, by omega, rfl, by go_num, Hc2.out, Hho2.out, fun u hu => by
                  by_cases e : u = v
                  · subst e; rw [if_neg (by rw [Hk.out]; exact Bool.false_ne_true)]
                  · exact Hno.out u (by omega)⟩
            · have hli : i = l.length := by
                rcases Nat.lt_or_ge i l.length with h | h
                · exact absurd ⟨h, hk⟩ hg
                · omega
              subst hli
              have Hk := Lib.hid hk
              clear hk hg
              have hnc := okTo_contains Hk.out
              have e2 := He.out.chg Hc2.out
              obtain ⟨s, hs1, hs2⟩ := Hho2.out
              have Hs2 := Lib.hid hs2
              have Hs1 := Lib.hid hs1
              obtain ⟨a2, c2, rfl⟩ := ownsRow_form hs2
              have ct := cell_of_one hs1
              have hz := e2.sz
              have hTb := e2.lt.2.2.2.2.2.2.2
              have E2 := Lib.hid e2
              have Hnc := Lib.hid hnc
              clear hs1 hs2 e2 hnc
              go_wp2_with (at_builtin; refine wpList_append_has rfl (.tmp 60) (.tmp 62) 51 rfl base 3 (.int .i64 0) 8 Try.underlying51 info3 rfl _ l.length ((ints l).map (Value.int .i64)) rfl (Hs2.out.alloc _) _ 1 [.int .i64 (v : Int)] rfl (HasCells.one _ _ _ rfl) (by omega) (by omega) (by simp; omega) ?_; intro a3 c3 w3 hown3 hg3; obtain ⟨hp1, hp2, hp3⟩ := Holds.push Hs1.out Hs2.out hTb hz hown3 hg3; have cp1 := cell_of_one hp1; have cp2 := free_of_one hp1; have Hp2 := Lib.hid hp2; have Hp3 := Lib.hid (Hc2.out.trans hp3); clear hp1 hp2 hp3 hown3 hg3)
              clear ct cp1 cp2
              generalize w3.setCell ⟨bT, 0, none⟩ (.slice a3 (l.length + 1) c3) = w4 at *
              have E4 := Lib.hid ((He.out.chg Hp3.out).chg ((Chg.refl _ _).drew))
              have hp4 := Hp2.out.chg0 (w' := w4.drew) (Below.refl _ _).drew
              have hc4 := Hp3.out.drew
              refine region_tail 5 (by kernel_rfl) (by kernel_rfl) ?_
              have cf := E4.out.cf
              have q1 := op_shl (show v < 62 by omega)
              have q2 := op_or hfu (pow2_few (show v < 62 by omega))
              have Hp4 := Lib.hid hp4
              have Hc4 := Lib.hid hc4
              clear hp4 hc4
              generalize w4.drew = w5 at *
              simp only [List.take_succ_cons, List.take_zero, List.drop_succ_cons, List.drop_zero]
              repeat still_step
              refine wpStill_nil ?_
              have eg := eg_within1
              go_wp2_with fail
              refine (ih (l ++ [v]) (lor used (pow2 v)) w5 (by simp; omega) (fun x hx => by
                rcases List.mem_append.1 hx with h | h
                · exact Hx.out x h
                · obtain rfl : x = v := by simpa using h
                  exact hvN') (fun u hu => by
                  rw [lor_bit, pow2_bit, Hu.out u hu]
                  simp [eq_comm]) (lor_few hfu (pow2_few (by omega))) E4.out Hp4.out).mono ?_
              rintro e w6 ⟨hc6, (⟨r', hr, rfl, hh6⟩ | ⟨hr, rfl, hh6⟩)⟩
              · have Hr := Lib.hid hr
                have Hc6 := Lib.hid (Hc4.out.trans hc6)
                have Hh6 := Lib.hid hh6
                clear hr hc6 hh6 q1 q2 cf
                go_wp2
                go_ret
                exact ⟨Hc6.out, Or.inl ⟨r', by
                  rw [tryF]
                  exact firstOf_some (v := v) Hno.out (by rw [if_pos Hk.out]; exact Hr.out) hvN', rfl, Hh6.out⟩⟩
              · obtain ⟨v6, g1, g2⟩ := hh6
                rw [List.length_append] at g2
                obtain ⟨gb, gcap, rfl, gle, gmx⟩ := ownsRow_some (n := l.length) g2
                obtain ⟨i3, hi3, -, -, -⟩ := info_parts info3
                have hsl := run_slice_hi Try.underlying51 hi3 (some ⟨gb, 0, none⟩) (l.length + 1) gcap l.length (by omega)
                obtain ⟨p1, p2⟩ := Holds.pop g1 hTb g2
                have c6 := cell_of_one g1
                have f6 := free_of_one g1
                have Hr := Lib.hid hr
                have Hc6 := Lib.hid ((Hc4.out.trans hc6).trans p2)
                have P1 := Lib.hid p1
                clear hr hc6 q1 q2 cf p1 p2 g1 g2
                go_wp2
                go_roundg (N - (v + 1))
                case measure => go_light; omega
                case rel => exact ⟨v + 1, by omega, rfl, by go_num, Hc6.out, P1.out, fun u hu => by
                  by_cases e : u = v
                  · subst e; rw [if_pos Hk.out]; exact Hr.out
                  · exact Hno.out u (by omega)⟩
      · go_wp2
        go_ret
        obtain rfl : v = N := by omega
        exact ⟨Hc.out, Or.inr ⟨by rw [tryF]; exact firstOf_none Hno.out, rfl, Hho.out⟩⟩

end Go.Proofs.Ytfflnpcbpcldeaa
