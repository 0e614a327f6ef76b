/- The method try of minor's search. -/
import Derived.Test.YtfflnpcbpcldeaaWhole
import Derived.Test.YtfflnpcbpcldeaaWithin1
namespace Go.Proofs.Ytfflnpcbpcldeaa
open Go.RowKit

/-- May the set s stand for node k = S's length? -/
def okS (W : Nat → Bool) (B mh : Nat → Nat) (S : List Nat) (s k : Nat) : Nat → Bool
  | 0 => W s
  | i + 1 => okS W B mh S s k i && (!(mh k).testBit i || decide (land (B s) (S.getD i 0) ≠ 0))
theorem okS_stays {W : Nat → Bool} {B mh : Nat → Nat} {S : List Nat} {s k : Nat} {i : Nat} (h : okS W B mh S s k i = false) : ∀ j, i ≤ j → okS W B mh S s k j = false := by
  intro j
  induction j with
  | zero => intro hj; obtain rfl : i = 0 := by omega
            exact h
  | succ j ih =>
    intro hj
    by_cases e : i = j + 1
    · subst e; exact h
    · rw [okS, ih (by omega)]; rfl
/-- The first list of sets that goes on from S, within left; f: how many are still to come. -/
def tryS (W : Nat → Bool) (B mh : Nat → Nat) : Nat → Nat → List Nat → Option (List Nat)
  | 0, _, S => some S
  | f + 1, left, S => firstFrom (fun s => if okS W B mh S s S.length S.length then tryS W B mh f (less left s) (S ++ [s]) else none) left left

/-- The four fields. -/
def xrow (rI rB rH P M : Nat) (v : Value) : Nat → Value := fun i => if i = 0 then .slice (some ⟨rI, 0, none⟩) P P else if i = 1 then .slice (some ⟨rB, 0, none⟩) P P else if i = 2 then .slice (some ⟨rH, 0, none⟩) M M else v

/-- What the search reads. -/
structure SEnv (w : World) (P M : Nat) (W : Nat → Bool) (B mh : Nat → Nat) (bX rI rB rH base : Nat) : Prop where
  hI : w.rowIs rI 4 P (rb W)
  hB : w.rowIs rB 3 P (rn B)
  hH : w.rowIs rH 3 M (rn mh)
  lt : bX < base ∧ rI < base ∧ rB < base ∧ rH < base
  ne : rI ≠ bX ∧ rB ≠ bX ∧ rH ≠ bX
  sz : base ≤ w.heap.size
theorem SEnv.chg {w w' : World} {P M : Nat} {W : Nat → Bool} {B mh : Nat → Nat} {bX rI rB rH base : Nat} (h : SEnv w P M W B mh bX rI rB rH base) (hc : Chg (Turns bX base) w w') : SEnv w' P M W B mh bX rI rB rH base := by
  obtain ⟨l1, l2, l3, l4⟩ := h.lt
  obtain ⟨n1, n2, n3⟩ := h.ne
  have t : ∀ k, k < base → k ≠ bX → ¬ Turns bX base k := fun k h1 h2 h3 => by
    rcases h3 with h3 | h3
    · exact h2 h3
    · omega
  exact ⟨hc.rowIs h.hI (t _ l2 n1), hc.rowIs h.hB (t _ l3 n2), hc.rowIs h.hH (t _ l4 n3), h.lt, h.ne, Nat.le_trans h.sz hc.size⟩

/-- The sets under way: a row of one's own, in the fourth field. -/
def HoldS (w : World) (bX base rI rB rH P M : Nat) (S : List Nat) : Prop := ∃ v, w.rowIs bX 104 4 (xrow rI rB rH P M v) ∧ w.ownsRow base 3 1 v S.length ((ints S).map (Value.int .i64))
theorem HoldS.chg0 {w w' : World} {bX base rI rB rH P M : Nat} {S : List Nat} (h : HoldS w bX base rI rB rH P M S) (hb : Below w.heap.size w w') : HoldS w' bX base rI rB rH P M S := by
  obtain ⟨v, h1, h2⟩ := h
  exact ⟨v, h1.of_block (hb.block _ h1.lt), ownsRow_below h2 hb (Nat.le_refl _)⟩
theorem xrow_set {w : World} {bX T rI rB rH P M : Nat} {v : Value} (h : w.rowIs bX T 4 (xrow rI rB rH P M v)) (x : Value) : (w.setCell ⟨bX, 3, none⟩ x).rowIs bX T 4 (xrow rI rB rH P M x) :=
  (h.set 3 x).congr fun i hi => by
    match i, hi with
    | 0, _ => rfl
    | 1, _ => rfl
    | 2, _ => rfl
    | 3, _ => rfl
theorem xrow_facts {w : World} {bX T rI rB rH P M : Nat} {v : Value} (h : w.rowIs bX T 4 (xrow rI rB rH P M v)) :
    w.cell? ⟨bX, 0, none⟩ = some (.slice (some ⟨rI, 0, none⟩) P P) ∧ w.cell? ⟨bX, 1, none⟩ = some (.slice (some ⟨rB, 0, none⟩) P P) ∧ w.cell? ⟨bX, 2, none⟩ = some (.slice (some ⟨rH, 0, none⟩) M M) ∧ w.cell? ⟨bX, 3, none⟩ = some v ∧ w.frozen? ⟨bX, 3, none⟩ = false :=
  ⟨h.cell (show 0 < 4 by omega), h.cell (show 1 < 4 by omega), h.cell (show 2 < 4 by omega), h.cell (show 3 < 4 by omega), h.frozen 3⟩

theorem HoldS.push {w w2 : World} {bX base rI rB rH P M v : Nat} {S : List Nat} {s s2 : Value} {o : Obj} (h1 : w.rowIs bX 104 4 (xrow rI rB rH P M s)) (h2 : w.ownsRow base 3 1 s S.length ((ints S).map (Value.int .i64))) (hT : bX < base)
    (hz : base ≤ w.heap.size) (ho : w2.ownsRow base 3 1 s2 (S.length + 1) ((ints S).map (Value.int .i64) ++ [.int .i64 (v : Int)])) (hg : (w.alloc o).grownBy w2 s.ownBlock) :
    w2.rowIs bX 104 4 (xrow rI rB rH P M s) ∧ HoldS (w2.setCell ⟨bX, 3, none⟩ s2) bX base rI rB rH P M (S ++ [v]) ∧ Chg (Turns bX base) w (w2.setCell ⟨bX, 3, none⟩ s2) := by
  have hlt := h1.lt
  have e1 : w2.rowIs bX 104 4 (xrow rI rB rH P M s) := (h1.alloc o).of_block (hg.block bX (by rw [World.size_alloc]; omega) (fun e => by have := (h2.lt bX e.symm).1; omega))
  have ho' : w2.ownsRow base 3 1 s2 (S ++ [v]).length ((ints (S ++ [v])).map (Value.int .i64)) := by
    rw [ints_snoc, List.map_append, List.length_append]; exact ho
  refine ⟨e1, ⟨s2, xrow_set e1 s2, ho'.kept (grown_set w2 bX 3 s2) ?_⟩, ?_⟩
  · cases hv : s2.ownBlock with
    | none => exact Or.inl rfl
    | some g =>
      have := (ho'.lt g hv).1
      exact Or.inr (fun e => by cases e; omega)
  · have c1 : Chg (Turns bX base) w (w.alloc o) := (Chg.refl _ _).alloc _
    have c2 : Chg (Turns bX base) (w.alloc o) w2 := ⟨hg.os, hg.tape, hg.output, hg.size, fun k hk hs => hg.block k hk (fun e => hs (Or.inr (h2.lt k e.symm).1))⟩
    exact (c1.trans c2).setCell (p := ⟨bX, 3, none⟩) (fun _ => Or.inl rfl) _
theorem HoldS.pop {w : World} {bX base rI rB rH P M v g cap : Nat} {S : List Nat} (h1 : w.rowIs bX 104 4 (xrow rI rB rH P M (.slice (some ⟨g, 0, none⟩) (S.length + 1) cap))) (hT : bX < base)
    (h2 : w.ownsRow base 3 1 (.slice (some ⟨g, 0, none⟩) (S.length + 1) cap) (S.length + 1) ((ints (S ++ [v])).map (Value.int .i64))) :
    HoldS (w.setCell ⟨bX, 3, none⟩ (.slice (some ⟨g, 0, none⟩) S.length cap)) bX base rI rB rH P M S ∧ Chg (Turns bX base) w (w.setCell ⟨bX, 3, none⟩ (.slice (some ⟨g, 0, none⟩) S.length cap)) := by
  rw [ints_snoc, List.map_append] at h2
  have h3 := ownsRow_pop (last := [.int .i64 (v : Int)]) (by simp [ints_length]) h2
  refine ⟨⟨_, xrow_set h1 _, h3.kept (grown_set w bX 3 _) (Or.inr (fun e => ?_))⟩, (Chg.refl _ _).setCell (p := ⟨bX, 3, none⟩) (fun _ => Or.inl rfl) _⟩
  have := (h3.lt g rfl).1
  have e' : g = bX := by simpa [Value.ownBlock] using e
  omega

def TrySPost (r : Option (List Nat)) (S : List Nat) (bX base rI rB rH P M : Nat) (w : World) (e : Ending) (w' : World) : Prop :=
  Chg (Turns bX base) w w' ∧ ((∃ r', r = some r' ∧ e = .returned (.bool true) ∧ HoldS w' bX base rI rB rH P M r') ∨ (r = none ∧ e = .returned (.bool false) ∧ HoldS w' bX base rI rB rH P M S))

set_option maxHeartbeats 6400000 in
set_option maxRecDepth 100000 in
theorem tryS_any (P M : Nat) (W : Nat → Bool) (B mh : Nat → Nat) (bX rI rB rH base : Nat) (hP : P ≤ 1024) (hM : M ≤ 6) (fB : ∀ s, s < P → Few (B s)) (fh : ∀ i, i < M → Few (mh i)) : ∀ (f : Nat) (S : List Nat) (left : Nat) (w : World),
    f + S.length = M → (∀ x ∈ S, x < P) → left < P → SEnv w P M W B mh bX rI rB rH base → HoldS w bX base rI rB rH P M S →
    Calls Try.prog 77 #[.pointer (some ⟨bX, 0, none⟩), .int .i64 (left : Int)] w
      (TrySPost (tryS W B mh f left S) S bX base rI rB rH P M w) := by
  intro f
  induction f with
  | zero =>
    intro S left w hf hx hl he hh
    have Hh := Lib.hid hh
    obtain ⟨v, h1, h2⟩ := hh
    obtain ⟨a, c, rfl⟩ := ownsRow_form h2
    obtain ⟨c0, c1, c2, c3, f3⟩ := xrow_facts h1
    have e : (((S.length : Nat) : Int) == (M : Int)) = true := by simp; omega
    clear hx he h1 h2 hf hl
    go_enter Try.func77, Try.ntmps77
    go_wp2
    go_ret
    exact ⟨Chg.refl _ _, Or.inl ⟨S, rfl, rfl, Hh.out⟩⟩
  | succ f ih =>
    intro S left w hf hx hl he hh
    have Hh := Lib.hid hh
    have He := Lib.hid he
    have Hx := Lib.hid hx
    have FB := Lib.hid fB
    have Fh := Lib.hid fh
    obtain ⟨v, h1, h2⟩ := hh
    obtain ⟨a, c, rfl⟩ := ownsRow_form h2
    obtain ⟨c0, c1, c2, c3, f3⟩ := xrow_facts h1
    have e : (((S.length : Nat) : Int) == (M : Int)) = false := by simp; omega
    clear hx he h1 h2 fB fh
    go_enter Try.func77, Try.ntmps77
    go_wp2
    clear e c0 c1 c2 c3 f3
    go_loopg [6] (left + 1) (fun g s6 wr => ∃ s : Nat, s6 = .int .i64 s ∧ g = s + 1 ∧ Within s left ∧ Chg (Turns bX base) w wr ∧ HoldS wr bX base rI rB rH P M S ∧
      firstFrom (fun s => if okS W B mh S s S.length S.length then tryS W B mh f (less left s) (S ++ [s]) else none) left left = firstFrom (fun s => if okS W B mh S s S.length S.length then tryS W B mh f (less left s) (S ++ [s]) else none) left s)
    case atStart => exact ⟨left, rfl, rfl, Within.refl _, Chg.refl _ _, Hh.out, rfl⟩
    case round =>
      obtain ⟨s, rfl, rfl, hw, hc, hho, hno⟩ := hrel
      have Hno := Lib.hid hno
      have Hw := Lib.hid hw
      have hsl : s ≤ left := hw.le
      have Hc := Lib.hid hc
      have Hho := Lib.hid hho
      clear hno hc hho hw
      by_cases hs0 : 0 < s
      · have hsP : s < P := by omega
        have e1 := He.out.chg Hc.out
        obtain ⟨v1, h1, h2⟩ := Hho.out
        obtain ⟨a1, c1', rfl⟩ := ownsRow_form h2
        obtain ⟨c0, c1, c2, c3, f3⟩ := xrow_facts h1
        have t1 : wr.cell? ⟨rI, s, none⟩ = some (.bool (W s)) := e1.hI.cell hsP
        have hsub : ∀ wx : World, True := fun _ => trivial
        clear e1 h1 h2 hsub
        go_wp2
        obtain ⟨wo, rfl⟩ : ∃ wo : World, wo = wr := ⟨_, rfl⟩
        clear c0 c1 c2 c3 f3 t1
        go_loopg [7, 8] S.length (fun g s7 s8 wr => ∃ i : Nat, i ≤ S.length ∧ g = S.length - i ∧ s8 = .int .i64 i ∧ s7 = .bool (okS W B mh S s S.length i) ∧ Below wo.heap.size wo wr)
        case atStart => exact ⟨0, Nat.zero_le _, rfl, rfl, rfl, Below.refl _ _⟩
        case round =>
          obtain ⟨i, hil, rfl, rfl, rfl, hbi⟩ := hrel
          have Hc2 := Lib.hid (Hc.out.trans (Chg.ofBelow hbi))
          have Hho2 := Lib.hid (Hho.out.chg0 hbi)
          have Hbi := Lib.hid hbi
          clear hbi
          by_cases hg : i < S.length ∧ okS W B mh S s S.length i = true
          · obtain ⟨hli, hg⟩ := hg
            have e2 := He.out.chg Hc2.out
            obtain ⟨sv, hs1, hs2⟩ := Hho2.out
            have his := IsInts.owned (base := base) (e := 3) hs2
            obtain ⟨a2, c2', rfl⟩ := ownsRow_form hs2
            obtain ⟨lb, lo, rfl, hl1⟩ := ints_at' his (Below.refl _ _) hli
            have hxl : S.getD i 0 < P := Hx.out _ (by rw [List.getD_eq_getElem?_getD, List.getElem?_eq_getElem hli]; exact List.getElem_mem hli)
            obtain ⟨c0, c1, c2, c3, f3⟩ := xrow_facts hs1
            have hkM : S.length < M := by omega
            have r1 : wr.cell? ⟨rH, S.length, none⟩ = some (.int .i64 (mh S.length : Int)) := e2.hH.cell hkM
            have r2 : wr.cell? ⟨rB, s, none⟩ = some (.int .i64 (B s : Int)) := e2.hB.cell hsP
            have q1 := op_shr (mh S.length) i
            have q2 := op_bit (v := i) (Fh.out _ hkM)
            have q3 := op_and (b := S.getD i 0) (FB.out _ hsP) (by show _ < _; omega)
            have hst : okS W B mh S s S.length (i + 1) = (okS W B mh S s S.length i && (!(mh S.length).testBit i || decide (land (B s) (S.getD i 0) ≠ 0))) := rfl
            rw [hg] at hst
            have Hst := Lib.hid hst
            clear hst e2 his hs1 hs2 f3
            rw [hg]
            generalize S.getD i 0 = li at *
            cases hx : (mh S.length).testBit i
            · rw [bit_zero hx] at q2
              have Hx2 := Lib.hid hx
              clear hx
              go_wp2
              go_quiet (fail)
              go_wp2
              go_roundg (S.length - (i + 1))
              case measure => go_light; omega
              case rel => exact ⟨i + 1, by omega, rfl, by go_num, by rw [Hst.out]; simp [Hx2.out], Below.drewN' Hbi.out _⟩
            · rw [bit_one hx] at q2
              have Hx2 := Lib.hid hx
              clear hx
              by_cases hy : land (B s) li = 0
              · rw [hy] at q3
                have Hy2 := Lib.hid hy
                clear hy
                go_wp2
                go_quiet (fail)
                go_wp2
                go_roundg (S.length - (i + 1))
                case measure => go_light; omega
                case rel => exact ⟨i + 1, by omega, rfl, by go_num, by rw [Hst.out]; simp [Hx2.out, Hy2.out], Below.drewN' Hbi.out _⟩
              · have q4 : (((land (B s) li : Nat) : Int) != 0) = true := by simp; omega
                have Hy2 := Lib.hid hy
                clear hy
                go_wp2
                go_quiet (fail)
                go_wp2
                go_roundg (S.length - (i + 1))
                case measure => go_light; omega
                case rel => exact ⟨i + 1, by omega, rfl, by go_num, by rw [Hst.out]; simp [Hx2.out, Hy2.out], Below.drewN' Hbi.out _⟩
          · have qn : bits .and .i64 ((s : Int) - 1) (left : Int) = (land (s - 1) left : Int) := by
              have h := op_and (a := s - 1) (b := left) (by show _ < _; omega) (by show _ < _; omega)
              rwa [show ((s - 1 : Nat) : Int) = (s : Int) - 1 by omega] at h
            have hnx : land (s - 1) left ≤ s - 1 := Nat.and_le_left
            have Hnw := Lib.hid (land_within (s - 1) left)
            cases hk : okS W B mh S s S.length i
            · have Hk := Lib.hid (okS_stays hk S.length hil)
              clear hk hg
              by_cases hli : i < S.length
              all_goals
                go_wp2
                go_roundg (land (s - 1) left + 1)
                case measure => go_light; omega
                case rel => exact ⟨land (s - 1) left, rfl, rfl, Hnw.out, Hc2.out, Hho2.out, by
                  rw [Hno.out]
                  exact firstFrom_none (by omega) (by rw [if_neg (by rw [Hk.out]; exact Bool.false_ne_true)])⟩
            · have hli : i = S.length := by
                rcases Nat.lt_or_ge i S.length with h | h
                · exact absurd ⟨h, hk⟩ hg
                · omega
              subst hli
              have Hk := Lib.hid hk
              clear hk hg
              have e2 := He.out.chg Hc2.out
              obtain ⟨sv, hs1, hs2⟩ := Hho2.out
              have Hs2 := Lib.hid hs2
              have Hs1 := Lib.hid hs1
              obtain ⟨a2, c2', rfl⟩ := ownsRow_form hs2
              obtain ⟨c0, c1, c2, c3, f3⟩ := xrow_facts hs1
              have hz := e2.sz
              have hTb := e2.lt.1
              have q5 := op_andNot (a := left) (b := s) (by show _ < _; omega) (by show _ < _; omega)
              clear hs1 hs2 e2
              go_wp2_with (first
                | (go_at_call 77; fail)
                | (at_builtin; refine wpList_append_has rfl (.tmp 78) (.tmp 80) 51 rfl base 3 (.int .i64 0) 8 Try.underlying51 info3 rfl _ S.length ((ints S).map (Value.int .i64)) rfl (Hs2.out.alloc _) _ 1 [.int .i64 (s : Int)] rfl (HasCells.one _ _ _ rfl) (by omega) (by omega) (by simp; omega) ?_; intro a3 c3' w3 hown3 hg3; obtain ⟨hp1, hp2, hp3⟩ := HoldS.push Hs1.out Hs2.out hTb hz hown3 hg3; obtain ⟨d0, d1, d2, d3, d4⟩ := xrow_facts hp1; have Hp2 := Lib.hid hp2; have Hp3 := Lib.hid (Hc2.out.trans hp3); clear hp1 hp2 hp3 hown3 hg3))
              clear c0 c1 c2 c3 f3 d0 d1 d2 d3 d4 q5
              generalize w3.setCell ⟨bX, 3, none⟩ (.slice a3 (S.length + 1) c3') = w4 at *
              have E4 := Lib.hid (He.out.chg Hp3.out)
              have hlw : less left s ≤ left := Within.le (fun i hi => by
                rw [less_bit, Bool.and_eq_true] at hi; exact hi.1)
              refine (ih (S ++ [s]) (less left s) w4 (by simp; omega) (fun x hx => by
                rcases List.mem_append.1 hx with h | h
                · exact Hx.out x h
                · obtain rfl : x = s := by simpa using h
                  exact hsP) (by omega) E4.out Hp2.out).mono ?_
              rintro e w6 ⟨hc6, (⟨r', hr, rfl, hh6⟩ | ⟨hr, rfl, hh6⟩)⟩
              · have Hr := Lib.hid hr
                have Hc6 := Lib.hid (Hp3.out.trans hc6)
                have Hh6 := Lib.hid hh6
                clear hr hc6 hh6
                go_wp2
                go_ret
                exact ⟨Hc6.out, Or.inl ⟨r', by
                  rw [tryS, Hno.out]
                  exact firstFrom_some (by omega) (by rw [if_pos Hk.out]; exact Hr.out), rfl, Hh6.out⟩⟩
              · obtain ⟨v6, g1, g2⟩ := hh6
                rw [List.length_append] at g2
                obtain ⟨gb, gcap, rfl, gle, gmx⟩ := ownsRow_some (n := S.length) g2
                obtain ⟨i3, hi3, -, -, -⟩ := info_parts info3
                have hsl2 := run_slice_hi Try.underlying51 hi3 (some ⟨gb, 0, none⟩) (S.length + 1) gcap S.length (by omega)
                obtain ⟨p1, p2⟩ := HoldS.pop g1 hTb g2
                obtain ⟨c0, c1, c2, c3, f3⟩ := xrow_facts g1
                have Hr := Lib.hid hr
                have Hc6 := Lib.hid ((Hp3.out.trans hc6).trans p2)
                have P1 := Lib.hid p1
                clear hr hc6 p1 p2 g1 g2
                go_wp2
                go_roundg (land (s - 1) left + 1)
                case measure => go_light; omega
                case rel => exact ⟨land (s - 1) left, rfl, rfl, Hnw.out, Hc6.out, P1.out, by
                  rw [Hno.out]
                  exact firstFrom_none (by omega) (by rw [if_pos Hk.out]; exact Hr.out)⟩
      · obtain rfl : s = 0 := by omega
        go_wp2
        go_ret
        exact ⟨Hc.out, Or.inr ⟨by rw [tryS, Hno.out, firstFrom_zero], rfl, Hho.out⟩⟩

end Go.Proofs.Ytfflnpcbpcldeaa
