/- arborref.Minor, arborref.minor, arborref.Rising, arborlaw.sets. -/
import Derived.Test.YtfflnpcbpcldeaaModel
import Derived.Test.YtfflnpcbpcldeaaFirst
import Derived.Test.YtfflnpcbpcldeaaBase
import Derived.Test.YtfflnpcbpcldeaaTryF
import Derived.Deep.LoopGhost
import Derived.Deep.Light
import Derived.Test.YtfflnpcbpcldeaaMinorPlain
import Derived.Test.YtfflnpcbpcldeaaTwoOwn
namespace Go.Proofs.Ytfflnpcbpcldeaa
section
open Go.RowKit

set_option maxHeartbeats 3200000 in
set_option maxRecDepth 100000 in
theorem rminor_no (N M : Nat) (G H : Nat → Nat → Bool) (hN : N ≤ 100) (hM : M ≤ 100) : ∀ (f : Nat) (l : List Nat) (gv hv s : Value) (w : World), f + l.length = N → (∀ x ∈ l, x ≤ M) → IsInts w s (ints l) → HasGrid w gv N G → HasGrid w hv M H →
    (∀ L : List Nat, L.length = N → L.take l.length = l → (∀ x ∈ L, x ≤ M) → ¬ ModelP N M G H L) →
    Calls Try.prog 80 #[gv, hv, s] w fun e w' => e = .returned (.bool false) ∧ Below w.heap.size w w' := by
  intro f
  induction f with
  | zero =>
    intro l gv hv s w hf hx hi hg hh hno
    have hl : l.length = N := by omega
    have hb := modelB_no (hno l hl (by rw [List.take_length]) hx)
    have Hg := Lib.hid hg
    have Hh := Lib.hid hh
    obtain ⟨ga, gc, rfl⟩ := hg.len
    obtain ⟨ha, hc, rfl⟩ := hh.len
    obtain ⟨a, cap, b, o, rfl, -⟩ := id hi
    have e : (((ints l).length : Int) == (N : Int)) = true := by simp [ints_length]; omega
    have Hi := Lib.hid hi
    have Hb := Lib.hid hb
    have Hx := Lib.hid hx
    have Hl := Lib.hid hl
    clear hg hh hx hf hi hno hb hl
    go_enter Try.func80, Try.ntmps80
    go_wp2_with fail
    refine (model_any N M G H l _ _ _ w hN hM Hl.out (fun x h => by have := Hx.out x h; omega) Hi.out Hg.out Hh.out).mono ?_
    rintro e w1 ⟨rfl, hb1⟩
    rw [Hb.out]
    go_wp2
    go_ret
    exact ⟨rfl, hb1⟩
  | succ f ih =>
    intro l gv hv s w hf hx hi hg hh hno
    have Hg := Lib.hid hg
    have Hh := Lib.hid hh
    obtain ⟨ga, gc, rfl⟩ := hg.len
    obtain ⟨ha, hc, rfl⟩ := hh.len
    obtain ⟨a, cap, b, o, rfl, hcap, hmax, -⟩ := id hi
    have hlen := ints_length l
    rw [hlen] at hcap hi
    have e : ((l.length : Int) == (N : Int)) = false := by simp; omega
    have Hi := Lib.hid hi
    have Hx := Lib.hid hx
    have Hno := Lib.hid hno
    rw [hlen]
    clear hg hh hx hi hno hlen
    go_enter Try.func80, Try.ntmps80
    go_wp2
    clear e
    go_loopg [7] (M + 1) (fun g s7 wr => ∃ k : Nat, k ≤ M + 1 ∧ g = M + 1 - k ∧ s7 = .int .i64 k ∧ Below w.heap.size w wr)
    case atStart => exact ⟨0, Nat.zero_le _, rfl, rfl, Below.refl _ _⟩
    case round =>
      obtain ⟨k, hk, rfl, rfl, hb⟩ := hrel
      have Hb := Lib.hid hb
      have hsz := hb.size
      clear hb
      by_cases hlt : k ≤ M
      · have Hiw := Lib.hid (Hi.out.below Hb.out)
        go_wp2_with (first
          | (at_builtin; refine wpList_append_has rfl (.const (.slice none 0 0)) (.tmp 25) 51 rfl w.heap.size 3 (.int .i64 0) 8 Try.underlying51 info3 rfl _ 0 [] rfl (World.ownsRow_nil _ _ _ _) _ l.length ((ints l).map (Value.int .i64)) rfl ((ints_length l) ▸ Hiw.out.cells) (by omega) (by omega) (by omega) ?_; intro a1 c1 w1 hown1 hg1; simp only [Nat.zero_add, List.nil_append] at hown1; have hsz1 := hg1.size)
          | (at_builtin; refine wpList_append_has rfl (.tmp 26) (.tmp 28) 51 rfl w.heap.size 3 (.int .i64 0) 8 Try.underlying51 info3 rfl _ l.length ((ints l).map (Value.int .i64)) rfl (hown1.alloc _) _ 1 [.int .i64 (k : Int)] rfl (HasCells.one _ _ _ rfl) (by omega) (by omega) (by simp; omega) ?_; intro a2 c2 w2 hown2 hg2)
          | fail)
        have hbw1 := (Hb.out.trans ((below_grown0 hg1).mono Hb.out.size)).alloc (by omega) (Obj.cells #[Value.int .i64 (k : Int)] 3)
        have hb2 := hbw1.grown hg2 (by rw [World.size_alloc]; omega) (fun g e => (hown1.lt g e).1)
        have hi2 : IsInts w2 (.slice a2 (l.length + 1) c2) (ints (l ++ [k])) := IsInts.owned (base := w.heap.size) (e := 3) (n := l.length + 1) (by rw [ints_snoc, List.map_append]; exact hown2)
        have Hb2 := Lib.hid hb2
        have Hi2 := Lib.hid hi2
        clear hbw1 hb2 hi2 hown1 hown2 hg1 hg2 hsz1
        refine (ih (l ++ [k]) _ _ _ _ (by simp; omega) (fun x hx => by
          rcases List.mem_append.1 hx with h | h
          · exact Hx.out x h
          · obtain rfl : x = k := by simpa using h
            exact hlt) Hi2.out (Hg.out.below Hb2.out) (Hh.out.below Hb2.out) (fun L h1 h2 h3 => Hno.out L h1 (by
              have := congrArg (List.take l.length) h2
              rw [List.take_take, Nat.min_eq_left (by simp)] at this
              rw [this]; simp) h3)).mono ?_
        rintro e w3 ⟨rfl, hb3⟩
        have Hb3 := Lib.hid (Hb2.out.trans (hb3.mono Hb2.out.size))
        clear hb3
        go_wp2
        go_roundg (M + 1 - (k + 1))
        case measure => go_light; omega
        case rel => exact ⟨k + 1, by omega, rfl, by go_num, Hb3.out⟩
      · obtain rfl : k = M + 1 := by omega
        go_wp2
        go_ret
        exact ⟨rfl, Hb.out⟩

set_option maxHeartbeats 400000 in
theorem refMinor_no (N M : Nat) (G H : Nat → Nat → Bool) (hN : N ≤ 100) (hM : M ≤ 100) (gv hv : Value) (w : World) (hg : HasGrid w gv N G) (hh : HasGrid w hv M H) (hno : ∀ L : List Nat, L.length = N → (∀ x ∈ L, x ≤ M) → ¬ ModelP N M G H L) :
    Calls Try.prog 37 #[gv, hv] w fun e w' => e = .returned (.bool false) ∧ Below w.heap.size w w' := by
  have Hno := Lib.hid hno
  have Hg := Lib.hid hg
  have Hh := Lib.hid hh
  clear hno hg hh
  go_enter Try.func37, Try.ntmps37
  go_wp2_with fail
  refine (rminor_no N M G H hN hM N [] _ _ _ w rfl (by simp) (IsInts.nil _) Hg.out Hh.out (fun L h1 _ h3 => Hno.out L h1 h3)).mono ?_
  rintro e w1 ⟨rfl, hb⟩
  go_wp2
  go_ret
  exact ⟨rfl, hb⟩

end

section
open Go.RowKit

set_option maxHeartbeats 3200000 in
set_option maxRecDepth 100000 in
theorem rising_yes (l : List Nat) (n : Nat) (s : Value) (w : World) (hl : l.length ≤ 10000) (hi : IsInts w s (ints l)) (hlt : ∀ i, i < l.length → l.getD i 0 < n) (hup : ∀ i, i + 1 < l.length → l.getD i 0 < l.getD (i + 1) 0) (hn : n ≤ 10000) :
    Calls Try.prog 32 #[s, .int .i64 (n : Int)] w fun e w' => e = .returned (.bool true) ∧ Below w.heap.size w w' := by
  obtain ⟨a, cap, b, o, rfl, hcap, hmax, -⟩ := id hi
  have hlen := ints_length l
  rw [hlen] at hi hcap ⊢
  have Hi := Lib.hid hi
  have Hlt := Lib.hid hlt
  have Hup := Lib.hid hup
  clear hi hlt hup hlen
  go_enter Try.func32, Try.ntmps32
  go_wp2
  go_loopg [5] l.length (fun g s5 wr => ∃ i : Nat, i ≤ l.length ∧ g = l.length - i ∧ s5 = .int .i64 i ∧ Below w.heap.size w wr)
  case atStart => exact ⟨0, Nat.zero_le _, rfl, rfl, Below.refl _ _⟩
  case round =>
    obtain ⟨i, hi, rfl, rfl, hb⟩ := hrel
    by_cases hil : i < l.length
    · obtain ⟨lb, lo, rfl, h1⟩ := ints_at' Hi.out hb hil
      have h2 := Hlt.out i hil
      have Hb := Lib.hid hb
      by_cases h0 : 0 < i
      · obtain ⟨lb2, lo2, he2, h3⟩ := ints_at' Hi.out hb (k := i - 1) (by omega)
        obtain ⟨rfl, rfl⟩ : lb = lb2 ∧ lo = lo2 := by simpa using he2
        have h4 := Hup.out (i - 1) (by omega)
        rw [show i - 1 + 1 = i by omega] at h4
        generalize l.getD i 0 = x at *
        generalize l.getD (i - 1) 0 = y at *
        have p1 : decide ((x : Int) < 0) = false := decide_eq_false (by omega)
        have p2 : decide (n ≤ x) = false := decide_eq_false (by omega)
        have p4 : decide (x ≤ y) = false := decide_eq_false (by omega)
        have p5 : i - 1 < l.length := by omega
        have p3 : IntKind.i64.wrap ((i : Int) - 1) = ((i - 1 : Nat) : Int) := by
          rw [show (i : Int) - 1 = ((i - 1 : Nat) : Int) by omega]
          exact IntWalk.i64_in _ (by omega)
        clear hb
        go_wp2
        go_quiet (fail)
        go_wp2
        go_roundg (l.length - (i + 1))
        case measure => go_light; omega
        case rel => exact ⟨i + 1, by omega, rfl, by go_num, Below.drewN' Hb.out _⟩
      · generalize l.getD i 0 = x at *
        have p1 : decide ((x : Int) < 0) = false := decide_eq_false (by omega)
        have p2 : decide (n ≤ x) = false := decide_eq_false (by omega)
        have p3 : decide (0 < i) = false := decide_eq_false h0
        clear hb
        go_wp2
        go_quiet (fail)
        go_wp2
        go_roundg (l.length - (i + 1))
        case measure => go_light; omega
        case rel => exact ⟨i + 1, by omega, rfl, by go_num, Below.drewN' Hb.out _⟩
    · obtain rfl : i = l.length := by omega
      have Hb := Lib.hid hb
      clear hb
      go_wp2
      go_ret
      exact ⟨rfl, Hb.out⟩

end

section
open Go.RowKit

/-- The number of a node's set, under way. -/
structure SSt (w wr : World) (bA N : Nat) (A : Nat → Nat) : Prop where
  hb : Below w.heap.size w wr
  nA : w.heap.size ≤ bA
  row : wr.rowIs bA 3 N (rn A)
theorem SSt.set {w wr : World} {bA N : Nat} {A : Nat → Nat} (h : SSt w wr bA N A) (k x : Nat) : SSt w (wr.setCell ⟨bA, k, none⟩ (.int .i64 (x : Int))) bA N (fun q => if q = k then x else A q) :=
  ⟨h.hb.setCell h.nA _, h.nA, row_set_rn h.row k x⟩
theorem SSt.below {w wr w' : World} {bA N : Nat} {A : Nat → Nat} (h : SSt w wr bA N A) (hb : Below wr.heap.size wr w') : SSt w w' bA N A :=
  ⟨h.hb.trans (hb.mono h.hb.size), h.nA, h.row.of_block (hb.block _ h.row.lt)⟩

theorem getD_get {l : List Nat} {i : Nat} (h : i < l.length) : l.getD i 0 = l[i] := by rw [List.getD_eq_getElem?_getD, List.getElem?_eq_getElem h, Option.getD_some]

/-- Of the i-th set k nodes are done. -/
def inK (S : List Nat) (N i k v : Nat) : Nat := if (((bitsTo (S.getD i 0) N).take k).contains v) = true then i + 1 else inA S i v
theorem inK_zero (S : List Nat) (N i v : Nat) : inK S N i 0 v = inA S i v := by unfold inK; rw [List.take_zero, if_neg (by simp)]
theorem inK_full {S : List Nat} {N i v : Nat} (hv : v < N) : inK S N i (bitsTo (S.getD i 0) N).length v = inA S (i + 1) v := by
  unfold inK
  rw [List.take_length, inA]
  by_cases h : (S.getD i 0).testBit v = true
  · rw [if_pos h, if_pos (by rw [List.contains_iff_mem]; exact mem_bitsTo.2 ⟨hv, h⟩)]
  · rw [if_neg h, if_neg (by rw [List.contains_iff_mem]; exact fun hm => h (mem_bitsTo.1 hm).2)]
theorem inK_succ {S : List Nat} {N i k : Nat} (hk : k < (bitsTo (S.getD i 0) N).length) (v : Nat) : (if v = (bitsTo (S.getD i 0) N).getD k 0 then i + 1 else inK S N i k v) = inK S N i (k + 1) v := by
  unfold inK
  rw [List.take_succ_eq_append_getElem hk]
  have e : (bitsTo (S.getD i 0) N)[k] = (bitsTo (S.getD i 0) N).getD k 0 := (getD_get hk).symm
  rw [e]
  by_cases h : v = (bitsTo (S.getD i 0) N).getD k 0
  · rw [if_pos h, if_pos (by rw [List.contains_iff_mem, List.mem_append]; exact Or.inr (by simp [h]))]
  · rw [if_neg h]
    by_cases h2 : v ∈ (bitsTo (S.getD i 0) N).take k
    · rw [if_pos (by rw [List.contains_iff_mem]; exact h2), if_pos (by rw [List.contains_iff_mem, List.mem_append]; exact Or.inl h2)]
    · rw [if_neg (by rw [List.contains_iff_mem]; exact h2), if_neg (by
        rw [List.contains_iff_mem, List.mem_append]
        rintro (h3 | h3)
        · exact h2 h3
        · exact h (by simpa using h3))]
theorem inK_new {S : List Nat} {N i k : Nat} (hap : ∀ v a b, a < b → b < S.length → (S.getD a 0).testBit v = true → (S.getD b 0).testBit v = false) (hi : i < S.length) (hk : k < (bitsTo (S.getD i 0) N).length) : inK S N i k ((bitsTo (S.getD i 0) N).getD k 0) = 0 := by
  unfold inK
  rw [if_neg]
  · refine inA_zero fun j hj => ?_
    cases e : (S.getD j 0).testBit ((bitsTo (S.getD i 0) N).getD k 0)
    · rfl
    · have h1 := hap _ j i hj hi e
      have h2 := (mem_bitsTo.1 (getD_mem hk)).2
      rw [h1] at h2; cases h2
  · rw [List.contains_iff_mem]
    intro hm
    obtain ⟨q, hq, he⟩ := List.mem_iff_getElem.1 hm
    have hq' : q < k := by simp at hq; omega
    have := bitsTo_lt hq' hk
    rw [List.getElem_take] at he
    have e2 : (bitsTo (S.getD i 0) N).getD q 0 = (bitsTo (S.getD i 0) N).getD k 0 := by
      rw [← he]; exact getD_get (by omega)
    omega

set_option maxHeartbeats 6400000 in
set_option maxRecDepth 100000 in
theorem sets_yes {N M : Nat} {l k : List (Int × Int)} {S : List Nat} (g1 : GoodGraph N l) (g2 : GoodGraph M k) (hN : N ≤ 10) (hM : M ≤ 6) (hS : S.length = M) (hap : ∀ v a b, a < b → b < S.length → (S.getD a 0).testBit v = true → (S.getD b 0).testBit v = false)
    (hmod : ModelP N M (adj l) (adj k) ((List.range N).map (inA S M))) (s t lv : Value) (w : World) (h : IsEdges w s l) (h' : IsEdges w t k) (hr : IsRows w lv (S.map fun s => ints (bitsTo s N))) :
    Calls Try.prog 36 #[.agg #[.int .i64 (N : Int), s], .agg #[.int .i64 (M : Int), t], lv] w fun e w' => e = .returned (.bool true) ∧ Below w.heap.size w w' := by
  obtain ⟨ad, cap, rfl⟩ := h.form
  obtain ⟨ad', cap', rfl⟩ := h'.form
  obtain ⟨ra, rc, rb', ro, rfl, hrc, hrm, hradr, -, hrcell⟩ := hr
  have hlen : (S.map fun s => ints (bitsTo s N)).length = M := by simp [hS]
  rw [hlen] at hrc hradr hrcell
  rw [hlen]
  have St := Lib.hid (TwoSt.start (n := (N : Int)) (m := (M : Int)) h h')
  have hok : ∀ j, j < l.length → EndsOk (N : Int) (l.getD j (0, 0)) ∧ (l.getD j (0, 0)).1 ≠ (l.getD j (0, 0)).2 := fun j hj => ⟨(g1.fine j hj).1, (g1.fine j hj).2.1⟩
  have hok' : ∀ j, j < k.length → EndsOk (M : Int) (k.getD j (0, 0)) ∧ (k.getD j (0, 0)).1 ≠ (k.getD j (0, 0)).2 := fun j hj => ⟨(g2.fine j hj).1, (g2.fine j hj).2.1⟩
  have Hok := Lib.hid hok
  have Hok' := Lib.hid hok'
  have HS := Lib.hid hS
  have Hap := Lib.hid hap
  have Hmod := Lib.hid hmod
  have Hrcell := Lib.hid hrcell
  have Hradr := Lib.hid hradr
  have hmk := run_make_row' (P := Try.prog) 51 3 (.int .i64 0) 8 Try.underlying51 info3 rfl .i64 .i64 N (by omega) (by omega)
  have q0 : ((M : Int) != (M : Int)) = false := by simp
  clear h h' g1 g2 hok hok' hS hap hmod hrcell hradr hlen
  go_enter Try.func36, Try.ntmps36
  go_upto_region 1 with fail
  have Hb1 := Lib.hid (below2 w (Obj.cells #[.int .i64 (N : Int), .slice ad l.length cap] 24) (Obj.cells #[.int .i64 (M : Int), .slice ad' k.length cap'] 24))
  generalize (w.alloc (Obj.cells #[.int .i64 (N : Int), .slice ad l.length cap] 24)).alloc (Obj.cells #[.int .i64 (M : Int), .slice ad' k.length cap'] 24) = w1 at *
  have cn := St.out.cn
  have dm := St.out.dm
  have hlt1 := St.out.lt
  have hr1 := World.rowIs_made w1 (.int .i64 0) N 3
  have R1 := Lib.hid (SSt.mk (bA := w1.heap.size) (A := inA S 0) (below1 w1 (.cells (madeCells #[.int .i64 0] N) 3)) (Nat.le_refl _) (hr1.congr fun _ _ => rfl))
  clear hr1
  go_wp2
  clear hmk q0 cn dm
  generalize w1.alloc (.cells (madeCells #[.int .i64 0] N) 3) = w2 at *
  go_loopg [8] M (fun g s8 wr => ∃ i : Nat, i ≤ M ∧ g = M - i ∧ s8 = .int .i64 i ∧ SSt w1 wr w1.heap.size N (inA S i))
  case atStart => exact ⟨0, Nat.zero_le _, rfl, rfl, R1.out⟩
  case round =>
    obtain ⟨i, hi, rfl, rfl, hst⟩ := hrel
    have Hst := Lib.hid hst
    by_cases hiM : i < M
    · obtain rfl := Hradr.out (by omega)
      obtain ⟨rv, hc1, hi1⟩ := Hrcell.out i hiM
      have hget : (S.map fun s => ints (bitsTo s N)).getD i [] = ints (bitsTo (S.getD i 0) N) := by have := HS.out; simp [List.getD, show i < S.length by omega]
      rw [hget] at hi1
      obtain ⟨va, vc, vb, vo, rfl, -⟩ := id hi1
      rw [ints_length] at hc1 hi1
      have hbw := Hb1.out.trans (hst.hb.mono Hb1.out.size)
      have c1 := below_cell hbw hc1
      have cn := (St.out.below hst.hb).cn
      have Hi1 := Lib.hid (hi1.below hbw)
      have Cells := Lib.hid hi1
      have hbl := bitsTo_length (S.getD i 0) N
      have Hc1 := Lib.hid hc1
      clear hst hc1 hi1 hget hbw
      go_wp2_with fail
      refine region_tail 6 (by kernel_rfl) (by kernel_rfl) ?_
      simp only [List.take_succ_cons, List.take_zero, List.drop_succ_cons, List.drop_zero]
      repeat still_step
      refine wpStill_nil ?_
      go_wp2_with fail
      refine (rising_yes (bitsTo (S.getD i 0) N) N _ wr.drew (by omega) (Hi1.out.below (Below.refl _ _).drew) (fun q hq => (mem_bitsTo.1 (getD_mem hq)).1) (fun q hq => bitsTo_lt (by omega) hq) (by omega)).mono ?_
      rintro e w4 ⟨rfl, hb4⟩
      have Hst4 := Lib.hid ((Hst.out.below (Below.refl _ _).drew).below hb4)
      clear hb4 c1 cn
      go_wp2
      obtain ⟨wo, rfl⟩ : ∃ wo : World, wo = w4 := ⟨_, rfl⟩
      go_loopg [9] (bitsTo (S.getD i 0) N).length (fun g s9 wr => ∃ q : Nat, q ≤ (bitsTo (S.getD i 0) N).length ∧ g = (bitsTo (S.getD i 0) N).length - q ∧ s9 = .int .i64 q ∧ SSt w1 wr w1.heap.size N (inK S N i q))
      case atStart => exact ⟨0, Nat.zero_le _, rfl, rfl, Hst4.out.hb, Hst4.out.nA, row_rn Hst4.out.row fun v _ => (inK_zero S N i v).symm⟩
      case round =>
        obtain ⟨q, hq, rfl, rfl, hst5⟩ := hrel
        have hbw := Hb1.out.trans (hst5.hb.mono Hb1.out.size)
        have c1 := below_cell hbw Hc1.out
        have Hst5 := Lib.hid hst5
        by_cases hql : q < (bitsTo (S.getD i 0) N).length
        · obtain ⟨b2, o2, rfl, c2⟩ := ints_at' Cells.out hbw hql
          have hx := (mem_bitsTo.1 (getD_mem hql)).1
          have t1 : wr.cell? ⟨w1.heap.size, (bitsTo (S.getD i 0) N).getD q 0, none⟩ = some (.int .i64 (inK S N i q ((bitsTo (S.getD i 0) N).getD q 0) : Int)) := hst5.row.cell hx
          rw [inK_new Hap.out (by have := HS.out; omega) hql] at t1
          have f1 := hst5.row.frozen ((bitsTo (S.getD i 0) N).getD q 0)
          have l1 := hst5.row.lt
          have Set := Lib.hid (hst5.set ((bitsTo (S.getD i 0) N).getD q 0) (i + 1))
          have Suc := Lib.hid (inK_succ (S := S) (N := N) (i := i) hql)
          generalize (bitsTo (S.getD i 0) N).getD q 0 = x at *
          clear hst5 hbw
          go_wp2
          go_roundg ((bitsTo (S.getD i 0) N).length - (q + 1))
          case measure => go_light; omega
          case rel => exact ⟨q + 1, by omega, rfl, by go_num, by
            have h := Set.out
            refine ⟨?_, h.nA, ?_⟩
            · simpa using h.hb
            · have h2 := row_rn h.row (g' := inK S N i (q + 1)) fun v _ => Suc.out v
              simpa using h2⟩
        · obtain rfl : q = (bitsTo (S.getD i 0) N).length := by omega
          clear hst5 hbw
          go_wp2
          go_roundg (M - (i + 1))
          case measure => go_light; omega
          case rel => exact ⟨i + 1, by omega, rfl, by go_num, Hst5.out.hb, Hst5.out.nA, row_rn Hst5.out.row fun v hv => inK_full hv⟩
    · obtain rfl : i = M := by omega
      have E12 := Lib.hid (St.out.below hst.hb)
      have hints : ints ((List.range N).map (inA S i)) = (List.range N).map fun v => (inA S i v : Int) := by unfold ints; rw [List.map_map]; rfl
      have hin : IsInts wr (.slice (some ⟨w1.heap.size, 0, none⟩) N N) (ints ((List.range N).map (inA S i))) := by rw [hints]; exact IsInts.ofRow hst.row (by omega)
      have Hin := Lib.hid hin
      have Hmb := Lib.hid (modelB_yes Hmod.out)
      have Hfx := Lib.hid (show ∀ x ∈ (List.range N).map (inA S i), x ≤ 100 from fun x hx => by
        obtain ⟨v, _, rfl⟩ := List.mem_map.1 hx
        have := inA_le S v i; omega)
      clear hst hin hints Hmod
      go_upto_region 15 with fail
      have q0 : Own4 w.heap.size (N : Int) (.slice ad l.length cap) (i : Int) (.slice ad' k.length cap') wr.drew := E12.out.own4
      have hd : Below wr.heap.size wr wr.drew := (Below.refl _ _).drew
      go_region_held3 (fun w' => w'.cell? ⟨w.heap.size, 0, none⟩ = some (.int .i64 (N : Int)) ∧ w'.cell? ⟨w.heap.size, 1, none⟩ = some (.slice ad l.length cap) ∧ w'.cell? ⟨w.heap.size + 1, 0, none⟩ = some (.int .i64 (i : Int)) ∧ w'.cell? ⟨w.heap.size + 1, 1, none⟩ = some (.slice ad' k.length cap'))
        (first | with_reducible exact q3 | with_reducible exact q2 | with_reducible exact q1 | exact q0)
        (first
          | (go_at_call_of 17 (Value.agg #[.int .i64 (N : Int), .slice ad l.length cap]); (refine (gridOf_any l N (.slice ad l.length cap) _ (E12.out.he.below hd) (by omega) Hok.out).mono ?_; rintro e wp ⟨v1, rfl, hg1, hb1⟩; obtain ⟨a1, c1, rfl⟩ := HasGrid.form ⟨_, hg1⟩; have h01 : Below wr.heap.size wr wp := upb hd hb1; have q1 := Own4.below E12.out.own4 h01))
          | (go_at_call_of 17 (Value.agg #[.int .i64 (i : Int), .slice ad' k.length cap']); refine (gridOf_any k i (.slice ad' k.length cap') _ (E12.out.hf.below h01) (by omega) Hok'.out).mono ?_; rintro e wq ⟨v2, rfl, hg2, hb2⟩; obtain ⟨a2, c2, rfl⟩ := HasGrid.form ⟨_, hg2⟩; have h02 : Below wr.heap.size wr wq := upb h01 hb2; have q2 := Own4.below E12.out.own4 h02)
          | (go_at_call 79; refine (model_any N i (adj l) (adj k) ((List.range N).map (inA S i)) _ _ _ _ (by omega) (by omega) (by simp) Hfx.out (Hin.out.below h02) (HasGrid.below ⟨_, hg1⟩ hb2) ⟨_, hg2⟩).mono ?_; rw [Hmb.out]; rintro e ws ⟨rfl, hb3⟩; have h03 : Below wr.heap.size wr ws := upb h02 hb3; have q3 := Own4.below E12.out.own4 h03))
      have E13 := Lib.hid (E12.out.below h03)
      clear q0 hd hg1 hg2 hb1 hb2 hb3 h01 h02 h03 q1 q2 q3
      go_wp2
      go_ret
      exact ⟨rfl, E13.out.hb⟩

end

end Go.Proofs.Ytfflnpcbpcldeaa
