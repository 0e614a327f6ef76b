/- graph.Complement, graph.both: and that a graph's fault is one alone. -/
import Derived.Test.YtbnbhjeknocboaaSmall
import Derived.Test.YtbnbhjeknocboaaHasGrid
import Derived.Test.YtbnbhjeknocboaaSame
namespace Go.Proofs.Ytbnbhjeknocboaa
open Go.RowKit

theorem least_nat {p : Nat → Prop} : ∀ n, p n → ∃ i, i ≤ n ∧ p i ∧ ∀ j, j < i → ¬ p j := by
  intro n
  induction n using Nat.strongRecOn with
  | _ n ih =>
    intro hn
    by_cases h : ∃ m, m < n ∧ p m
    · obtain ⟨m, hm, hp⟩ := h
      obtain ⟨i, hi, h1, h2⟩ := ih m hm hp
      exact ⟨i, by omega, h1, h2⟩
    · exact ⟨n, Nat.le_refl _, hn, fun j hj hp => h ⟨j, hj, hp⟩⟩

theorem GraphSpec.ex (n : Int) (l : List (Int × Int)) : ∃ c a, GraphSpec n l c a := by
  by_cases hb : TooBig n l
  · exact ⟨2, 0, Or.inl ⟨hb, rfl, rfl⟩⟩
  by_cases h : ∀ j, j < l.length → Fine n l j
  · exact ⟨0, 0, Or.inr ⟨hb, Or.inr ⟨h, rfl, rfl⟩⟩⟩
  · have h' : ∃ j, j < l.length ∧ ¬ Fine n l j := Classical.byContradiction fun hc => h fun j hj => Classical.byContradiction fun hf => hc ⟨j, hj, hf⟩
    obtain ⟨j, hj⟩ := h'
    obtain ⟨i, _, ⟨h1, h2⟩, h3⟩ := least_nat (p := fun j => j < l.length ∧ ¬ Fine n l j) j hj
    have hf : ∀ j, j < i → Fine n l j := fun j hj => Classical.byContradiction fun hc => h3 j hj ⟨by omega, hc⟩
    have hw : ∃ c, Wrong n l i c := by
      by_cases a : EndsOk n (l.getD i (0, 0))
      · by_cases b : (l.getD i (0, 0)).1 = (l.getD i (0, 0)).2
        · exact ⟨4, Or.inr (Or.inl ⟨a, b, rfl⟩)⟩
        · by_cases c : hasE (l.take i) (l.getD i (0, 0)).1 (l.getD i (0, 0)).2 = true
          · exact ⟨5, Or.inr (Or.inr ⟨a, b, c, rfl⟩)⟩
          · exact absurd ⟨a, b, by simpa using c⟩ h2
      · exact ⟨3, Or.inl ⟨a, rfl⟩⟩
    obtain ⟨c, hc⟩ := hw
    exact ⟨c, i, Or.inr ⟨hb, Or.inl ⟨i, h1, hf, hc, rfl⟩⟩⟩

/-- A graph without a fault. -/
structure GoodGraph (n : Int) (l : List (Int × Int)) : Prop where
  lo : 0 ≤ n
  hi : n ≤ 100
  len : l.length ≤ 1000
  fine : ∀ j, j < l.length → Fine n l j
theorem GraphSpec.good {n : Int} {l : List (Int × Int)} {a : Int} (h : GraphSpec n l 0 a) : GoodGraph n l ∧ a = 0 := by
  rcases h with ⟨_, h, _⟩ | ⟨hb, ⟨i, _, _, hw, _⟩ | ⟨h, _, rfl⟩⟩
  · cases h
  · exact absurd rfl hw.ne0
  · unfold TooBig at hb
    exact ⟨⟨by omega, by omega, by omega, h⟩, rfl⟩
theorem GoodGraph.spec {n : Int} {l : List (Int × Int)} (h : GoodGraph n l) : GraphSpec n l 0 0 :=
  Or.inr ⟨by have := h.lo; have := h.hi; have := h.len; unfold TooBig; omega, Or.inr ⟨h.fine, rfl, rfl⟩⟩

/-- This fault comes back. -/
def FaultIs (c a : Int) (w : World) (e : Ending) (w' : World) : Prop := e = .returned (.agg #[.int .i64 c, .int .i64 a]) ∧ Below w.heap.size w w'
theorem gcheck_is {l : List (Int × Int)} {n c a : Int} (hca : GraphSpec n l c a) (s : Value) (w : World) (h : IsEdges w s l) : Calls Try.prog 32 #[.agg #[.int .i64 n, s]] w (FaultIs c a w) :=
  (gcheck_any l n s w h).mono fun _ _ ⟨c', a', hs, he, hb⟩ => by
    obtain ⟨rfl, rfl⟩ := hca.uniq hs
    exact ⟨he, hb⟩
theorem rcheck_is {l : List (Int × Int)} {n c a : Int} (hca : GraphSpec n l c a) (s : Value) (w : World) (h : IsEdges w s l) : Calls Try.prog 8 #[.agg #[.int .i64 n, s]] w (FaultIs c a w) :=
  (rcheck_any l n s w h).mono fun _ _ ⟨c', a', hs, he, hb⟩ => by
    obtain ⟨rfl, rfl⟩ := hca.uniq hs
    exact ⟨he, hb⟩

/-- The graph of all pairs that p tells, or nothing and a fault. -/
structure PairsRes (n : Nat) (p : Nat → Nat → Bool) (N' : Int) (L' : List (Int × Int)) (c' : Int) : Prop where
  hn : N' = if 1000 < (prsTo n p n).length then 0 else (n : Int)
  hl : L' = if 1000 < (prsTo n p n).length then [] else prsTo n p n
  hc : c' = if 1000 < (prsTo n p n).length then 2 else 0
theorem PairsRes.ex (n : Nat) (p : Nat → Nat → Bool) : ∃ N' L' c', PairsRes n p N' L' c' := ⟨_, _, _, rfl, rfl, rfl⟩
theorem PairsRes.len {n : Nat} {p : Nat → Nat → Bool} {N' : Int} {L' : List (Int × Int)} {c' : Int} (h : PairsRes n p N' L' c') : L'.length ≤ 1000 := by
  rw [h.hl]; split
  · simp
  · omega
theorem PairsRes.congr {n : Nat} {p q : Nat → Nat → Bool} {N' : Int} {L' : List (Int × Int)} {c' : Int} (h : PairsRes n p N' L' c') (e : ∀ i j, i < j → j < n → p i j = q i j) : PairsRes n q N' L' c' := by
  have := prsTo_congr e n
  exact ⟨by rw [← this]; exact h.hn, by rw [← this]; exact h.hl, by rw [← this]; exact h.hc⟩

/-- A graph and a fault come back. -/
def TwoPost (N' : Int) (L' : List (Int × Int)) (c' a' : Int) (w : World) (e : Ending) (w' : World) : Prop :=
  ∃ v, OwnE w' w.heap.size v L' ∧ Below w.heap.size w w' ∧ e = .returned (.tuple #[.agg #[.int .i64 N', v], .agg #[.int .i64 c', .int .i64 a']])

theorem from_is {n : Nat} {p : Nat → Nat → Bool} {N' : Int} {L' : List (Int × Int)} {c' : Int} (hr : PairsRes n p N' L' c') (g : Nat) (lb : Array Value) (w : World) (eg : ∀ args w, (callFunc g args).run Try.prog w = .ok (.enter g args) w) (hn : n ≤ 100) (hT : Tells g lb n p w) :
    Calls Try.prog 35 #[.int .i64 (n : Int), .func (.func g) #[] lb] w (TwoPost N' L' c' 0 w) :=
  (from_any n g lb p w eg hn hT).mono fun _ _ ⟨v, h1, h2, h3⟩ => ⟨v, by rw [hr.hl]; exact h1, h2, by rw [hr.hn, hr.hc]; exact h3⟩
theorem small_is {n : Nat} {p : Nat → Nat → Bool} {N' : Int} {L' : List (Int × Int)} {c' : Int} (hr : PairsRes n p N' L' c') (g : Nat) (lb : Array Value) (w : World) (eg : ∀ args w, (callFunc g args).run Try.prog w = .ok (.enter g args) w) (hn : n ≤ 100) (hT : Tells g lb n p w) :
    Calls Try.prog 16 #[.int .i64 (n : Int), .func (.func g) #[] lb] w (TwoPost N' L' c' 0 w) :=
  (small_any n g lb p w eg hn hT).mono fun _ _ ⟨v, h1, h2, h3⟩ => ⟨v, by rw [hr.hl]; exact h1, h2, by rw [hr.hn, hr.hc]; exact h3⟩

theorem eg103 : ∀ args w, (callFunc 36 args).run Try.prog w = .ok (.enter 36 args) w := enters_of Try.func36 (by kernel_rfl) rfl

theorem HasGrid.form {w : World} {v : Value} {n : Nat} {G : Nat → Nat → Bool} (h : HasGrid w v n G) : ∃ a c, v = .slice a n c := by
  obtain ⟨B, a, c, b, o, R, rfl, _⟩ := h
  exact ⟨a, c, rfl⟩

theorem row_facts {w : World} {b : Nat} {T : TypeId} {c d : Value} (h : w.rowIs b T 2 (fun i => if i = 0 then c else d)) :
    w.cell? ⟨b, 0, none⟩ = some c ∧ w.cell? ⟨b, 1, none⟩ = some d ∧ w.frozen? ⟨b, 0, none⟩ = false ∧ w.frozen? ⟨b, 1, none⟩ = false ∧ b < w.heap.size :=
  ⟨h.cell (show 0 < 2 by omega), h.cell (show 1 < 2 by omega), h.frozen 0, h.frozen 1, h.lt⟩

/-- What a function of one graph finds: the graph's own variable, two results. -/
structure CSt (w wr : World) (n : Int) (s : Value) (l : List (Int × Int)) : Prop where
  hb : Below w.heap.size w wr
  cn : wr.cell? ⟨w.heap.size, 0, none⟩ = some (.int .i64 n)
  cs : wr.cell? ⟨w.heap.size, 1, none⟩ = some s
  r0 : wr.rowIs (w.heap.size + 1) 24 2 (fun i => if i = 0 then .int .i64 0 else .slice none 0 0)
  r1 : wr.rowIs (w.heap.size + 1 + 1) 28 2 (fun i => if i = 0 then .int .i64 0 else .int .i64 0)
  he : IsEdges wr s l
theorem CSt.start {w : World} {n : Int} {s : Value} {l : List (Int × Int)} (h : IsEdges w s l) : CSt w (((w.alloc (Obj.cells #[.int .i64 n, s] 24)).alloc (Obj.cells #[.int .i64 0, .slice none 0 0] 24)).alloc (Obj.cells #[.int .i64 0, .int .i64 0] 28)) n s l := by
  have h1 := two_cells w (.int .i64 n) s 24
  have r0 := two_row (w.alloc (Obj.cells #[.int .i64 n, s] 24)) (.int .i64 0) (.slice none 0 0) 24
  have r1 := two_row ((w.alloc (Obj.cells #[.int .i64 n, s] 24)).alloc (Obj.cells #[.int .i64 0, .slice none 0 0] 24)) (.int .i64 0) (.int .i64 0) 28
  rw [World.size_alloc] at r0
  rw [World.size_alloc, World.size_alloc] at r1
  have hb := (below2 w (Obj.cells #[.int .i64 n, s] 24) (Obj.cells #[.int .i64 0, .slice none 0 0] 24)).alloc (by simp; omega) (Obj.cells #[.int .i64 0, .int .i64 0] 28)
  exact ⟨hb, below_cell (below2 _ _ _) h1.1, below_cell (below2 _ _ _) h1.2, r0.alloc _, r1, h.below hb⟩
theorem CSt.below {w wr w' : World} {n : Int} {s : Value} {l : List (Int × Int)} (h : CSt w wr n s l) (hb : Below wr.heap.size wr w') : CSt w w' n s l :=
  ⟨h.hb.trans (hb.mono h.hb.size), below_cell hb h.cn, below_cell hb h.cs, h.r0.of_block (hb.block _ h.r0.lt), h.r1.of_block (hb.block _ h.r1.lt), h.he.below hb⟩

set_option maxHeartbeats 3200000 in
set_option maxRecDepth 100000 in
theorem complement_ok {l : List (Int × Int)} {N : Nat} (hgood : GoodGraph N l) {N' : Int} {L' : List (Int × Int)} {c' : Int} (hr : PairsRes N (fun i j => !adj l i j) N' L' c') (s : Value) (w : World) (h : IsEdges w s l) :
    Calls Try.prog 9 #[.agg #[.int .i64 (N : Int), s]] w (TwoPost N' L' c' 0 w) := by
  have hN : N ≤ 100 := by have := hgood.hi; omega
  obtain ⟨ad, cap, rfl⟩ := h.form
  have Hr := Lib.hid hr
  have Hgood := Lib.hid hgood
  have St := Lib.hid (CSt.start (n := (N : Int)) h)
  have hok : ∀ j, j < l.length → EndsOk (N : Int) (l.getD j (0, 0)) ∧ (l.getD j (0, 0)).1 ≠ (l.getD j (0, 0)).2 := fun j hj => ⟨(hgood.fine j hj).1, (hgood.fine j hj).2.1⟩
  have Hok := Lib.hid hok
  clear hr hgood h hok
  go_enter Try.func9, Try.ntmps9
  go_upto_region 1 with fail
  generalize ((w.alloc (Obj.cells #[.int .i64 (N : Int), .slice ad l.length cap] 24)).alloc (Obj.cells #[.int .i64 0, .slice none 0 0] 24)).alloc (Obj.cells #[.int .i64 0, .int .i64 0] 28) = w1 at *
  have cn := St.out.cn
  have cs := St.out.cs
  have hA := St.out.r1.lt
  have hB : w.heap.size < w1.heap.size := by omega
  go_wp2_with (first
    | (go_at_call 32; (refine (gcheck_is Hgood.out.spec _ _ St.out.he).mono ?_; rintro e w2 ⟨rfl, hb2⟩; have S2 := Lib.hid (St.out.below hb2); have cn2 := S2.out.cn; have cs2 := S2.out.cs; have hA2 := S2.out.r1.lt; have hB2 := Nat.lt_trans (Nat.lt_trans (Nat.lt_succ_self _) (Nat.lt_succ_self _)) hA2; clear hb2))
    | (go_at_call 34; refine (table_any l N _ _ (S2.out.he.below (below1 _ _)) (by omega) Hok.out).mono ?_; rintro e w3 ⟨v3, rfl, hg3, hb3⟩; have S3 := Lib.hid ((S2.out.below (below1 _ _)).below hb3); have cn3 := S3.out.cn; have cs3 := S3.out.cs; have hA3 := S3.out.r1.lt; have hB3 := Nat.lt_trans (Nat.lt_trans (Nat.lt_succ_self _) (Nat.lt_succ_self _)) hA3; obtain ⟨a3, c3, rfl⟩ := HasGrid.form ⟨_, hg3⟩; have G3 := Lib.hid (HasGrid.below ⟨_, hg3⟩ (below1 w3 (Obj.cells #[.slice a3 N c3] 36))); clear hb3 hg3)
    | (go_at_call 35; refine (from_is Hr.out 36 #[.pointer (some ⟨w3.heap.size, 0, none⟩)] (w3.alloc (Obj.cells #[.slice a3 N c3] 36)) eg103 (by omega) (fun W i j hij hj hbW => complement1_any W (below_cell hbW (by simp)) (G3.out.below hbW) (by omega) hj)).mono ?_; rintro e w4 ⟨v4, ho4, hb4, rfl⟩; obtain ⟨a4, c4, rfl⟩ := ho4.form; have S4 := Lib.hid ((S3.out.below (below1 _ _)).below hb4); obtain ⟨z0, z1, f0, f1, l0⟩ := row_facts S4.out.r0; obtain ⟨y0, y1, g0, g1, l1⟩ := row_facts S4.out.r1; have Ho4 := Lib.hid ho4; clear hb4 ho4))
  obtain ⟨e0, e1, e2, e3⟩ := four_set S4.out.r0 S4.out.r1 (show w.heap.size + 1 ≠ w.heap.size + 1 + 1 by omega) (.int .i64 N') (.slice a4 L'.length c4) (.int .i64 c') (.int .i64 0)
  have hfin := four_below S4.out.hb (show w.heap.size ≤ w.heap.size + 1 by omega) (show w.heap.size ≤ w.heap.size + 1 + 1 by omega) (.int .i64 N') (.slice a4 L'.length c4) (.int .i64 c') (.int .i64 0)
  have hlow : w.heap.size + 1 + 1 < (w3.alloc (Obj.cells #[.slice a3 N c3] 36)).heap.size := by rw [World.size_alloc]; omega
  have hoe := ((((Ho4.out.set (show w.heap.size + 1 < _ from Nat.lt_trans (by omega) hlow) 0 (.int .i64 N')).set (show w.heap.size + 1 < _ from Nat.lt_trans (by omega) hlow) 1 (.slice a4 L'.length c4)).set hlow 0 (.int .i64 c')).set hlow 1 (.int .i64 0)).low (show w.heap.size ≤ _ by omega)
  exact bodyPost_ret (v := .tuple #[.agg #[.int .i64 N', .slice a4 L'.length c4], .agg #[.int .i64 c', .int .i64 0]]) (by simp [results, Try.results9, go_sem, e0, e1, e2, e3]) rfl ⟨_, hoe, hfin, rfl⟩

end Go.Proofs.Ytbnbhjeknocboaa
