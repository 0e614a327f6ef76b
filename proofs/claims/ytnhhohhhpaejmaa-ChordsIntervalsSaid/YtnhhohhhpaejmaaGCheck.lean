/- graph.Check: what is wrong with a graph. -/
import Derived.Test.YtnhhohhhpaejmaaPairMap
import Derived.WalkArith
namespace Go.Proofs.Ytnhhohhhpaejmaa
open Go.RowKit Go.Maps

theorem gfault_any (c a : Int) (w : World) :
    Calls Try.prog 52 #[.int .i64 c, .int .i64 a] w fun e w' => e = .returned (.agg #[.int .i64 c, .int .i64 a]) ∧ w.alloc (.cells #[.int .i64 c, .int .i64 a] 27) = w' := by
  go_enter Try.func52, Try.ntmps52
  go_wp2
  exact bodyPost_ret (v := .agg #[.int .i64 c, .int .i64 a]) (by simp [results, Try.results52, go_sem]) rfl ⟨rfl, rfl⟩

theorem wf_small {z : Int} (h0 : 0 ≤ z) (h1 : z ≤ 1000) : (Lit.int .i64 z).wf = true := by
  have h : decide (IntKind.min .i64 ≤ z) = true ∧ decide (z ≤ IntKind.max .i64) = true := ⟨decide_eq_true (by show (-9223372036854775808 : Int) ≤ z; omega), decide_eq_true (by show z ≤ (9223372036854775807 : Int); omega)⟩
  simp [Lit.wf] at h ⊢
  exact h

/-- The pairs that stand among the first k edges. -/
def pairsB (l : List (Int × Int)) (k : Nat) (u v : Int) : Bool := (l.take k).any fun e => decide (min e.1 e.2 = u ∧ max e.1 e.2 = v)

theorem pairsB_has (l : List (Int × Int)) (k : Nat) (x y : Int) : pairsB l k (min x y) (max x y) = hasE (l.take k) x y := by
  unfold pairsB hasE
  congr 1
  funext e
  apply decide_eq_decide.2
  unfold Meets
  omega

theorem pairsB_succ {l : List (Int × Int)} {k : Nat} {x y : Int} (hk : k < l.length) (he : l.getD k (0, 0) = (x, y)) (u v : Int) : pairsB l (k + 1) u v = if u = min x y ∧ v = max x y then true else pairsB l k u v := by
  have e : l.take (k + 1) = l.take k ++ [(x, y)] := by
    rw [List.take_succ_eq_append_getElem hk]
    have : l[k] = (x, y) := by rw [← he]; simp [List.getD, hk]
    rw [this]
  unfold pairsB
  rw [e, List.any_append]
  by_cases h : u = min x y ∧ v = max x y
  · rw [if_pos h]; simp [h.1, h.2]
  · rw [if_neg h]
    have : ¬ (min x y = u ∧ max x y = v) := fun hh => h ⟨hh.1.symm, hh.2.symm⟩
    simp [this]

theorem GRes.grown {w wr w' : World} {A B M : Nat} {n : Int} {s : Value} (h : GRes w wr A B n s) (hg : wr.grownBy w' (some M)) (hM : B < M) : GRes w w' A B n s := by
  have hlt := h.hz.lt
  have hA := h.hA
  have hB := h.hB
  have eA : w'.heap[A]? = wr.heap[A]? := hg.block A (by omega) (by simp; omega)
  have eB : w'.heap[B]? = wr.heap[B]? := hg.block B hlt (by simp; omega)
  exact ⟨h.hb.grown hg h.hb.size (fun g e => by cases e; omega), by rw [World.cell?_of_block eA]; exact h.cn, by rw [World.cell?_of_block eA]; exact h.cs, h.hz.of_block eB, h.hB, h.hA⟩

set_option maxHeartbeats 3200000 in
set_option maxRecDepth 100000 in
theorem gcheck_any (l : List (Int × Int)) (n : Int) (s : Value) (w : World) (h : IsEdges w s l) :
    Calls Try.prog 29 #[.agg #[.int .i64 n, s]] w (Faulty (GraphSpec n l) w) := by
  have hs := h
  obtain ⟨ad, cap, bb, o, rfl, hcap, hmax, hadr, -, hcell⟩ := h
  have hg := GRes.start w n (.slice ad l.length cap)
  have hsz1 : ((w.alloc (Obj.cells #[.int .i64 n, .slice ad l.length cap] 24)).alloc (Obj.cells #[Value.int IntKind.i64 0, Value.int IntKind.i64 0] 27)).heap.size = w.heap.size + 2 := by rw [World.size_alloc, World.size_alloc]
  have cn := hg.cn
  have cs := hg.cs
  have cz0 := hg.hz.cell (show 0 < 2 by omega)
  have cz1 := hg.hz.cell (show 1 < 2 by omega)
  have zz0 := hg.hz.frozen 0
  have zz1 := hg.hz.frozen 1
  have hBl := hg.hz.lt
  have Hg := Lib.hid hg; have Hs := Lib.hid hs
  have hmm := @run_makeMap Try.prog
  clear hg hs
  go_enter Try.func29, Try.ntmps29
  go_upto_region 1 with fail
  generalize (w.alloc (Obj.cells #[.int .i64 n, .slice ad l.length cap] 24)).alloc (Obj.cells #[Value.int IntKind.i64 0, Value.int IntKind.i64 0] 27) = w1 at *
  by_cases b1 : n < 0
  · go_wp2_with (go_at_call 52; refine (gfault_any _ _ _).mono ?_; rintro e wf ⟨rfl, rfl⟩)
    obtain ⟨e0, e1, e2⟩ := Hg.out.putA (.int .i64 2) (.int .i64 0) (Obj.cells #[Value.int .i64 2, .int .i64 0] 27)
    exact bodyPost_ret (v := .agg #[.int .i64 2, .int .i64 0]) (by simp [results, Try.results29, go_sem, e0, e1]) rfl ⟨2, 0, Or.inl ⟨Or.inl b1, rfl, rfl⟩, rfl, e2⟩
  by_cases b2 : 100 < n
  · go_wp2_with (go_at_call 52; refine (gfault_any _ _ _).mono ?_; rintro e wf ⟨rfl, rfl⟩)
    obtain ⟨e0, e1, e2⟩ := Hg.out.putA (.int .i64 2) (.int .i64 0) (Obj.cells #[Value.int .i64 2, .int .i64 0] 27)
    exact bodyPost_ret (v := .agg #[.int .i64 2, .int .i64 0]) (by simp [results, Try.results29, go_sem, e0, e1]) rfl ⟨2, 0, Or.inl ⟨Or.inr (Or.inl b2), rfl, rfl⟩, rfl, e2⟩
  by_cases b3 : 1000 < l.length
  · have b3' : (1000 : Int) < (l.length : Int) := by omega
    go_wp2_with (go_at_call 52; refine (gfault_any _ _ _).mono ?_; rintro e wf ⟨rfl, rfl⟩)
    obtain ⟨e0, e1, e2⟩ := Hg.out.putA (.int .i64 2) (.int .i64 0) (Obj.cells #[Value.int .i64 2, .int .i64 0] 27)
    exact bodyPost_ret (v := .agg #[.int .i64 2, .int .i64 0]) (by simp [results, Try.results29, go_sem, e0, e1]) rfl ⟨2, 0, Or.inl ⟨Or.inr (Or.inr b3), rfl, rfl⟩, rfl, e2⟩
  have b3' : ¬ (1000 : Int) < (l.length : Int) := by omega
  have hbig : ¬ TooBig n l := by unfold TooBig; omega
  have Hbig := Lib.hid hbig
  clear hbig
  have hse := Seen.made w1
  have hgm := Hg.out.alloc (Obj.map #[] 0)
  have Hse := Lib.hid hse; have Hgm := Lib.hid hgm
  clear hse hgm
  go_wp2
  generalize w1.alloc (Obj.map #[] 0) = w2 at *
  generalize w.heap.size = A at *
  generalize w1.heap.size = M at *
  subst hsz1
  clear cn cs cz0 cz1 zz0 zz1 hBl hmm
  go_loopg [27] l.length (fun g s27 wr => ∃ k : Nat, k ≤ l.length ∧ g = l.length - k ∧ s27 = .int .i64 k ∧ GRes w wr A (A + 1) n (.slice ad l.length cap) ∧ Seen wr (A + 2) k (pairsB l k) ∧ ∀ j, j < k → Fine n l j)
  case atStart => exact ⟨0, Nat.zero_le _, rfl, rfl, Hgm.out, Hse.out, fun _ h => absurd h (Nat.not_lt_zero _)⟩
  case round =>
    obtain ⟨k, hk, rfl, rfl, hg, hse, hok⟩ := hrel
    have Hok := Lib.hid hok; clear hok
    have Hse2 := Lib.hid hse; clear hse
    have cn := hg.cn
    have cs := hg.cs
    have cz0 := hg.hz.cell (show 0 < 2 by omega)
    have cz1 := hg.hz.cell (show 1 < 2 by omega)
    have zz0 := hg.hz.frozen 0
    have zz1 := hg.hz.frozen 1
    have hBl := hg.hz.lt
    have hAl : A < wr.heap.size := by omega
    by_cases hlt : k < l.length
    · obtain rfl := hadr (by omega)
      obtain ⟨x, y, He, cx, cy⟩ := edges_at hcell hg.hb hlt
      have Hg1 := Lib.hid hg
      clear hg hcell hadr
      go_wp2_with fail
      go_quiet (fail)
      have mn : (if y < x then y else x) = min x y := by split <;> omega
      have mx : (if x < y then y else x) = max x y := by split <;> omega
      simp only [mn, mx]
      have g5 := (Hg1.out.alloc (Obj.cells #[.int .i64 x, .int .i64 y] 52)).below (Below.drewN' (Below.refl _ _) nq)
      have hml : A + 2 < wr.heap.size := by
        obtain ⟨D, hD, _⟩ := Hse2.out
        exact hD.lt
      have s5 : Seen ((wr.alloc (Obj.cells #[.int .i64 x, .int .i64 y] 52)).drewN nq) (A + 2) k (pairsB l k) := Hse2.out.kept ((below1 wr (Obj.cells #[.int .i64 x, .int .i64 y] 52)).block _ hml)
      generalize (wr.alloc (Obj.cells #[.int .i64 x, .int .i64 y] 52)).drewN nq = w5 at *
      clear cn cs cz0 cz1 zz0 zz1 hBl hAl cx cy mn mx hml
      have cn := g5.cn
      have cz0 := g5.hz.cell (show 0 < 2 by omega)
      have cz1 := g5.hz.cell (show 1 < 2 by omega)
      have zz0 := g5.hz.frozen 0
      have zz1 := g5.hz.frozen 1
      have hBl := g5.hz.lt
      have hAl : A < w5.heap.size := by omega
      have hhas := pairsB_has l k x y
      have hle : min x y ≤ max x y := by omega
      have hfin : EndsOk n (l.getD k (0, 0)) ↔ 0 ≤ min x y ∧ max x y < n := by rw [He.out]; unfold EndsOk; simp only; omega
      have hxy : (l.getD k (0, 0)).1 = (l.getD k (0, 0)).2 ↔ min x y = max x y := by rw [He.out]; simp only; omega
      have hhas2 : hasE (l.take k) (l.getD k (0, 0)).1 (l.getD k (0, 0)).2 = pairsB l k (min x y) (max x y) := by rw [hhas, He.out]
      have hsucc := fun u v => pairsB_succ hlt He.out u v
      generalize min x y = a at *
      generalize max x y = b at *
      have G5 := Lib.hid g5; have Hfin := Lib.hid hfin; have Hxy := Lib.hid hxy; have Hhas := Lib.hid hhas2; have Hsucc := Lib.hid hsucc
      clear g5 hfin hxy hhas hhas2 hsucc
      by_cases a1 : a < 0
      · go_wp2_with (go_at_call 52; refine (gfault_any _ _ _).mono ?_; rintro e wf ⟨rfl, rfl⟩)
        obtain ⟨e0, e1, e2⟩ := G5.out.putA (.int .i64 3) (.int .i64 k) (Obj.cells #[Value.int .i64 3, .int .i64 k] 27)
        exact bodyPost_ret (v := .agg #[.int .i64 3, .int .i64 k]) (by simp [results, Try.results29, go_sem, e0, e1]) rfl ⟨3, k, Or.inr ⟨Hbig.out, Or.inl ⟨k, hlt, Hok.out, Or.inl ⟨fun h => by have := Hfin.out.1 h; omega, rfl⟩, rfl⟩⟩, rfl, e2⟩
      by_cases b4 : n ≤ b
      · go_wp2_with (go_at_call 52; refine (gfault_any _ _ _).mono ?_; rintro e wf ⟨rfl, rfl⟩)
        obtain ⟨e0, e1, e2⟩ := G5.out.putA (.int .i64 3) (.int .i64 k) (Obj.cells #[Value.int .i64 3, .int .i64 k] 27)
        exact bodyPost_ret (v := .agg #[.int .i64 3, .int .i64 k]) (by simp [results, Try.results29, go_sem, e0, e1]) rfl ⟨3, k, Or.inr ⟨Hbig.out, Or.inl ⟨k, hlt, Hok.out, Or.inl ⟨fun h => by have := Hfin.out.1 h; omega, rfl⟩, rfl⟩⟩, rfl, e2⟩
      have Hends := Lib.hid (Hfin.out.2 ⟨by omega, by omega⟩)
      by_cases ab : a = b
      · have q1 : (a == b) = true := by simp [ab]
        have Hab := Lib.hid ab; clear ab
        go_wp2_with (go_at_call 52; refine (gfault_any _ _ _).mono ?_; rintro e wf ⟨rfl, rfl⟩)
        obtain ⟨e0, e1, e2⟩ := G5.out.putA (.int .i64 4) (.int .i64 k) (Obj.cells #[Value.int .i64 4, .int .i64 k] 27)
        exact bodyPost_ret (v := .agg #[.int .i64 4, .int .i64 k]) (by simp [results, Try.results29, go_sem, e0, e1]) rfl ⟨4, k, Or.inr ⟨Hbig.out, Or.inl ⟨k, hlt, Hok.out, Or.inr (Or.inl ⟨Hends.out, Hxy.out.2 Hab.out, rfl⟩), rfl⟩⟩, rfl, e2⟩
      have q1 : (a == b) = false := by simp [ab]
      have Hab := Lib.hid ab; clear ab
      have wa : (Lit.int .i64 a).wf = true := wf_small (by omega) (by omega)
      have wb : (Lit.int .i64 b).wf = true := wf_small (by omega) (by omega)
      have hlk := s5.look wa wb
      cases hc : pairsB l k a b with
      | true =>
        rw [hc] at hlk
        simp only [if_true] at hlk
        have Hc := Lib.hid hc
        clear hc
        go_wp2_with (go_at_call 52; refine (gfault_any _ _ _).mono ?_; rintro e wf ⟨rfl, rfl⟩)
        obtain ⟨e0, e1, e2⟩ := G5.out.putA (.int .i64 5) (.int .i64 k) (Obj.cells #[Value.int .i64 5, .int .i64 k] 27)
        exact bodyPost_ret (v := .agg #[.int .i64 5, .int .i64 k]) (by simp [results, Try.results29, go_sem, e0, e1]) rfl ⟨5, k, Or.inr ⟨Hbig.out, Or.inl ⟨k, hlt, Hok.out, Or.inr (Or.inr ⟨Hends.out, fun h => Hab.out (Hxy.out.1 h), by rw [Hhas.out]; exact Hc.out, rfl⟩), rfl⟩⟩, rfl, e2⟩
      | false =>
        rw [hc] at hlk
        simp only [Bool.false_eq_true, if_false] at hlk
        have Hc := Lib.hid hc
        obtain ⟨D, hD, hS⟩ := s5
        obtain ⟨kl, hkl⟩ := pair_key a b wa wb
        have hval : plainElem (H := Unit) Try.prog 3 (.int .i64 1) = some (.lit (.int .i64 1), []) := plainElem_int Try.underlying3 (by decide)
        have hmap : IsMap D := by obtain ⟨es, clock, _, _, _, e⟩ := hD; exact ⟨_, e⟩
        have HS := Lib.hid hS; have HD := Lib.hid hD; have Hkl := Lib.hid hkl; have Hval := Lib.hid hval
        clear hc hS hD hkl hval
        go_wp2_with (at_mapUpdate; refine wpList_mapUpdate_own _ rfl _ _ _ 76 rfl 52 3 pairKeyed Try.underlying76 _ (A + 2) k D rfl HD.out (by unfold maxLen; omega) _ _ kl rfl rfl Hkl.out (.lit (.int .i64 1)) [] Hval.out ?_; intro w6 hown6 hg6)
        have gf := G5.out.grown hg6 (by omega)
        have sf := Seen.put hown6 hmap Hkl.out HS.out
        have sf2 : Seen w6 (A + 2) (k + 1) (pairsB l (k + 1)) := by
          have e : pairsB l (k + 1) = fun u v => if u = a ∧ v = b then true else pairsB l k u v := by funext u v; exact Hsucc.out u v
          rw [e]; exact sf
        have Gf := Lib.hid gf; have Sf := Lib.hid sf2
        clear gf sf sf2 hown6 hg6
        go_roundg (l.length - (k + 1))
        case measure => go_light; omega
        case rel => exact ⟨k + 1, by omega, rfl, by go_num, Gf.out, Sf.out, fun j hj => by
          by_cases e : j = k
          · rw [e]; exact ⟨Hends.out, fun h => Hab.out (Hxy.out.1 h), by rw [Hhas.out]; exact Hc.out⟩
          · exact Hok.out j (by omega)⟩
    · obtain rfl : l.length = k := by omega
      have Hg1 := Lib.hid hg
      clear hg hcell hadr
      go_wp2
      obtain ⟨e0, e1, e2⟩ := Hg1.out.put (.int .i64 0) (.int .i64 0)
      exact bodyPost_ret (v := .agg #[.int .i64 0, .int .i64 0]) (by simp [results, Try.results29, go_sem, e0, e1]) rfl ⟨0, 0, Or.inr ⟨Hbig.out, Or.inr ⟨Hok.out, rfl, rfl⟩⟩, rfl, e2⟩

end Go.Proofs.Ytnhhohhhpaejmaa
