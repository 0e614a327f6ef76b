/- walks.Euler: the walk. -/
import Derived.Test.YtnmljgjegodkaaaLookW
import Derived.Test.YtnmljgjegodkaaaJoiW
import Derived.Test.YtnmljgjegodkaaaOddW
import Derived.Test.YtnmljgjegodkaaaTraW
namespace Go.Proofs.Ytnmljgjegodkaaa
open Go.RowKit

theorem good_ends {N : Nat} {l : List (Int × Int)} (hg : GoodGraph N l) : Ends N l := ⟨fun k hk => by
  obtain ⟨X, Y, he, hX, hY, hne, -⟩ := hg.at hk
  exact ⟨X, Y, he, hX, hY, hne⟩⟩
/-- Where a trail may begin and end. -/
structure EulS (N : Nat) (l : List (Int × Int)) (f p : Nat) : Prop where
  lt : f < N
  edge : ∃ z, AG N (adj l) f z
  par : ∀ v, v < N → (remE (edE l) l.length (fun _ => false) v + (if v = f then 1 else 0) + (if v = p then 1 else 0)) % 2 = 0
theorem mem_oddL {N : Nat} {G : Nat → Nat → Bool} {v : Nat} : v ∈ oddL N G ↔ v < N ∧ cntN N (G v) % 2 = 1 := by
  unfold oddL; rw [List.mem_filter, List.mem_range]; simp
theorem EulS.none {N : Nat} {l : List (Int × Int)} (hg : GoodGraph N l) {f : Nat} (he : ∃ z, AG N (adj l) f z) (h : (oddL N (adj l)).length = 0) : EulS N l f f := by
  obtain ⟨z, hz⟩ := he
  refine ⟨hz.1, ⟨z, hz⟩, fun v hv => ?_⟩
  have h0 : ¬ v ∈ oddL N (adj l) := by rw [List.eq_nil_of_length_eq_zero h]; simp
  rw [mem_oddL] at h0
  rw [rem_deg hg]
  split <;> omega
theorem EulS.two {N : Nat} {l : List (Int × Int)} (hg : GoodGraph N l) {x y : Nat} (h : oddL N (adj l) = [x, y]) : EulS N l x y := by
  have hx : x ∈ oddL N (adj l) := by rw [h]; simp
  have hn : (oddL N (adj l)).Nodup := by unfold oddL; exact List.Nodup.sublist List.filter_sublist List.nodup_range
  rw [h] at hn
  have hxy : x ≠ y := by simpa using hn
  obtain ⟨h1, h2⟩ := mem_oddL.1 hx
  refine ⟨h1, ?_, fun v hv => ?_⟩
  · refine Classical.byContradiction fun hno => ?_
    have : cntN N (adj l x) = 0 := by
      rw [cntN_congr (q := fun _ => false), cntN_false]
      intro i hi
      cases e : adj l x i
      · rfl
      · exact absurd ⟨i, h1, hi, e⟩ hno
    omega
  · have hv' : v ∈ oddL N (adj l) ↔ v = x ∨ v = y := by rw [h]; simp
    rw [mem_oddL] at hv'
    rw [rem_deg hg]
    by_cases e1 : v = x
    · subst e1
      rw [if_pos rfl, if_neg hxy]; omega
    · by_cases e2 : v = y
      · subst e2
        rw [if_neg e1, if_pos rfl]
        have := (hv'.2 (.inr rfl)).2
        omega
      · rw [if_neg e1, if_neg e2]
        have : ¬ (v < N ∧ cntN N (adj l v) % 2 = 1) := fun k => by rcases hv'.1 k with e | e <;> contradiction
        omega
/-- The first of a row of one's own. -/
theorem own_firstT {w : World} {B n : Nat} {v : Value} {K : List Nat} {x : Nat} (h : w.ownsRow B 3 1 v n (nvals (x :: K))) :
    ∃ g c, v = .slice (some ⟨g, 0, none⟩) n c ∧ w.cell? ⟨g, 0, none⟩ = some (.int .i64 (x : Nat)) := by
  have hx : (nvals (x :: K))[0]? = some (.int .i64 (x : Nat)) := by simp [nvals, ints]
  have hlen := h.1
  rcases h.2 with ⟨e, h0⟩ | ⟨g, cap, cur, e, -, -, hc, -⟩
  · rw [h0] at hlen; simp [nvals, ints] at hlen
  · have c := h.cells (g := g) (by rw [e]; rfl) _ _ hx
    rw [Addr.add_lit, Nat.zero_add] at c
    exact ⟨g, cap, e, c⟩
/-- What walks.Euler answers. -/
def EulerPost (n : Int) (l : List (Int × Int)) (w : World) (e : Ending) (w' : World) : Prop :=
  ∃ c0 a0 c a v, GraphSpec n l c0 a0 ∧ e = .returned (.tuple #[v, .agg #[.int .i64 c, .int .i64 a]]) ∧ Below w.heap.size w w' ∧
    ((c0 ≠ 0 ∧ c = c0 ∧ a = a0 ∧ v = .slice none 0 0) ∨ (c0 = 0 ∧ a0 = 0 ∧ ∃ N : Nat, n = N ∧ GoodGraph N l ∧
      ((l = [] ∧ c = 0 ∧ a = 0 ∧ v = .slice none 0 0) ∨ (0 < l.length ∧ (hangB N (adj l) = false ∨ 2 < (oddL N (adj l)).length) ∧ c = 9 ∧ a = 0 ∧ v = .slice none 0 0) ∨
       (0 < l.length ∧ hangB N (adj l) = true ∧ (oddL N (adj l)).length ≤ 2 ∧ c = 0 ∧ a = 0 ∧ ∃ f p O eO, EulS N l f p ∧ IsInts w' v (ints O) ∧ TrF N l.length (edE l) f p O eO))))
theorem look_nil {n : Int} {l : List (Int × Int)} {c a : Int} (h : LookR n l [] c a) : GraphSpec n l c a := by
  obtain ⟨c0, a0, hs⟩ := GraphSpec.ex n l
  obtain ⟨rfl, rfl⟩ := h.uniq (LookR.none hs)
  exact hs

set_option maxHeartbeats 6400000 in
set_option maxRecDepth 100000 in
theorem euler_any (n : Int) (l : List (Int × Int)) (s : Value) (w : World) (h : IsEdges w s l) :
    Calls Try.prog 21 #[.agg #[.int .i64 n, s]] w (EulerPost n l w) := by
  obtain ⟨ad, cap, rfl⟩ := h.form
  have St := Lib.hid (WkG.start (n := n) h)
  clear h
  go_enter Try.func21, Try.ntmps21
  go_upto_region 1 with fail
  generalize (w.alloc (Obj.cells #[.int .i64 n, .slice ad l.length cap] 24)).alloc (Obj.cells #[.int .i64 0, .int .i64 0] 27) = w1 at *
  have cn := St.out.cn
  have cs := St.out.cs
  have hlS := St.out.r.lt
  go_upto_region 2 with (go_at_call 46; refine (wlook_any n l [] _ _ _ St.out.he (IsInts.nil _) (by simp)).mono ?_; rintro e w2 ⟨c, a, hR, rfl, hb2⟩; have hz2 := hb2.size; have hb3 := hb2.trans ((below1 w2 (Obj.cells #[.int .i64 c, .int .i64 a] 27)).mono hb2.size); have S2 := Lib.hid (St.out.below hb3); have HR := Lib.hid (look_nil hR); have e01 := two_cells w2 (.int .i64 c) (.int .i64 a) 27; clear hR hb2 hb3)
  generalize w2.alloc (Obj.cells #[.int .i64 c, .int .i64 a] 27) = w3 at *
  obtain ⟨e0, e1⟩ := e01
  clear cn cs St
  have n1 : w.heap.size + 1 ≠ w2.heap.size := by omega
  generalize w2.heap.size = E at *
  by_cases hc : c = 0
  · subst hc
    obtain ⟨hg, rfl⟩ := HR.out.good
    obtain ⟨N, rfl⟩ := Int.eq_ofNat_of_zero_le hg.lo
    have hN : N ≤ 1000 := by have := hg.hi; omega
    have hlen : l.length ≤ 10000 := by have := hg.len; omega
    have Hg := Lib.hid hg
    clear hg
    have cn := S2.out.cn
    have cs := S2.out.cs
    have fin := fun c a v w' h1 h2 => (⟨0, 0, c, a, v, HR.out, rfl, h1, .inr ⟨rfl, rfl, N, rfl, Hg.out, h2⟩⟩ : EulerPost (N : Int) l w (.returned (.tuple #[v, .agg #[.int .i64 c, .int .i64 a]])) w')
    have Fin := Lib.hid fin
    clear fin
    go_upto_region 4 with fail
    clear e0 e1
    go_upto_region 5 with (go_at_call 47; refine (joined_any Hg.out _ _ S2.out.he).mono ?_; rintro e w5 ⟨hb5, hj⟩; have S5 := Lib.hid (S2.out.below hb5); rcases hj with ⟨hl0, rfl⟩ | ⟨hl1, f, hf, rfl⟩)
    all_goals clear S2 cn cs
    all_goals (have cn := S5.out.cn; have cs := S5.out.cs)
    · have ho : (oddL N (adj l)).length = 0 := by
        rw [hl0]
        have : oddL N (adj []) = [] := by
          refine List.eq_nil_iff_forall_not_mem.2 fun v hv => ?_
          have h := (mem_oddL.1 hv).2
          have h2 : cntN N (adj [] v) = cntN N (fun _ => false) := cntN_congr fun i _ => by unfold adj hasE; simp
          rw [cntN_false] at h2
          omega
        rw [this]; rfl
      have Hl0 := Lib.hid hl0
      clear hl0
      go_upto_region 6 with (go_at_call 49; refine (wodd_any Hg.out _ _ S5.out.he).mono ?_; rintro e w6 ⟨xv, rfl, ho6, hb6⟩; have S6 := Lib.hid (S5.out.below hb6); obtain ⟨aO, cO, rfl⟩ := ownsRow_form ho6; clear ho6 hb6)
      obtain ⟨z0, z1, f0, f1, l0⟩ := row_facts S6.out.r
      obtain ⟨p0, p1, p2⟩ := S6.out.put (.int .i64 0) (.int .i64 0)
      clear cn cs
      go_wp2
      exact bodyPost_ret (v := .tuple #[.slice none 0 0, .agg #[.int .i64 0, .int .i64 0]]) (by simp [results, Try.results21, go_sem, p0, p1]) rfl (Fin.out 0 0 _ _ p2 (.inl ⟨Hl0.out, rfl, rfl, rfl⟩))
    · have Hf := Lib.hid hf
      have Hl1 := Lib.hid hl1
      clear hf hl1
      go_upto_region 6 with (go_at_call 49; refine (wodd_any Hg.out _ _ S5.out.he).mono ?_; rintro e w6 ⟨xv, rfl, ho6, hb6⟩; have S6 := Lib.hid (S5.out.below hb6); obtain ⟨aO, cO, rfl⟩ := ownsRow_form ho6; have Ho6 := Lib.hid ho6; clear ho6 hb6)
      clear cn cs S5
      have cn := S6.out.cn
      have cs := S6.out.cs
      generalize hno : (oddL N (adj l)).length = no at *
      have Hno := Lib.hid hno
      clear hno
      obtain ⟨z0, z1, f0, f1, l0⟩ := row_facts S6.out.r
      generalize hB : hangB N (adj l) = hb at *
      have HB := Lib.hid hB
      clear hB
      have Fbad := Lib.hid (fun (hbad : hb = false ∨ 2 < no) v w' h1 hv => Fin.out 9 0 v w' h1 (.inr (.inl ⟨Hl1.out, by first | exact hbad | (rw [HB.out, Hno.out]; exact hbad), rfl, rfl, hv⟩)))
      cases hb with
      | false =>
        go_wp2_with (go_at_call 48; refine (wfault_any _ _ _).mono ?_; rintro e wf ⟨rfl, rfl⟩)
        obtain ⟨p0, p1, p2⟩ := S6.out.putA (.int .i64 9) (.int .i64 0) (Obj.cells #[.int .i64 9, .int .i64 0] 27)
        exact bodyPost_ret (v := .tuple #[.slice none 0 0, .agg #[.int .i64 9, .int .i64 0]]) (by simp [results, Try.results21, go_sem, p0, p1]) rfl (Fbad.out (by first | exact .inl rfl | simp) _ _ p2 rfl)
      | true =>
        by_cases h2 : 2 < no
        · have H2 := Lib.hid h2
          go_wp2_with (go_at_call 48; refine (wfault_any _ _ _).mono ?_; rintro e wf ⟨rfl, rfl⟩)
          obtain ⟨p0, p1, p2⟩ := S6.out.putA (.int .i64 9) (.int .i64 0) (Obj.cells #[.int .i64 9, .int .i64 0] 27)
          exact bodyPost_ret (v := .tuple #[.slice none 0 0, .agg #[.int .i64 9, .int .i64 0]]) (by simp [results, Try.results21, go_sem, p0, p1]) rfl (Fbad.out (.inr H2.out) _ _ p2 rfl)
        · have hF : ∃ f0 : Nat, f0 = f := ⟨_, rfl⟩
          have h02 : no = 0 ∨ no = 2 := by have := odd_even Hg.out; rw [Hno.out] at this; omega
          have H02 := Lib.hid h02
          clear h02
          by_cases h3 : no = 2
          · obtain ⟨x, y, hxy⟩ : ∃ x y, oddL N (adj l) = [x, y] := by
              have hl2 : (oddL N (adj l)).length = 2 := by rw [Hno.out, h3]
              match hm : oddL N (adj l), hl2 with
              | [x, y], _ => exact ⟨x, y, rfl⟩
            have HE := Lib.hid (EulS.two Hg.out hxy)
            have h6 := Ho6.out
            rw [hxy] at h6
            obtain ⟨gO, cO', eO, cx⟩ := own_firstT h6
            simp only [Value.slice.injEq] at eO
            obtain ⟨rfl, -, -⟩ := eO
            have h3' : ((no : Int) == 2) = true := by rw [beq_iff_eq]; omega
            have hn0 : 0 < no := by omega
            have hfN := HE.out.lt
            have hzF := S6.out.r.lt
            clear h3 hF hxy h6
            go_wp2_with (go_at_call 53; refine (wtrail_any hN hfN (good_ends Hg.out) hlen HE.out.par _ _ S6.out.he).mono ?_; rintro e w7 ⟨xv, O, eO, rfl, ho7, hb7, hT⟩; have S7 := Lib.hid (S6.out.below hb7); obtain ⟨aT, cT, rfl⟩ := ownsRow_form ho7; have Ho7 := Lib.hid ho7; have HT := Lib.hid hT; clear ho7 hb7 hT z0 z1 f0 f1 l0; obtain ⟨z0, z1, f0, f1, l0⟩ := row_facts S7.out.r)
            obtain ⟨p0, p1, p2⟩ := S7.out.put (.int .i64 0) (.int .i64 0)
            have HIW := Lib.hid (IsInts.owned ((Ho7.out.kept (grown_set w7 (w.heap.size + 1) 0 (.int .i64 0)) (own_side Ho7.out hzF)).kept (grown_set _ (w.heap.size + 1) 1 (.int .i64 0)) (own_side Ho7.out hzF)))
            exact bodyPost_ret (v := .tuple #[.slice aT O.length cT, .agg #[.int .i64 0, .int .i64 0]]) (by simp [results, Try.results21, go_sem, p0, p1]) rfl (Fin.out 0 0 _ _ p2 (.inr (.inr ⟨Hl1.out, by first | trivial | exact HB.out, by first | omega | (rw [Hno.out]; omega), rfl, rfl, x, y, O, eO, HE.out, HIW.out, HT.out⟩)))
          · have h3' : ((no : Int) == 2) = false := by rw [beq_eq_false_iff_ne]; omega
            have HE := Lib.hid (EulS.none Hg.out Hf.out (by rw [Hno.out]; rcases H02.out with e | e; exact e; exact absurd e h3))
            have hfN := HE.out.lt
            have hzF := S6.out.r.lt
            clear h3 hF
            go_wp2_with (go_at_call 53; refine (wtrail_any hN hfN (good_ends Hg.out) hlen HE.out.par _ _ S6.out.he).mono ?_; rintro e w7 ⟨xv, O, eO, rfl, ho7, hb7, hT⟩; have S7 := Lib.hid (S6.out.below hb7); obtain ⟨aT, cT, rfl⟩ := ownsRow_form ho7; have Ho7 := Lib.hid ho7; have HT := Lib.hid hT; clear ho7 hb7 hT z0 z1 f0 f1 l0; obtain ⟨z0, z1, f0, f1, l0⟩ := row_facts S7.out.r)
            obtain ⟨p0, p1, p2⟩ := S7.out.put (.int .i64 0) (.int .i64 0)
            have HIW := Lib.hid (IsInts.owned ((Ho7.out.kept (grown_set w7 (w.heap.size + 1) 0 (.int .i64 0)) (own_side Ho7.out hzF)).kept (grown_set _ (w.heap.size + 1) 1 (.int .i64 0)) (own_side Ho7.out hzF)))
            exact bodyPost_ret (v := .tuple #[.slice aT O.length cT, .agg #[.int .i64 0, .int .i64 0]]) (by simp [results, Try.results21, go_sem, p0, p1]) rfl (Fin.out 0 0 _ _ p2 (.inr (.inr ⟨Hl1.out, by first | trivial | exact HB.out, by first | omega | (rw [Hno.out]; omega), rfl, rfl, f, f, O, eO, HE.out, HIW.out, HT.out⟩)))
  · have q : (c != 0) = true := by simpa using hc
    obtain ⟨z0, z1, f0, f1, l0⟩ := row_facts S2.out.r
    obtain ⟨p0, p1, p2⟩ := S2.out.put (.int .i64 c) (.int .i64 a)
    have p3 : (w3.setCell ⟨w.heap.size + 1, 0, none⟩ (.int .i64 c)).cell? ⟨w.heap.size + 1, 0, none⟩ = some (.int .i64 c) := (S2.out.r.set 0 (.int .i64 c)).cell (show 0 < 2 by omega)
    have Hc := Lib.hid hc
    clear hc
    go_upto_region 3 with fail
    go_region
    all_goals
      go_wp2
      exact bodyPost_ret (v := .tuple #[.slice none 0 0, .agg #[.int .i64 c, .int .i64 a]]) (by simp [results, Try.results21, go_sem, p0, p1, p3]) rfl ⟨c, a, c, a, _, HR.out, rfl, p2.drew, .inl ⟨Hc.out, rfl, rfl, rfl⟩⟩

end Go.Proofs.Ytnmljgjegodkaaa
