/- colour.Brooks: the walk. -/
import Derived.Test.YtnhhohhhpaejmaaDoorPG
import Derived.Test.YtnhhohhhpaejmaaDoorAtCW
import Derived.Test.YtnhhohhhpaejmaaDoorSidW
import Derived.Test.YtnhhohhhpaejmaaDoorPQ
import Derived.Test.YtnhhohhhpaejmaaDoorTable
import Derived.Test.YtnhhohhhpaejmaaDoorPE
import Derived.Test.YtnhhohhhpaejmaaDoorSmallC
namespace Go.Proofs.YtnhhohhhpaejmaaDoor
open Go Go.RowKit Go.Maps

/-- What colour.Brooks answers. -/
def BroPost (n : Int) (l : List (Int × Int)) (w : World) (e : Ending) (w' : World) : Prop :=
  ∃ c a v, e = .returned (.tuple #[v, .agg #[.int .i64 c, .int .i64 a]]) ∧ Below w.heap.size w w' ∧
    ((c ≠ 0 ∧ GraphSpec n l c a ∧ v = .slice none 0 0) ∨
     ∃ N : Nat, n = (N : Int) ∧ GoodGraph n l ∧ a = 0 ∧ ((c = 8 ∧ KindB N l ∧ v = .slice none 0 0) ∨
      (c = 0 ∧ ¬ KindB N l ∧ ∃ b C, v = .slice (some ⟨b, 0, none⟩) N N ∧ w'.rowIs b 3 N (ri C) ∧ ColD N (adj l) (mostN l N) C)))

theorem sides_two {l : List (Int × Int)} {N : Nat} (hg : GoodGraph N l) (hnk : ¬ KindB N l) (h2 : mostN l N = 2) {w w' : World} {e : Ending} (h : SidesPost N (adj l) w e w') :
    Below w.heap.size w w' ∧ ∃ b S Fr P D R, e = .returned (.tuple #[.slice (some ⟨b, 0, none⟩) N N, .slice none 0 0, .agg #[.int .i64 0, .int .i64 0]]) ∧ w.heap.size ≤ b ∧ w'.rowIs b 3 N (ri S) ∧ SidI N (adj l) N [] S Fr P D R := by
  obtain ⟨hb, h | ⟨v, m, -, -, hr, ho⟩⟩ := h
  · exact ⟨hb, h⟩
  · exact absurd hr (fun hr => ring_kind hg hnk h2 hr ho)
theorem bro_end {w wz : World} {l : List (Int × Int)} {N bR : Nat} {s : Value} {C : Nat → Int} (S : PSt w wz (N : Int) s l) (hr : wz.rowIs bR 3 N (ri C)) (hne : bR ≠ w.heap.size + 1) (hg : GoodGraph N l) (hnk : ¬ KindB N l) (hcol : ColD N (adj l) (mostN l N) C) :
    BroPost N l w (.returned (.tuple #[.slice (some ⟨bR, 0, none⟩) N N, .agg #[.int .i64 0, .int .i64 0]])) ((wz.setCell ⟨w.heap.size + 1, 0, none⟩ (.int .i64 0)).setCell ⟨w.heap.size + 1, 1, none⟩ (.int .i64 0)).drew := by
  have hfin := ((S.hb).setCell (p := ⟨w.heap.size + 1, 0, none⟩) (by show w.heap.size ≤ w.heap.size + 1; omega) (.int .i64 0)).setCell (p := ⟨w.heap.size + 1, 1, none⟩) (by show w.heap.size ≤ w.heap.size + 1; omega) (.int .i64 0)
  have h1 := (hr.setOther (a := ⟨w.heap.size + 1, 0, none⟩) hne (.int .i64 0)).setOther (a := ⟨w.heap.size + 1, 1, none⟩) hne (.int .i64 0)
  exact ⟨0, 0, _, rfl, hfin.drew, .inr ⟨N, rfl, hg, rfl, .inr ⟨rfl, hnk, bR, C, rfl, h1.of_block rfl, hcol⟩⟩⟩

set_option maxHeartbeats 3200000 in
set_option maxRecDepth 100000 in
theorem brooks_bad {l : List (Int × Int)} {n c a : Int} (hs : GraphSpec n l c a) (hc : c ≠ 0) (s : Value) (w : World) (h : IsEdges w s l) :
    Calls Tryd.prog 13 #[.agg #[.int .i64 n, s]] w fun e w' => e = .returned (.tuple #[.slice none 0 0, .agg #[.int .i64 c, .int .i64 a]]) ∧ Below w.heap.size w w' := by
  obtain ⟨ad, cap, rfl⟩ := h.form
  have Hs := Lib.hid hs; have Hc := Lib.hid hc
  have q : (c != 0) = true := by simpa using hc
  have St := Lib.hid (PSt.start (n := n) h)
  clear hs h hc
  go_enter Tryd.func13, Tryd.ntmps13
  go_upto_region 1 with fail
  generalize (w.alloc (Obj.cells #[.int .i64 n, .slice ad l.length cap] 24)).alloc (Obj.cells #[.int .i64 0, .int .i64 0] 27) = w1 at *
  have cn := St.out.cn
  have cs := St.out.cs
  have hl := St.out.r.lt
  go_upto_region 2 with (go_at_call 25; refine (pcomps_bad Hs.out Hc.out _ _ St.out.he).mono ?_; rintro e w2 ⟨rfl, hb2⟩; have hz2 := hb2.size; have S2 := Lib.hid (St.out.below (hb2.trans ((below1 w2 (Obj.cells #[.int .i64 c, .int .i64 a] 27)).mono hb2.size))); have e01 := two_cells w2 (.int .i64 c) (.int .i64 a) 27; clear hb2)
  generalize w2.alloc (Obj.cells #[.int .i64 c, .int .i64 a] 27) = w3 at *
  obtain ⟨e0, e1⟩ := e01
  clear cn cs St
  obtain ⟨z0, z1, f0, f1, l0⟩ := row_facts S2.out.r
  have n1 : w.heap.size + 1 ≠ w2.heap.size := by omega
  generalize w2.heap.size = E at *
  go_upto_region 3 with fail
  go_region_held3 (fun w' => w'.cell? ⟨E, 0, none⟩ = some (.int .i64 c) ∧ w'.cell? ⟨E, 1, none⟩ = some (.int .i64 a)) (go_keep) (fail)
  all_goals
    go_wp2
    have d0 := (S2.out.r.set 0 (.int .i64 c)).cell (show 0 < 2 by omega)
    simp only [if_true] at d0
    have e := (S2.out.r.set 0 (.int .i64 c)).set 1 (.int .i64 a)
    have e0 := e.cell (show 0 < 2 by omega)
    have e1 := e.cell (show 1 < 2 by omega)
    simp only [if_true, show ¬ (1 : Nat) = 0 by omega, show ¬ (0 : Nat) = 1 by omega, if_false] at e0 e1
    have hfin := ((S2.out.hb).setCell (p := ⟨w.heap.size + 1, 0, none⟩) (by show w.heap.size ≤ w.heap.size + 1; omega) (.int .i64 c)).setCell (p := ⟨w.heap.size + 1, 1, none⟩) (by show w.heap.size ≤ w.heap.size + 1; omega) (.int .i64 a)
    exact bodyPost_ret (v := .tuple #[.slice none 0 0, .agg #[.int .i64 c, .int .i64 a]]) (by simp [results, Tryd.results13, go_sem, d0, e0, e1]) rfl ⟨rfl, hfin.drew⟩

set_option maxHeartbeats 12800000 in
set_option maxRecDepth 100000 in
theorem brooks_good {l : List (Int × Int)} {N : Nat} (hgood : GoodGraph N l) (s : Value) (w : World) (h : IsEdges w s l) :
    Calls Tryd.prog 13 #[.agg #[.int .i64 (N : Int), s]] w (BroPost N l w) := by
  obtain ⟨ad, cap, rfl⟩ := h.form
  have hN : N ≤ 100 := by have := hgood.hi; omega
  have hll : l.length ≤ 1000 := hgood.len
  have Hg := Lib.hid hgood
  have Hok := Lib.hid (show ∀ j, j < l.length → EndsOk (N : Int) (l.getD j (0, 0)) ∧ (l.getD j (0, 0)).1 ≠ (l.getD j (0, 0)).2 from fun j hj => ⟨(Hg.out.fine j hj).1, (Hg.out.fine j hj).2.1⟩)
  have hmf : ∀ (fn : Fn) (first cap : Array Value) (w : World), (Instr.makeFunc fn first cap).run Tryd.prog w = .ok (.func fn first cap) w := fun _ _ _ _ => rfl
  have hmk := run_make_row' (P := Tryd.prog) 29 3 (.int .i64 0) 8 Tryd.underlying29 info3 rfl .i64 .i64 N (by omega) (by omega)
  have St := Lib.hid (PSt.start (n := (N : Int)) h)
  clear hgood h
  go_enter Tryd.func13, Tryd.ntmps13
  go_upto_region 1 with fail
  generalize (w.alloc (Obj.cells #[.int .i64 (N : Int), .slice ad l.length cap] 24)).alloc (Obj.cells #[.int .i64 0, .int .i64 0] 27) = w1 at *
  have cn := St.out.cn
  have cs := St.out.cs
  have hl := St.out.r.lt
  go_upto_region 2 with (go_at_call 25; refine (pcomps_ok Hg.out _ _ St.out.he).mono ?_; rintro e w2 ⟨vc, rfl, hpr, hb2⟩; have hz2 := hb2.size; have S2 := Lib.hid (St.out.below (hb2.trans ((below1 w2 (Obj.cells #[.int .i64 0, .int .i64 0] 27)).mono hb2.size))); have F2 := Lib.hid (FV.new w2 0 0); obtain ⟨vals, hpo, -⟩ := hpr; obtain ⟨ac, cc, rfl⟩ := ownsRow_form hpo; clear hb2 hpo)
  generalize hcl : (lds (conB N (adj l)) N).length = K at *
  have Hcl := Lib.hid (show (compsL N (adj l)).length = K by rw [List.length_map]; exact hcl)
  clear hcl
  generalize w2.alloc (Obj.cells #[.int .i64 0, .int .i64 0] 27) = w3 at *
  have n1 : w.heap.size + 1 ≠ w2.heap.size := by omega
  generalize w2.heap.size = E at *
  clear cn cs hl St
  have cn := S2.out.cn
  have cs := S2.out.cs
  obtain ⟨e0, e1, -, -, -⟩ := F2.out.facts
  go_upto_region 5 with (go_at_call 19; refine (glists_any Hg.out _ _ S2.out.he).mono ?_; rintro e w5 ⟨B, V, rfl, hnb, hBlo, hb5⟩; have S5 := Lib.hid (S2.out.below hb5); have F5 := Lib.hid (F2.out.below hb5); have Hnb := Lib.hid hnb; clear hnb hb5)
  clear e0 e1 cn cs S2 F2
  have cn := S5.out.cn
  have cs := S5.out.cs
  obtain ⟨e0, e1, -, -, -⟩ := F5.out.facts
  go_wp2
  go_loopg [7, 40] N (fun g s7 s40 wr => ∃ k : Nat, k ≤ N ∧ g = N - k ∧ s40 = .int .i64 (k : Int) ∧ s7 = .int .i64 ((maxC (fun v => (nbrs l N v).length) k : Nat) : Int) ∧ w5 = wr)
  case atStart => exact ⟨0, Nat.zero_le _, rfl, rfl, rfl, rfl⟩
  case round =>
    obtain ⟨k, hk, rfl, rfl, rfl, rfl⟩ := hrel
    by_cases hkl : k < N
    · have hcB := Hnb.out.ro.cell hkl
      obtain ⟨ag, cg, eV⟩ := Hnb.out.form hkl
      rw [eV] at hcB
      have hmx := maxC_top (fun v => (nbrs l N v).length) 100 (fun v => nbrs_le hN v) k
      have hle := nbrs_le (l := l) hN k
      have Hs := Lib.hid (show maxC (fun v => (nbrs l N v).length) (k + 1) = if maxC (fun v => (nbrs l N v).length) k < (nbrs l N k).length then (nbrs l N k).length else maxC (fun v => (nbrs l N v).length) k from rfl)
      generalize maxC (fun v => (nbrs l N v).length) k = mx at *
      generalize (nbrs l N k).length = len at *
      clear eV
      go_wp2
      go_roundg (N - (k + 1))
      case measure => go_light; omega
      case rel => exact ⟨k + 1, by omega, rfl, by go_num, by rw [Hs.out]; congr 1; split <;> omega, rfl⟩
    · obtain rfl : N = k := by omega
      have hmx := maxC_top (fun v => (nbrs l N v).length) 100 (fun v => nbrs_le hN v) N
      generalize hmm : maxC (fun v => (nbrs l N v).length) N = most at *
      have Hm := Lib.hid (show mostN l N = most from hmm)
      clear hmm hk hkl
      go_upto_region 11 with fail
      go_cut [82] from 49 to 82 (fun s82 wx => ∃ b : Bool, s82 = .bool b ∧ (b = true ↔ KindB N l) ∧ w5 = wx)
      case first =>
        have hK : KindB N l ↔ (K ≠ 1 ∨ l.length = N * (N - 1) / 2 ∨ (most = 2 ∧ l.length = N ∧ N % 2 = 1)) := by unfold KindB; rw [Hcl.out, Hm.out]
        have HK := Lib.hid hK
        clear hK
        by_cases h1 : K = 1
        · subst h1
          have q1 : IntKind.i64.wrap ((N : Int) - 1) = (N : Int) - 1 := IntWalk.i64_in _ (by omega)
          have hmul : 0 ≤ (N : Int) * ((N : Int) - 1) ∧ (N : Int) * ((N : Int) - 1) ≤ 10000 := by
            rcases Nat.eq_zero_or_pos N with h | h
            · subst h; simp
            · exact ⟨Int.mul_nonneg (by omega) (by omega), Int.le_trans (Int.mul_le_mul (show (N : Int) ≤ 100 by omega) (show (N : Int) - 1 ≤ 100 by omega) (by omega) (by omega)) (by decide)⟩
          have q2 : IntKind.i64.wrap ((N : Int) * ((N : Int) - 1)) = (N : Int) * ((N : Int) - 1) := IntWalk.i64_in _ (by omega)
          have q3 : ((N : Int) * ((N : Int) - 1)).tdiv 2 = ((N * (N - 1) / 2 : Nat) : Int) := by
            have e : (N : Int) * ((N : Int) - 1) = ((N * (N - 1) : Nat) : Int) := by
              rcases Nat.eq_zero_or_pos N with h | h
              · subst h; rfl
              · rw [Int.natCast_mul]; congr 1; omega
            rw [e]; rfl
          have q4 : (N : Int).tmod 2 = ((N % 2 : Nat) : Int) := rfl
          have hH : N * (N - 1) / 2 ≤ 10000 := by
            have : N * (N - 1) ≤ 100 * 100 := Nat.mul_le_mul hN (by omega)
            omega
          generalize N * (N - 1) / 2 = H at *
          have q5 : IntKind.i64.wrap (H : Int) = (H : Int) := IntWalk.i64_in _ (by omega)
          generalize l.length = L at *
          clear hmul
          by_cases h2 : L = H
          · have Hk := Lib.hid (HK.out.2 (.inr (.inl h2)))
            subst h2
            clear HK
            go_wp2
            go_meet
            exact ⟨true, rfl, ⟨fun _ => Hk.out, fun _ => rfl⟩, rfl⟩
          · have p2 : ((L : Int) == (H : Int)) = false := by simp; omega
            by_cases h3 : most = 2
            · by_cases h4 : L = N
              · by_cases h5 : N % 2 = 1
                · have Hk := Lib.hid (HK.out.2 (.inr (.inr ⟨h3, h4, h5⟩)))
                  rw [h5] at q4
                  clear HK h2 h5
                  subst h3 h4
                  go_wp2
                  go_meet
                  exact ⟨true, rfl, ⟨fun _ => Hk.out, fun _ => rfl⟩, rfl⟩
                · have Hk := Lib.hid (show ¬ KindB N l from fun h => by rcases HK.out.1 h with h | h | h <;> omega)
                  have h6 : N % 2 = 0 := by omega
                  rw [h6] at q4
                  clear HK h2 h5 h6
                  subst h3 h4
                  go_wp2
                  go_meet
                  exact ⟨false, rfl, ⟨fun h => by (cases h), fun h => absurd h Hk.out⟩, rfl⟩
              · have Hk := Lib.hid (show ¬ KindB N l from fun h => by rcases HK.out.1 h with h | h | h <;> omega)
                have p4 : ((L : Int) == (N : Int)) = false := by simp; omega
                clear HK h2 h4
                subst h3
                go_wp2
                go_meet
                exact ⟨false, rfl, ⟨fun h => by (cases h), fun h => absurd h Hk.out⟩, rfl⟩
            · have Hk := Lib.hid (show ¬ KindB N l from fun h => by rcases HK.out.1 h with h | h | h <;> omega)
              have p3 : ((most : Int) == 2) = false := by simp; omega
              clear HK h2 h3
              go_wp2
              go_meet
              exact ⟨false, rfl, ⟨fun h => by (cases h), fun h => absurd h Hk.out⟩, rfl⟩
        · have p1 : ((K : Int) != 1) = true := by simp; omega
          have hk : KindB N l := HK.out.2 (.inl h1)
          have Hk := Lib.hid hk
          clear hk h1
          go_wp2
          go_meet
          exact ⟨true, rfl, ⟨fun _ => Hk.out, fun _ => rfl⟩, rfl⟩
      case rest =>
      obtain ⟨b, rfl, hb, rfl⟩ := hcut
      have Hkb := Lib.hid hb
      clear hb
      cases b with
      | true =>
        have hk := Lib.hid (Hkb.out.1 rfl)
        have S6 := Lib.hid (S5.out.below (below1 w5 (Obj.cells #[.int .i64 8, .int .i64 0] 27)))
        obtain ⟨z0, z1, f0, f1, l0⟩ := row_facts S6.out.r
        clear cn cs e0 e1
        go_wp2_with (go_at_call 26; refine (cfault_any _ _ _).mono ?_; rintro e wf ⟨rfl, rfl⟩)
        have e := (S6.out.r.set 0 (.int .i64 8)).set 1 (.int .i64 0)
        have e0 := e.cell (show 0 < 2 by omega)
        have e1 := e.cell (show 1 < 2 by omega)
        simp only [if_true, show ¬ (1 : Nat) = 0 by omega, show ¬ (0 : Nat) = 1 by omega, if_false] at e0 e1
        have hfin := ((S6.out.hb).setCell (p := ⟨w.heap.size + 1, 0, none⟩) (by show w.heap.size ≤ w.heap.size + 1; omega) (.int .i64 8)).setCell (p := ⟨w.heap.size + 1, 1, none⟩) (by show w.heap.size ≤ w.heap.size + 1; omega) (.int .i64 0)
        exact bodyPost_ret (v := .tuple #[.slice none 0 0, .agg #[.int .i64 8, .int .i64 0]]) (by simp [results, Tryd.results13, go_sem, e0, e1]) rfl ⟨8, 0, _, rfl, hfin, .inr ⟨N, rfl, Hg.out, rfl, .inl ⟨rfl, hk.out, rfl⟩⟩⟩
      | false =>
        have Hnk := Lib.hid (show ¬ KindB N l from fun h => by have := Hkb.out.2 h; cases this)
        have hm2 := most_two Hg.out Hnk.out
        rw [Hm.out] at hm2
        have hO10 := (zrow_is w5 N).congr (g := ri fun _ => 0) fun _ _ => rfl
        have b10 := below1 w5 (zrow N)
        have hz10 : w5.heap.size < (w5.alloc (zrow N)).heap.size := by rw [World.size_alloc]; omega
        have HO10 := Lib.hid hO10; have B10 := Lib.hid b10
        have hBw : B < w5.heap.size := Hnb.out.ro.lt
        have hww : w.heap.size + 1 < w5.heap.size := S5.out.r.lt
        have hE5 : E < w5.heap.size := F5.out.r.lt
        clear hO10 b10 Hkb
        go_upto_region 14 with fail
        clear hmk cn cs e0 e1
        generalize w5.alloc (zrow N) = w6 at *
        generalize hbC : w5.heap.size = bC at *
        have HbC := Lib.hid hbC
        clear hbC
        go_wp2
        go_loopg [89] N (fun g s89 wr => ∃ q : Nat, q ≤ N ∧ g = N - q ∧ s89 = .int .i64 (q : Int) ∧ wr.rowIs bC 3 N (ri fun p => if p < q then -1 else 0) ∧ Below bC w5 wr ∧ bC < wr.heap.size)
        case atStart => exact ⟨0, Nat.zero_le _, rfl, rfl, HO10.out.congr fun q _ => by simp [ri], B10.out, hz10⟩
        case round =>
          obtain ⟨q, hq, rfl, rfl, hrow, hb, hz⟩ := hrel
          obtain ⟨w7, rfl⟩ : ∃ w7 : World, w7 = wr := ⟨_, rfl⟩
          have Hrow := Lib.hid hrow; have Hb := Lib.hid hb
          clear hrow hb
          by_cases hqN : q < N
          · have cq := Hrow.out.cell hqN
            have fq := Hrow.out.frozen q
            have lq := Hrow.out.lt
            go_wp2
            go_roundg (N - (q + 1))
            case measure => go_light; omega
            case rel => exact ⟨q + 1, by omega, rfl, by go_num, (Hrow.out.set q (.int .i64 (-1))).congr fun p _ => (by
              by_cases e : p = q
              · subst e; simp [ri]
              · have : (p < q + 1) ↔ p < q := by omega
                simp [ri, e, this]), Hb.out.setCell (p := ⟨bC, q, none⟩) (Nat.le_refl _) _, by simpa [World.setCell] using hz⟩
          · obtain rfl : N = q := by omega
            have HR7 := Lib.hid (row_ri (g' := fun _ => -1) Hrow.out fun p hp => by simp [hp])
            have S7 := Lib.hid (S5.out.below (by rw [HbC.out]; exact Hb.out))
            have F7 := Lib.hid (F5.out.below (by rw [HbC.out]; exact Hb.out))
            have NB7 := Lib.hid (Hnb.out.below (by rw [HbC.out]; exact Hb.out))
            clear Hrow hq hqN hz10 HO10 B10
            have cn := S7.out.cn
            have cs := S7.out.cs
            by_cases h2 : most = 2
            · subst h2
              clear hm2
              go_upto_region 22 with (go_at_call 28; refine (psides_ok Hg.out _ _ S7.out.he).mono ?_; rintro e w8 hres; obtain ⟨hb8, bS, S, Fr, P, D, R, rfl, hbS, hrS, hsi⟩ := sides_two Hg.out Hnk.out Hm.out hres; have b8 := hb8.trans ((below1 w8 (Obj.cells #[.int .i64 0, .int .i64 0] 27)).mono hb8.size); have S8 := Lib.hid (S7.out.below b8); have F8 := Lib.hid (F7.out.below b8); have HrS := Lib.hid (hrS.of_block ((below1 w8 (Obj.cells #[.int .i64 0, .int .i64 0] 27)).block _ hrS.lt)); have Hsi := Lib.hid hsi; have hz7 := Hb.out.size; clear hres hb8 b8 hrS hsi)
              generalize w8.alloc (Obj.cells #[.int .i64 0, .int .i64 0] 27) = w9 at *
              clear cn cs
              obtain ⟨z0, z1, f0, f1, l0⟩ := row_facts S8.out.r
              obtain ⟨e0, e1, -, -, -⟩ := F8.out.facts
              go_region_held3 (fun w' => w'.cell? ⟨E, 0, none⟩ = some (.int .i64 0) ∧ w'.cell? ⟨E, 1, none⟩ = some (.int .i64 0)) (go_keep) (fail)
              all_goals
                go_wp2
                have d0 := (S8.out.r.set 0 (.int .i64 0)).cell (show 0 < 2 by omega)
                simp only [if_true] at d0
                have e := (S8.out.r.set 0 (.int .i64 0)).set 1 (.int .i64 0)
                have e0 := e.cell (show 0 < 2 by omega)
                have e1 := e.cell (show 1 < 2 by omega)
                simp only [if_true, show ¬ (1 : Nat) = 0 by omega, show ¬ (0 : Nat) = 1 by omega, if_false] at e0 e1
                exact bodyPost_ret (v := .tuple #[.slice (some ⟨bS, 0, none⟩) N N, .agg #[.int .i64 0, .int .i64 0]]) (by simp [results, Tryd.results13, go_sem, d0, e0, e1]) rfl (bro_end S8.out HrS.out (by omega) Hg.out Hnk.out (side_col Hg.out Hsi.out Hm.out))
            · have q2 : ((most : Int) == 2) = false := by simp; omega
              have HX := Lib.hid (nbrs_nr Hg.out)
              have Hcon := Lib.hid (comps_one Hg.out (Classical.byContradiction fun k => Hnk.out (.inl k)))
              have HD := Lib.hid (show ∀ v, v < N → (nbrs l N v).length ≤ most from fun v hv => by rw [← Hm.out]; exact most_le v hv)
              have HL := Lib.hid (show ∀ v, v < N → (nbrs l N v).length ≤ 100 from fun v _ => nbrs_le hN v)
              have HK5 := Lib.hid (show ∀ wr, Below bC w5 wr → PSt w wr (N : Int) (.slice ad l.length cap) l ∧ FV wr E 0 0 ∧ NB wr B N V (nbrs l N) from fun wr h => by rw [← HbC.out] at h; exact ⟨S5.out.below h, F5.out.below h, Hnb.out.below h⟩)
              have hz7 : bC < w7.heap.size := HR7.out.lt
              have eg3 : ∀ args w, (callFunc 27 args).run Tryd.prog w = .ok (.enter 27 args) w := enters_of Tryd.func27 (by kernel_rfl) rfl
              have eg4 : ∀ args w, (callFunc 33 args).run Tryd.prog w = .ok (.enter 33 args) w := enters_of Tryd.func33 (by kernel_rfl) rfl
              go_wp2
              clear q2 cn cs
              go_loopg [108] N (fun g s108 wr => ∃ k : Nat, k ≤ N ∧ g = N - k ∧ s108 = .int .i64 (k : Int) ∧ w7 = wr ∧ ∀ v, v < k → (nbrs l N v).length = most)
              case atStart => exact ⟨0, Nat.zero_le _, rfl, rfl, rfl, fun v hv => absurd hv (Nat.not_lt_zero _)⟩
              case round =>
                obtain ⟨k, hk, rfl, rfl, rfl, hall⟩ := hrel
                have Hall := Lib.hid hall
                clear hall
                by_cases hkl : k < N
                · have hcB := NB7.out.ro.cell hkl
                  obtain ⟨ag, cg, eV⟩ := NB7.out.form hkl
                  rw [eV] at hcB
                  have hle := HD.out k hkl
                  by_cases hlt : (nbrs l N k).length < most
                  · have HordF := Lib.hid (fun (O : List Nat) (I : Nat → Bool) (h : SprI N (adj l) (fun _ => true) k O I O.length) => col_low HX.out h hkl HD.out hlt)
                    generalize (nbrs l N k).length = len at *
                    clear eV
                    go_upto_region 28 with (first
                      | (go_at_call 29; have _h := Hs8.out; refine (back_any (D := most) (C0 := fun _ => -1) HX.out.mem HX.out.sym HX.out.irr Hord.out hN (by omega) (fun v hv => by have := HL.out v hv; omega) (fun v _ => by omega) B bC V a8 c8 w8 (fun wr hg => (HK5.out wr (Hb8.out.grown hg (by omega) (fun g e => by cases e; exact Nat.le_refl _))).2.2) (fun wr hg => (IsInts.owned (own_keep Ho8.out hg (by omega)) : IsInts wr _ (ints O8))) (HR7.out.of_block (Hb78.out.block _ hz7)) (by omega)).mono ?_; rintro e w9 ⟨rfl, C, hbk, hrC, hg9⟩; have HrC := Lib.hid hrC; have Hcol := Lib.hid (show ColD N (adj l) (mostN l N) C by rw [Hm.out]; exact back_all hbk (spr_all Hs8.out Hcon.out.2 hkl)); have Hb9 := Lib.hid (Hb8.out.grown hg9 (by omega) (fun g e => by cases e; exact Nat.le_refl _)); have S9 := Lib.hid (HK5.out w9 Hb9.out).1; have F9 := Lib.hid (HK5.out w9 Hb9.out).2.1; clear hbk hrC hg9)
                      | (go_at_call 30; refine (spread_any (f := k) HX.out.mem hN (fun v hv => by have := HL.out v hv; omega) B V hkl (fun _ => true) 27 #[] w7 eg3 (openAll_tells N w7) NB7.out).mono ?_; rintro e w8 ⟨v8, O8, I8, rfl, ho8, hs8, hb8⟩; obtain ⟨a8, c8, rfl⟩ := ownsRow_form ho8; have Ho8 := Lib.hid ho8; have Hs8 := Lib.hid hs8; have Hb78 := Lib.hid hb8; have Hb8 := Lib.hid (Hb.out.trans (hb8.mono (by omega))); have hz8 := hb8.size; have Hord := Lib.hid (HordF.out O8 I8 hs8); clear hb8 ho8 hs8))
                    clear hcB
                    obtain ⟨z0, z1, f0, f1, l0⟩ := row_facts S9.out.r
                    obtain ⟨e0, e1, -, -, -⟩ := F9.out.facts
                    go_region_held3 (fun w' => w'.cell? ⟨E, 0, none⟩ = some (.int .i64 0) ∧ w'.cell? ⟨E, 1, none⟩ = some (.int .i64 0)) (go_keep) (fail)
                    all_goals
                      go_wp2
                      have d0 := (S9.out.r.set 0 (.int .i64 0)).cell (show 0 < 2 by omega)
                      simp only [if_true] at d0
                      have e := (S9.out.r.set 0 (.int .i64 0)).set 1 (.int .i64 0)
                      have e0 := e.cell (show 0 < 2 by omega)
                      have e1 := e.cell (show 1 < 2 by omega)
                      simp only [if_true, show ¬ (1 : Nat) = 0 by omega, show ¬ (0 : Nat) = 1 by omega, if_false] at e0 e1
                      exact bodyPost_ret (v := .tuple #[.slice (some ⟨bC, 0, none⟩) N N, .agg #[.int .i64 0, .int .i64 0]]) (by simp [results, Tryd.results13, go_sem, d0, e0, e1]) rfl (bro_end S9.out HrC.out (by omega) Hg.out Hnk.out Hcol.out)
                  · have heq : (nbrs l N k).length = most := by omega
                    have Hnew := Lib.hid (show ∀ v, v < k + 1 → (nbrs l N v).length = most from fun v hv => by
                      by_cases e : v = k
                      · subst e; exact heq
                      · exact Hall.out v (by omega))
                    have hlt2 : ¬ (((nbrs l N k).length : Int) < (most : Int)) := by omega
                    generalize (nbrs l N k).length = len at *
                    clear eV hle hlt heq
                    go_wp2
                    go_roundg (N - (k + 1))
                    case measure => go_light; omega
                    case rel => exact ⟨k + 1, by omega, rfl, by go_num, rfl, Hnew.out⟩
                · obtain rfl : N = k := by omega
                  clear hk hkl
                  have hN0 := Hcon.out.1
                  have cn := S7.out.cn
                  have cs := S7.out.cs
                  go_upto_region 31 with (go_at_call 31; refine (pcuts_ok Hg.out _ _ S7.out.he).mono ?_; rintro e w8 ⟨vq, rfl, ho8, hb8⟩; obtain ⟨a8, c8, rfl⟩ := ownsRow_form ho8; have b9 := hb8.trans ((below1 w8 (Obj.cells #[.int .i64 0, .int .i64 0] 27)).mono hb8.size); have Hb9 := Lib.hid (Hb.out.trans (b9.mono (by omega))); have HR9 := Lib.hid (HR7.out.of_block (b9.block _ hz7)); have Ho9 := Lib.hid (ownsRow_below ho8 (below1 w8 (Obj.cells #[.int .i64 0, .int .i64 0] 27)) (Nat.le_refl _)); clear hb8 b9 ho8)
                  generalize w8.alloc (Obj.cells #[.int .i64 0, .int .i64 0] 27) = w9 at *
                  clear cn cs
                  have hz9 : bC < w9.heap.size := HR9.out.lt
                  generalize hcm : cutsL N (blkD l N) = cm at *
                  have Hcm := Lib.hid hcm
                  clear hcm
                  cases cm with
                  | cons x rest =>
                    have hxc := Lib.hid (cut_node Hg.out (x := x) (by rw [Hcm.out]; exact List.mem_cons_self))
                    have hxN := hxc.out.1
                    obtain ⟨g8, rfl⟩ : ∃ g8, a8 = some ⟨g8, 0, none⟩ := by
                      rcases Ho9.out.2 with ⟨e, e0⟩ | ⟨g, cap', cur, e, -⟩
                      · simp at e0
                      · simp only [Value.slice.injEq] at e; exact ⟨g, e.1⟩
                    have hcx : w9.cell? ⟨g8, 0, none⟩ = some (.int .i64 (x : Int)) := by
                      have c := Ho9.out.cells (g := g8) rfl 0 (.int .i64 (x : Int)) (by simp [nvals, ints])
                      rw [Addr.add_lit, Nat.zero_add] at c
                      exact c
                    have hlenx : (0 : Int) < (((x :: rest).length : Nat) : Int) := by simp only [List.length_cons]; omega
                    generalize (x :: rest).length = nc at *
                    go_upto_region 33 with (go_at_call 32; refine (atCut_any (D := most) HX.out hN HL.out HD.out (by omega) hxN hxc.out.2 B bC V w9 (fun wr hg => (HK5.out wr (Hb9.out.grown hg (by omega) (fun g e => by cases e; exact Nat.le_refl _))).2.2) HR9.out (by omega)).mono ?_; rintro e w10 ⟨rfl, dn, K10, hci, hrK, hg10⟩; have HrC := Lib.hid hrK; have Hcol := Lib.hid (show ColD N (adj l) (mostN l N) K10 by rw [Hm.out]; exact hci.fin HX.out hxN Hcon.out.2 (by obtain ⟨a, b, ha, -, hga, -⟩ := hxc.out.2; exact ⟨a, ha, hga⟩) (by omega)); have Hb10 := Lib.hid (Hb9.out.grown hg10 (by omega) (fun g e => by cases e; exact Nat.le_refl _)); have S10 := Lib.hid (HK5.out w10 Hb10.out).1; have F10 := Lib.hid (HK5.out w10 Hb10.out).2.1; clear hci hrK hg10)
                    clear hcx
                    obtain ⟨z0, z1, f0, f1, l0⟩ := row_facts S10.out.r
                    obtain ⟨e0, e1, -, -, -⟩ := F10.out.facts
                    go_region_held3 (fun w' => w'.cell? ⟨E, 0, none⟩ = some (.int .i64 0) ∧ w'.cell? ⟨E, 1, none⟩ = some (.int .i64 0)) (go_keep) (fail)
                    all_goals
                      go_wp2
                      have d0 := (S10.out.r.set 0 (.int .i64 0)).cell (show 0 < 2 by omega)
                      simp only [if_true] at d0
                      have e := (S10.out.r.set 0 (.int .i64 0)).set 1 (.int .i64 0)
                      have e0 := e.cell (show 0 < 2 by omega)
                      have e1 := e.cell (show 1 < 2 by omega)
                      simp only [if_true, show ¬ (1 : Nat) = 0 by omega, show ¬ (0 : Nat) = 1 by omega, if_false] at e0 e1
                      exact bodyPost_ret (v := .tuple #[.slice (some ⟨bC, 0, none⟩) N N, .agg #[.int .i64 0, .int .i64 0]]) (by simp [results, Tryd.results13, go_sem, d0, e0, e1]) rfl (bro_end S10.out HrC.out (by omega) Hg.out Hnk.out Hcol.out)
                  | nil =>
                    have Hex := Lib.hid (hit_ex Hg.out Hnk.out (by rw [Hm.out]; omega) (fun v hv => by rw [Hm.out]; exact Hall.out v hv) Hcm.out)
                    clear Ho9
                    go_wp2
                    go_loopg [145] N (fun g s145 wr => ∃ v : Nat, v ≤ N ∧ g = N - v ∧ s145 = .int .i64 (v : Int) ∧ Below bC w5 wr ∧ wr.rowIs bC 3 N (ri fun _ => -1) ∧ ∀ v', v' < v → ∀ i, i < (nbrs l N v').length → ∀ q, q < i → ¬ HitB N (adj l) v' ((nbrs l N v').getD i 0) ((nbrs l N v').getD q 0))
                    case atStart => exact ⟨0, Nat.zero_le _, rfl, rfl, Hb9.out, HR9.out, fun v hv => absurd hv (Nat.not_lt_zero _)⟩
                    case round =>
                      obtain ⟨v, hv, rfl, rfl, hbv, hrv, hno⟩ := hrel
                      obtain ⟨wv, rfl⟩ : ∃ wv : World, wv = wr := ⟨_, rfl⟩
                      have Hbv := Lib.hid hbv; have HRv := Lib.hid hrv; have Hno := Lib.hid hno
                      clear hbv hrv hno
                      by_cases hvN : v < N
                      · have hNBv := (HK5.out wv Hbv.out).2.2
                        have hcB := hNBv.ro.cell hvN
                        obtain ⟨ag, cg, eV⟩ := hNBv.form hvN
                        rw [eV] at hcB
                        have HeV := Lib.hid eV
                        have hlv := HL.out v hvN
                        clear hNBv eV
                        go_wp2
                        clear hcB
                        go_loopg [153] (nbrs l N v).length (fun g s153 wr => ∃ i : Nat, i ≤ (nbrs l N v).length ∧ g = (nbrs l N v).length - i ∧ s153 = .int .i64 (i : Int) ∧ Below bC w5 wr ∧ wr.rowIs bC 3 N (ri fun _ => -1) ∧ ∀ i', i' < i → ∀ q, q < i' → ¬ HitB N (adj l) v ((nbrs l N v).getD i' 0) ((nbrs l N v).getD q 0))
                        case atStart => exact ⟨0, Nat.zero_le _, rfl, rfl, Hbv.out, HRv.out, fun i hi => absurd hi (Nat.not_lt_zero _)⟩
                        case round =>
                          obtain ⟨i, hi, rfl, rfl, hbi, hri, hno⟩ := hrel
                          obtain ⟨wi, rfl⟩ : ∃ wi : World, wi = wr := ⟨_, rfl⟩
                          have Hbi := Lib.hid hbi; have HRi := Lib.hid hri; have Hno5 := Lib.hid hno
                          clear hbi hri hno
                          by_cases hil : i < (nbrs l N v).length
                          · obtain ⟨g, c, eV, hca⟩ := (HK5.out wi Hbi.out).2.2.lookB hvN hil
                            rw [HeV.out] at eV
                            obtain ⟨rfl, rfl⟩ : ag = some ⟨g, 0, none⟩ ∧ cg = c := by simpa using eV
                            obtain ⟨haN, hga⟩ := (HX.out.mem v _ hvN).1 (show (nbrs l N v).getD i 0 ∈ nbrs l N v by rw [List.getD, List.getElem?_eq_getElem hil]; exact List.getElem_mem _)
                            have hcB := (HK5.out wi Hbi.out).2.2.ro.cell hvN
                            rw [HeV.out] at hcB
                            have hcap : (nbrs l N v).length ≤ cg := by
                              have ho := (HK5.out wi Hbi.out).2.2.owns hvN
                              rw [HeV.out] at ho
                              obtain ⟨a', c', b', o', e', h1, -⟩ := (IsInts.owned ho : IsInts wi _ (ints (nbrs l N v)))
                              rw [ints_length] at e' h1
                              have : cg = c' := by simpa using (Value.slice.inj e').2.2
                              omega
                            have hicg : i ≤ cg := by omega
                            have Hga := Lib.hid hga
                            have Hnx5 := Lib.hid (show (∀ q, q < i → ¬ HitB N (adj l) v ((nbrs l N v).getD i 0) ((nbrs l N v).getD q 0)) → ∀ i', i' < i + 1 → ∀ q, q < i' → ¬ HitB N (adj l) v ((nbrs l N v).getD i' 0) ((nbrs l N v).getD q 0) from fun h i' hi' q hq => by
                              by_cases e : i' = i
                              · subst e; exact h q hq
                              · exact Hno5.out i' (by omega) q hq)
                            have hbA1 := below1 wi (Obj.cells #[.int .i64 (((nbrs l N v).getD i 0 : Nat) : Int)] 3)
                            have cA1 : (wi.alloc (Obj.cells #[.int .i64 (((nbrs l N v).getD i 0 : Nat) : Int)] 3)).cell? ⟨wi.heap.size, 0, none⟩ = some (.int .i64 (((nbrs l N v).getD i 0 : Nat) : Int)) := by rw [World.cell?_alloc_at _ _ _ _ rfl]; rfl
                            have hcB1 := below_cell hbA1 hcB
                            have hzi : bC < wi.heap.size := HRi.out.lt
                            have Hbi1 := Lib.hid (Hbi.out.trans (hbA1.mono (by omega))); have HRi1 := Lib.hid (HRi.out.of_block (hbA1.block _ hzi))
                            have cA1' := Lib.hid cA1
                            clear eV hga hbA1
                            have Hnei := Lib.hid (fun (q : Nat) (hq : q < i) => show (nbrs l N v).getD i 0 ≠ (nbrs l N v).getD q 0 from fun e => by
                              have h1 := HX.out.nd v hvN
                              rw [List.getD, List.getD, List.getElem?_eq_getElem hil, List.getElem?_eq_getElem (show q < (nbrs l N v).length by omega), Option.getD_some, Option.getD_some] at e
                              have := (List.getElem_inj h1).1 e
                              omega)
                            generalize hxa : (nbrs l N v).getD i 0 = a at *
                            go_upto_region 40 with fail
                            generalize wi.alloc (Obj.cells #[.int .i64 (a : Int)] 3) = wj at *
                            generalize wi.heap.size = bA at *
                            go_wp2
                            clear hcB hcB1 hca cA1
                            go_loopg [165] i (fun g s165 wr => ∃ q : Nat, q ≤ i ∧ g = i - q ∧ s165 = .int .i64 (q : Int) ∧ Below bC w5 wr ∧ wr.rowIs bC 3 N (ri fun _ => -1) ∧ wr.cell? ⟨bA, 0, none⟩ = some (.int .i64 (a : Int)) ∧ ∀ q', q' < q → ¬ HitB N (adj l) v a ((nbrs l N v).getD q' 0))
                            case atStart => exact ⟨0, Nat.zero_le _, rfl, rfl, Hbi1.out, HRi1.out, cA1'.out, fun q hq => absurd hq (Nat.not_lt_zero _)⟩
                            case round =>
                              obtain ⟨q, hq, rfl, rfl, hbq, hrq, hcA, hno⟩ := hrel
                              obtain ⟨wq, rfl⟩ : ∃ wq : World, wq = wr := ⟨_, rfl⟩
                              have Hbq := Lib.hid hbq; have HRq := Lib.hid hrq; have Hno6 := Lib.hid hno; have HcA := Lib.hid hcA
                              clear hbq hrq hno hcA
                              by_cases hqi : q < i
                              · obtain ⟨g2, c2, eV, hcb⟩ := (HK5.out wq Hbq.out).2.2.lookB hvN (show q < (nbrs l N v).length by omega)
                                rw [HeV.out] at eV
                                obtain ⟨rfl, rfl⟩ : g = g2 ∧ cg = c2 := by simpa using eV
                                obtain ⟨hbN, hgb⟩ := (HX.out.mem v _ hvN).1 (show (nbrs l N v).getD q 0 ∈ nbrs l N v by rw [List.getD, List.getElem?_eq_getElem (show q < (nbrs l N v).length by omega)]; exact List.getElem_mem _)
                                have Hne := Lib.hid (Hnei.out q hqi)
                                have Hgb := Lib.hid hgb
                                have Hnx6 := Lib.hid (show ¬ HitB N (adj l) v a ((nbrs l N v).getD q 0) → ∀ q', q' < q + 1 → ¬ HitB N (adj l) v a ((nbrs l N v).getD q' 0) from fun h q' hq' => by
                                  by_cases e : q' = q
                                  · subst e; exact h
                                  · exact Hno6.out q' (by omega))
                                clear eV hgb
                                generalize (nbrs l N v).getD q 0 = b at *
                                have hbB1 := below1 wq (Obj.cells #[.int .i64 (b : Int)] 3)
                                have cB1 : (wq.alloc (Obj.cells #[.int .i64 (b : Int)] 3)).cell? ⟨wq.heap.size, 0, none⟩ = some (.int .i64 (b : Int)) := by rw [World.cell?_alloc_at _ _ _ _ rfl]; rfl
                                have cA1 := below_cell hbB1 HcA.out
                                have hzq : bC < wq.heap.size := HRq.out.lt
                                have Hb11 := Lib.hid (Hbq.out.trans (hbB1.mono (by omega))); have HR11 := Lib.hid (HRq.out.of_block (hbB1.block _ hzq))
                                have HcB1 := Lib.hid cB1; have HcA1 := Lib.hid cA1
                                clear hbB1
                                go_upto_region 43 with fail
                                clear hcb
                                generalize wq.alloc (Obj.cells #[.int .i64 (b : Int)] 3) = wb at *
                                generalize wq.heap.size = bB at *
                                have hzb : bC < wb.heap.size := HR11.out.lt
                                have hbAz : bA < wb.heap.size := World.block_lt_of_cell? _ _ HcA1.out
                                have hbBz : bB < wb.heap.size := World.block_lt_of_cell? _ _ HcB1.out
                                go_upto_region 45 with (go_at_call 30; refine (spread_any (f := v) HX.out.mem hN (fun v hv => by have := HL.out v hv; omega) B V hvN (fun p => !decide (p = a) && !decide (p = b)) 33 #[.pointer (some ⟨bA, 0, none⟩), .pointer (some ⟨bB, 0, none⟩)] wb eg4 (openTwo_tells HcA1.out HcB1.out) (HK5.out wb Hb11.out).2.2).mono ?_; rintro e w12 ⟨v12, O12, I12, rfl, ho12, hs12, hb12⟩; obtain ⟨a12, c12, rfl⟩ := ownsRow_form ho12; have Ho12 := Lib.hid ho12; have Hs12 := Lib.hid hs12; have Hb12 := Lib.hid (Hb11.out.trans (hb12.mono (by omega))); have HR12 := Lib.hid (HR11.out.of_block (hb12.block _ hzb)); have HcA12 := Lib.hid (below_cell hb12 HcA1.out); have HcB12 := Lib.hid (below_cell hb12 HcB1.out); have hz12 := hb12.size; clear hb12 ho12 hs12)
                                clear cA1 cB1
                                have Htwo := Lib.hid (two_all HX.out hvN haN hbN Hga.out Hgb.out Hne.out Hs12.out)
                                have Hnot := Lib.hid (two_not HX.out hvN Hga.out Hgb.out Hs12.out)
                                have Hord := Lib.hid (two_ord HX.out hvN haN hbN Hga.out Hgb.out Hne.out HD.out Hs12.out)
                                have hlen12 := spr_len Hs12.out
                                have Hs12b := Lib.hid (fun u (hu : u < N) => (Hs12.out.rch hu))
                                clear Hs12
                                generalize hO12 : O12.length = m12 at *
                                have HO12 := Lib.hid hO12
                                clear hO12
                                have S12 := Lib.hid (HK5.out w12 Hb12.out).1
                                have cn := S12.out.cn
                                have cs := S12.out.cs
                                have cA := HcA12.out
                                have cB := HcB12.out
                                have q2 : IntKind.i64.wrap ((N : Int) - 2) = (N : Int) - 2 := IntWalk.i64_in _ (by omega)
                                by_cases h45 : m12 + 2 = N
                                · have q3 : ((m12 : Int) != (N : Int) - 2) = false := by simp; omega
                                  have Hall12 := Lib.hid (Htwo.out.1 h45)
                                  have hd : Below w12.heap.size w12 w12.drew := (Below.refl _ _).drew
                                  clear h45
                                  go_cut [189] from 174 to 189 (fun s189 wx => s189 = .bool (adj l a b) ∧ Below w12.heap.size w12 wx)
                                  case first =>
                                    have cA0 : w12.drew.cell? ⟨bA, 0, none⟩ = some (.int .i64 (a : Int)) := cA
                                    have cB0 : w12.drew.cell? ⟨bB, 0, none⟩ = some (.int .i64 (b : Int)) := cB
                                    go_region_with (go_at_call 34; refine (table_any l N _ _ ((S12.out.below hd).he) hN Hok.out).mono ?_; rintro e w13 ⟨vT, rfl, ⟨ga, gc, gb, go, R, rfl, hgc, hgad, hgrid⟩, hbT⟩; obtain rfl := (hgad hN0).1; have hbx := hd.trans hbT; have t1 := hgrid.head a haN; have t2 := (hgrid.row a haN).cell hbN; have t3 := below_cell hbT cA0; have t4 := below_cell hbT cB0; simp only [rb] at t2; clear hgrid hgad hbT)
                                    all_goals
                                      go_wp2_with fail
                                      go_meet
                                      exact ⟨rfl, hbx⟩
                                  case rest =>
                                  obtain ⟨rfl, hb13⟩ := hcut
                                  obtain ⟨w13, rfl⟩ : ∃ w13 : World, w13 = wc := ⟨_, rfl⟩
                                  have hzC : bC < w12.heap.size := HR12.out.lt
                                  have Hb13 := Lib.hid (Hb12.out.trans (hb13.mono (by omega)))
                                  have HR13 := Lib.hid (HR12.out.of_block (hb13.block _ hzC))
                                  have HcA13 := Lib.hid (below_cell hb13 cA); have HcB13 := Lib.hid (below_cell hb13 cB)
                                  have Ho13 := Lib.hid (ownsRow_below Ho12.out hb13 (Nat.le_refl _))
                                  clear cn cs cA cB hb13 q3 q2 hd
                                  cases hab : adj l a b with
                                  | true =>
                                    have hnh := Lib.hid (Hnx6.out fun h => by have := h.1; rw [hab] at this; cases this)
                                    clear hab
                                    go_wp2
                                    go_roundg (i - (q + 1))
                                    case measure => go_light; omega
                                    case rel => exact ⟨q + 1, by omega, rfl, by go_num, Hb13.out, HR13.out, HcA13.out, hnh.out⟩
                                  | false =>
                                    have Hab := Lib.hid hab
                                    clear hab
                                    go_upto_region 46 with fail
                                    go_cut [] from 190 to 195 (fun wx => wx.rowIs bC 3 N (ri (twoC a b)) ∧ w13.grownBy wx (some bC))
                                    case first =>
                                      have r0 : w13.drew.rowIs bC 3 N (ri fun _ => -1) := HR13.out.of_block rfl
                                      have k0 : w13.drew.cell? ⟨bA, 0, none⟩ = some (.int .i64 (a : Int)) ∧ w13.drew.cell? ⟨bB, 0, none⟩ = some (.int .i64 (b : Int)) := ⟨HcA13.out, HcB13.out⟩
                                      have hAC : bA ≠ bC := by omega
                                      have hBC : bB ≠ bC := by omega
                                      have tr : ∀ {wa : World} (z : Nat), wa.cell? ⟨bA, 0, none⟩ = some (.int .i64 (a : Int)) ∧ wa.cell? ⟨bB, 0, none⟩ = some (.int .i64 (b : Int)) → (wa.setCell ⟨bC, z, none⟩ (.int .i64 0)).cell? ⟨bA, 0, none⟩ = some (.int .i64 (a : Int)) ∧ (wa.setCell ⟨bC, z, none⟩ (.int .i64 0)).cell? ⟨bB, 0, none⟩ = some (.int .i64 (b : Int)) := fun z c =>
                                        ⟨(World.cell?_of_block (a := ⟨bA, 0, none⟩) ((grown_set _ bC z _).block _ (World.block_lt_of_cell? _ _ c.1) (fun e => hAC (Option.some.inj e)))).trans c.1, (World.cell?_of_block (a := ⟨bB, 0, none⟩) ((grown_set _ bC z _).block _ (World.block_lt_of_cell? _ _ c.2) (fun e => hBC (Option.some.inj e)))).trans c.2⟩
                                      have k1 := tr a k0
                                      have k2 := tr b k0
                                      have k3 := tr b k1
                                      have k4 := tr a k2
                                      have ra := r0.set a (.int .i64 0)
                                      have rb' := r0.set b (.int .i64 0)
                                      have fa := r0.frozen a
                                      have fb := r0.frozen b
                                      have ca := r0.cell haN
                                      have cb := r0.cell hbN
                                      have fab := ra.frozen b
                                      have fba := rb'.frozen a
                                      have hne1 := Hne.out
                                      have hne2 : b ≠ a := fun e => hne1 e.symm
                                      have cab : (w13.drew.setCell ⟨bC, a, none⟩ (.int .i64 0)).cell? ⟨bC, b, none⟩ = some (.int .i64 (-1)) := by
                                        have h := ra.cell hbN
                                        rw [if_neg hne2] at h
                                        exact h
                                      have cba : (w13.drew.setCell ⟨bC, b, none⟩ (.int .i64 0)).cell? ⟨bC, a, none⟩ = some (.int .i64 (-1)) := by
                                        have h := rb'.cell haN
                                        rw [if_neg hne1] at h
                                        exact h
                                      simp only [ri] at ca cb
                                      have cab2 : (w13.setCell ⟨bC, a, none⟩ (.int .i64 0)).cell? ⟨bC, b, none⟩ = some (.int .i64 (-1)) := cab
                                      have cba2 : (w13.setCell ⟨bC, b, none⟩ (.int .i64 0)).cell? ⟨bC, a, none⟩ = some (.int .i64 (-1)) := cba
                                      have fab2 : (w13.setCell ⟨bC, a, none⟩ (.int .i64 0)).frozen? ⟨bC, b, none⟩ = false := fab
                                      have fba2 : (w13.setCell ⟨bC, b, none⟩ (.int .i64 0)).frozen? ⟨bC, a, none⟩ = false := fba
                                      have ca2 : w13.cell? ⟨bC, a, none⟩ = some (.int .i64 (-1)) := ca
                                      have cb2 : w13.cell? ⟨bC, b, none⟩ = some (.int .i64 (-1)) := cb
                                      have fa2 : w13.frozen? ⟨bC, a, none⟩ = false := fa
                                      have fb2 : w13.frozen? ⟨bC, b, none⟩ = false := fb
                                      clear ca cb fa fb cab cba fab fba
                                      have lC := r0.lt
                                      have g0 : w13.grownBy w13.drew (some bC) := grown_of (Below.refl _ _).drew _
                                      have RAB := Lib.hid (show ((w13.drew.setCell ⟨bC, a, none⟩ (.int .i64 0)).setCell ⟨bC, b, none⟩ (.int .i64 0)).rowIs bC 3 N (ri (twoC a b)) ∧ w13.grownBy ((w13.drew.setCell ⟨bC, a, none⟩ (.int .i64 0)).setCell ⟨bC, b, none⟩ (.int .i64 0)) (some bC) from ⟨(ra.set b (.int .i64 0)).congr fun p _ => (by by_cases e1 : p = a <;> by_cases e2 : p = b <;> simp [ri, twoC, e1, e2]), (g0.andThen (grown_set _ bC a _) (fun j e => Or.inr e)).andThen (grown_set _ bC b _) (fun j e => Or.inr e)⟩)
                                      have RBA := Lib.hid (show ((w13.drew.setCell ⟨bC, b, none⟩ (.int .i64 0)).setCell ⟨bC, a, none⟩ (.int .i64 0)).rowIs bC 3 N (ri (twoC a b)) ∧ w13.grownBy ((w13.drew.setCell ⟨bC, b, none⟩ (.int .i64 0)).setCell ⟨bC, a, none⟩ (.int .i64 0)) (some bC) from ⟨(rb'.set a (.int .i64 0)).congr fun p _ => (by by_cases e1 : p = a <;> by_cases e2 : p = b <;> simp [ri, twoC, e1, e2]), (g0.andThen (grown_set _ bC b _) (fun j e => Or.inr e)).andThen (grown_set _ bC a _) (fun j e => Or.inr e)⟩)
                                      clear tr ra rb' g0
                                      go_region_held3 (fun w' => w'.cell? ⟨bA, 0, none⟩ = some (.int .i64 (a : Int)) ∧ w'.cell? ⟨bB, 0, none⟩ = some (.int .i64 (b : Int))) (first | exact k0 | exact k1 | exact k2 | exact k3 | exact k4) (fail)
                                      all_goals
                                        go_wp2_with fail
                                        go_meet
                                        first | exact RAB.out | exact RBA.out
                                    case rest =>
                                    obtain ⟨hr14, hg14⟩ := hcut
                                    obtain ⟨w14, rfl⟩ : ∃ w14 : World, w14 = wc := ⟨_, rfl⟩
                                    have hz13 : bC < w13.heap.size := HR13.out.lt
                                    have Hb14 := Lib.hid (Hb13.out.grown hg14 (by omega) (fun g e => by cases e; exact Nat.le_refl _))
                                    have hback := back_any (D := most) (C0 := twoC a b) HX.out.mem HX.out.sym HX.out.irr Hord.out hN (by omega) (fun v hv => by have := HL.out v hv; omega) (fun v _ => by unfold twoC; split <;> omega) B bC V a12 c12 w14 (fun wr hg => (HK5.out wr (Hb14.out.grown hg (by have := hg14.size; omega) (fun g e => by cases e; exact Nat.le_refl _))).2.2) (fun wr hg => (by
                                      have := own_keep (own_keep Ho13.out hg14 hzb) hg hzb
                                      rw [HO12.out]
                                      exact (IsInts.owned this : IsInts wr _ (ints O12)))) hr14 (by omega)
                                    rw [HO12.out] at hback
                                    have Hback := Lib.hid hback
                                    have hz14 : bC < w14.heap.size := hr14.lt
                                    clear hback hr14 hg14
                                    go_upto_region 48 with (go_at_call 29; refine Hback.out.mono ?_; rintro e w15 ⟨rfl, C, hbk, hrC, hg15⟩; have HrC := Lib.hid hrC; have Hcol := Lib.hid (show ColD N (adj l) (mostN l N) C by rw [Hm.out]; exact two_col HX.out haN hbN Hab.out (by omega) hbk (fun p hp h1 h2 => (Hs12b.out p hp).1 (by rw [two_op]; exact Hall12.out p hp h1 h2)) Hnot.out); have Hb15 := Lib.hid (Hb14.out.grown hg15 (by omega) (fun g e => by cases e; exact Nat.le_refl _)); have S15 := Lib.hid (HK5.out w15 Hb15.out).1; have F15 := Lib.hid (HK5.out w15 Hb15.out).2.1; clear hbk hrC hg15)
                                    obtain ⟨z0, z1, f0, f1, l0⟩ := row_facts S15.out.r
                                    obtain ⟨e0, e1, -, -, -⟩ := F15.out.facts
                                    go_region_held3 (fun w' => w'.cell? ⟨E, 0, none⟩ = some (.int .i64 0) ∧ w'.cell? ⟨E, 1, none⟩ = some (.int .i64 0)) (go_keep) (fail)
                                    all_goals
                                      go_wp2
                                      have d0 := (S15.out.r.set 0 (.int .i64 0)).cell (show 0 < 2 by omega)
                                      simp only [if_true] at d0
                                      have e := (S15.out.r.set 0 (.int .i64 0)).set 1 (.int .i64 0)
                                      have e0 := e.cell (show 0 < 2 by omega)
                                      have e1 := e.cell (show 1 < 2 by omega)
                                      simp only [if_true, show ¬ (1 : Nat) = 0 by omega, show ¬ (0 : Nat) = 1 by omega, if_false] at e0 e1
                                      exact bodyPost_ret (v := .tuple #[.slice (some ⟨bC, 0, none⟩) N N, .agg #[.int .i64 0, .int .i64 0]]) (by simp [results, Tryd.results13, go_sem, d0, e0, e1]) rfl (bro_end S15.out HrC.out (by omega) Hg.out Hnk.out Hcol.out)
                                · have q3 : ((m12 : Int) != (N : Int) - 2) = true := by simp; omega
                                  have hnh := Lib.hid (Hnx6.out fun h => h45 (Htwo.out.2 h.2))
                                  clear h45
                                  go_wp2
                                  go_quiet (fail)
                                  go_wp2
                                  go_roundg (i - (q + 1))
                                  case measure => go_light; omega
                                  case rel => exact ⟨q + 1, by omega, rfl, by go_num, Below.drewN' Hb12.out _, HR12.out.of_block rfl, cA, hnh.out⟩
                              · obtain rfl : i = q := by omega
                                go_wp2
                                go_roundg ((nbrs l N v).length - (i + 1))
                                case measure => go_light; omega
                                case rel => exact ⟨i + 1, by omega, rfl, by go_num, Hbq.out, HRq.out, Hnx5.out Hno6.out⟩
                          · obtain rfl : i = (nbrs l N v).length := by omega
                            go_wp2
                            go_roundg (N - (v + 1))
                            case measure => go_light; omega
                            case rel => exact ⟨v + 1, by omega, rfl, by go_num, Hbi.out, HRi.out, fun v' hv' i' hi' q hq => by
                              by_cases e : v' = v
                              · subst e; exact Hno5.out i' hi' q hq
                              · exact Hno.out v' (by omega) i' hi' q hq⟩
                      · exfalso
                        obtain ⟨v', hv', i, hi, q, hq, hh⟩ := Hex.out
                        exact Hno.out v' (by omega) i hi q hq hh
theorem brooks_any (n : Int) (l : List (Int × Int)) (s : Value) (w : World) (h : IsEdges w s l) : Calls Tryd.prog 13 #[.agg #[.int .i64 n, s]] w (BroPost n l w) := by
  obtain ⟨c, a, hsp⟩ := GraphSpec.ex n l
  by_cases hc : c = 0
  · subst hc
    obtain ⟨hg, -⟩ := hsp.good
    obtain ⟨N, rfl⟩ := Int.eq_ofNat_of_zero_le hg.lo
    exact brooks_good hg s w h
  · refine (brooks_bad hsp hc s w h).mono ?_
    rintro e w' ⟨rfl, hb⟩
    exact ⟨c, a, _, rfl, hb, .inl ⟨hc, hsp, rfl⟩⟩

end Go.Proofs.YtnhhohhhpaejmaaDoor
