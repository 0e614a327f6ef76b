/- arborref.Acyclic: in how many ways edges are arcs without a ring. -/
import Derived.Test.YtfflnpcbpcldeaaDoorLeads
import Derived.Test.YtfflnpcbpcldeaaDoorOri
import Derived.Test.YtfflnpcbpcldeaaDoorBase
namespace Go.Proofs.YtfflnpcbpcldeaaDoor
open Go Go.RowKit

set_option maxHeartbeats 1600000 in
set_option maxRecDepth 100000 in
theorem acyclic_any (l : List (Int × Int)) (N : Nat) (s : Value) (w : World) (h : IsEdges w s l) (hN : N ≤ 100) (hl : l.length ≤ 10) (hok : ∀ j, j < l.length → EndsOk (N : Int) (l.getD j (0, 0)))
    (ac : List (Int × Int) → Bool) (hac : ∀ a, ac a = true ↔ NoRing a) :
    Calls Tryd.prog 14 #[.agg #[.int .i64 (N : Int), s]] w fun e w' => e = .returned (.int .i64 (sumO l fun a => if ac a = true then 1 else 0)) ∧ Below w.heap.size w w' := by
  obtain ⟨ad, cap, rfl⟩ := h.form
  have hb1 := below1 w (Obj.cells #[.int .i64 (N : Int), .slice ad l.length cap] 24)
  have c0 := two_cells w (.int .i64 (N : Int)) (.slice ad l.length cap) 24
  have hlt1 : w.heap.size < (w.alloc (Obj.cells #[.int .i64 (N : Int), .slice ad l.length cap] 24)).heap.size := by rw [World.size_alloc]; omega
  have C1 := Lib.hid c0; have He := Lib.hid (h.below hb1); have Hb1 := Lib.hid hb1; have Hok := Lib.hid hok; have Hac := Lib.hid hac; have Hl1 := Lib.hid hlt1
  rw [← sumI_orient]
  clear c0 h hb1 hok hac hlt1
  obtain ⟨M, hM⟩ : ∃ M, M = 2 ^ l.length := ⟨_, rfl⟩
  have e0 := op_shl (show l.length < 62 by omega)
  rw [show pow2 l.length = M from hM.symm] at e0
  have hP : M ≤ 1024 := by rw [hM]; exact Nat.pow_le_pow_right (by decide) hl
  rw [← hM]
  clear hM
  go_enter Tryd.func14, Tryd.ntmps14
  go_wp2
  generalize w.alloc (Obj.cells #[.int .i64 (N : Int), .slice ad l.length cap] 24) = w1 at *
  go_loopg [3, 4] M (fun g s3 s4 wr => ∃ (s : Nat) (n : Int), s ≤ M ∧ g = M - s ∧ s4 = .int .i64 (s : Int) ∧ s3 = .int .i64 n ∧ n = sumI (fun s => if ac (orient l s) = true then 1 else 0) s ∧ 0 ≤ n ∧ n ≤ s ∧ Below w1.heap.size w1 wr)
  case atStart => exact ⟨0, 0, Nat.zero_le _, rfl, rfl, rfl, rfl, by omega, by omega, Below.refl _ _⟩
  case round =>
    obtain ⟨s, n, hs, rfl, rfl, rfl, hn, hn0, hns, hb⟩ := hrel
    have cs := below_cell (a := ⟨w.heap.size, 1, none⟩) hb C1.out.2
    have Hb := Lib.hid hb; have Hn := Lib.hid hn
    clear hb hn
    by_cases hsM : s < M
    · obtain ⟨w2, rfl⟩ : ∃ w2 : World, w2 = wr := ⟨_, rfl⟩
      have hfew : Few s := by show s < 4611686018427387904; omega
      go_wp2
      clear e0 cs
      go_loopg [5, 6] l.length (fun g s5 s6 wx => ∃ i : Nat, i ≤ l.length ∧ g = l.length - i ∧ s6 = .int .i64 (i : Int) ∧ OwnE wx w2.heap.size s5 ((orient l s).take i) ∧ Below w2.heap.size w2 wx)
      case atStart => exact ⟨0, Nat.zero_le _, rfl, rfl, OwnE.nil _ _, Below.refl _ _⟩
      case round =>
        obtain ⟨i, hi, rfl, rfl, ho, hb3⟩ := hrel
        have hb4 := Hb.out.trans (hb3.mono Hb.out.size)
        have cs := below_cell (a := ⟨w.heap.size, 1, none⟩) hb4 C1.out.2
        have hlen : ((orient l s).take i).length = i := by rw [List.length_take, orient_length]; omega
        obtain ⟨va, vc, rfl⟩ := ho.form
        rw [hlen] at ho ⊢
        have Ho := Lib.hid ho; have Hb4 := Lib.hid hb4; have Hb3 := Lib.hid hb3
        by_cases hil : i < l.length
        · obtain ⟨a9, c9, b9, o9, e9, hcap9, hmax9, hadr9, -, hcell9⟩ := He.out
          simp only [Value.slice.injEq, true_and] at e9
          obtain ⟨rfl, rfl⟩ := e9
          obtain rfl := hadr9 (by omega)
          obtain ⟨x, y, He9, cx, cy⟩ := edges_at hcell9 hb4 hil
          have e3 := op_shr s i
          have Hstep := Lib.hid (orient_succ (s := s) hil)
          have hszB := hb3.size
          clear ho hb4 hb3 hcell9 hadr9
          have HlenC := Lib.hid hlen
          clear hlen
          generalize (orient l s).take i = Lc at *
          cases hbit : s.testBit i with
          | false =>
            rw [hbit] at Hstep
            have e4 : bits .and .i64 (shr s i : Int) 1 = 0 := by rw [op_bit hfew, bit_zero hbit]; rfl
            clear hbit
            go_upto_region 12 with fail
            have ce := two_cells wr (.int .i64 x) (.int .i64 y) 52
            have ce0 := ce.1
            have ce1 := ce.2
            have hb5 := below1 wr (Obj.cells #[.int .i64 x, .int .i64 y] 52)
            have lE := hszB
            generalize hE : wr.heap.size = E at *
            generalize wr.alloc (Obj.cells #[.int .i64 x, .int .i64 y] 52) = w5 at *
            rw [← hE] at hb5
            have hb6 := hb5.trans ((below1 w5 (Obj.cells #[.int .i64 x, .int .i64 y] 52)).mono hb5.size)
            have HoB := Lib.hid (Ho.out.below hb6)
            have HbB := Lib.hid (Hb3.out.trans (hb6.mono Hb3.out.size))
            have hszB := HbB.out.size
            clear ce hb5 hb6 hE cx cy cs e3 e4
            go_wp2_with (at_builtin; refine wpList_append_edges rfl (.tmp 41) (.tmp 43) 22 rfl w2.heap.size Tryd.underlying22 info2 _ Lc rfl HoB.out _ [(x, y)] rfl (edge_one _ _ _ _ rfl) _ rfl (by have h7 := HlenC.out; simp; omega) hszB ?_; intro a5 c5 w6 ho5 hg5; have Hn6 := Lib.hid ho5; have Hbn := Lib.hid (HbB.out.grown hg5 (by simpa using hszB) (fun g e => (World.ownsRow.lt HoB.out g e).1)); clear hg5 ho5)
            go_roundg (l.length - (i + 1))
            case measure => go_light; omega
            case rel => exact ⟨i + 1, by omega, rfl, by go_num, by
              have h9 := Hn6.out
              rw [Hstep.out, He9.out]
              simpa only [List.length_append, List.length_cons, List.length_nil, Nat.zero_add, Bool.false_eq_true, if_false, if_true] using h9, Hbn.out⟩
          | true =>
            rw [hbit] at Hstep
            have e4 : bits .and .i64 (shr s i : Int) 1 = 1 := by rw [op_bit hfew, bit_one hbit]; rfl
            clear hbit
            go_upto_region 12 with fail
            have ce := two_cells wr (.int .i64 y) (.int .i64 x) 52
            have ce0 := ce.1
            have ce1 := ce.2
            have hb5 := below1 wr (Obj.cells #[.int .i64 y, .int .i64 x] 52)
            have lE := hszB
            generalize hE : wr.heap.size = E at *
            generalize wr.alloc (Obj.cells #[.int .i64 y, .int .i64 x] 52) = w5 at *
            rw [← hE] at hb5
            have hb6 := hb5.trans ((below1 w5 (Obj.cells #[.int .i64 y, .int .i64 x] 52)).mono hb5.size)
            have HoB := Lib.hid (Ho.out.below hb6)
            have HbB := Lib.hid (Hb3.out.trans (hb6.mono Hb3.out.size))
            have hszB := HbB.out.size
            clear ce hb5 hb6 hE cx cy cs e3 e4
            go_wp2_with (at_builtin; refine wpList_append_edges rfl (.tmp 41) (.tmp 43) 22 rfl w2.heap.size Tryd.underlying22 info2 _ Lc rfl HoB.out _ [(y, x)] rfl (edge_one _ _ _ _ rfl) _ rfl (by have h7 := HlenC.out; simp; omega) hszB ?_; intro a5 c5 w6 ho5 hg5; have Hn6 := Lib.hid ho5; have Hbn := Lib.hid (HbB.out.grown hg5 (by simpa using hszB) (fun g e => (World.ownsRow.lt HoB.out g e).1)); clear hg5 ho5)
            go_roundg (l.length - (i + 1))
            case measure => go_light; omega
            case rel => exact ⟨i + 1, by omega, rfl, by go_num, by
              have h9 := Hn6.out
              rw [Hstep.out, He9.out]
              simpa only [List.length_append, List.length_cons, List.length_nil, Nat.zero_add, Bool.false_eq_true, if_false, if_true] using h9, Hbn.out⟩
        · obtain rfl : i = l.length := by omega
          have hed := ho.edges
          rw [show (orient l s).take l.length = orient l s by rw [← orient_length l s, List.take_length]] at hed
          have HedE := Lib.hid hed
          have hor := orient_length l s
          have cn := below_cell (a := ⟨w.heap.size, 0, none⟩) hb4 C1.out.1
          have Hoke := Lib.hid (fun j (hj : j < (orient l s).length) => show EndsOk (N : Int) ((orient l s).getD j (0, 0)) from by
            rw [hor] at hj
            have h9 := Hok.out j hj
            rw [orient_at l s hj]
            split
            · exact ⟨h9.2.1, h9.1, h9.2.2.2, h9.2.2.1⟩
            · exact h9)
          obtain ⟨L, hL⟩ : ∃ L, L = orient l s := ⟨_, rfl⟩
          rw [← hL] at HedE Hoke hor
          have HL := Lib.hid hL
          rw [← hor] at HedE cs ⊢
          have Hor := Lib.hid hor
          clear ho hb3 hb4 hed hL hlen Ho hor
          go_wp2_with fail
          refine (leads_any L N _ wr HedE.out hN Hoke.out).mono ?_
          rintro e w5 ⟨gv, G, rfl, hg5, hG, hb5⟩
          have HG := Lib.hid hG
          have Hg5 := Lib.hid hg5
          have Hed5 := Lib.hid (HedE.out.below hb5)
          have Hb5 := Lib.hid (Hb4.out.trans (hb5.mono Hb4.out.size))
          obtain ⟨ga, gc, rfl⟩ : ∃ a c, gv = .slice a N c := by
            obtain ⟨B, a, c, b, o, R, rfl, _⟩ := hg5
            exact ⟨a, c, rfl⟩
          clear hg5 hG hb5 cs cn
          go_wp2
          go_loopg [9, 10] L.length (fun g s9 s10 wx => ∃ (i : Nat) (ok : Bool), i ≤ L.length ∧ g = L.length - i ∧ s10 = .int .i64 (i : Int) ∧ s9 = .bool ok ∧ (ok = true ↔ ∀ q, q < i → ¬ WayA L (L.getD q (0, 0)).2 (L.getD q (0, 0)).1) ∧ Below w5.heap.size w5 wx)
          case atStart => exact ⟨0, true, Nat.zero_le _, rfl, rfl, rfl, ⟨fun _ q hq => absurd hq (Nat.not_lt_zero _), fun _ => rfl⟩, Below.refl _ _⟩
          case round =>
            obtain ⟨i, ok, hi, rfl, rfl, rfl, hok2, hb6⟩ := hrel
            have Hok2 := Lib.hid hok2; have Hb6 := Lib.hid hb6
            clear hok2
            by_cases hil : i < L.length
            · obtain ⟨a9, c9, b9, o9, e9, hcap9, hmax9, hadr9, -, hcell9⟩ := Hed5.out
              simp only [Value.slice.injEq, true_and] at e9
              obtain ⟨rfl, rfl⟩ := e9
              obtain rfl := hadr9 (by omega)
              obtain ⟨x, y, He9, cx, cy⟩ := edges_at hcell9 hb6 hil
              have hk1 := Hoke.out i hil
              rw [He9.out] at hk1
              obtain ⟨x0, y0, x1, y1⟩ := hk1
              simp only at x0 y0 x1 y1
              obtain ⟨X, rfl⟩ := Int.eq_ofNat_of_zero_le x0
              obtain ⟨Y, rfl⟩ := Int.eq_ofNat_of_zero_le y0
              have hX : X < N := by omega
              have hY : Y < N := by omega
              obtain ⟨gb, go, gc', gr, ge, k1, k2⟩ := (Hg5.out.below hb6).entry hY hX
              simp only [Value.slice.injEq, true_and] at ge
              obtain ⟨rfl, rfl⟩ := ge
              have hstep : ((ok && !G Y X) = true ↔ ∀ q, q < i + 1 → ¬ WayA L (L.getD q (0, 0)).2 (L.getD q (0, 0)).1) := by
                rw [Bool.and_eq_true, Hok2.out]
                constructor
                · rintro ⟨h1, h2⟩ q hq
                  by_cases e : q = i
                  · subst e
                    rw [He9.out]
                    intro hw
                    rw [(HG.out Y hY X hX).2 hw] at h2; cases h2
                  · exact h1 q (by omega)
                · intro h1
                  refine ⟨fun q hq => h1 q (by omega), ?_⟩
                  have := h1 i (by omega)
                  rw [He9.out] at this
                  cases e : G Y X with
                  | false => rfl
                  | true => exact absurd ((HG.out Y hY X hX).1 e) this
              have Hstep := Lib.hid hstep
              clear hb6 hcell9 hadr9 x0 y0 x1 y1 hstep
              generalize G Y X = gv at *
              cases ok with
              | false =>
                clear k1 k2 cx cy
                go_upto_region 18 with fail
                go_quiet (fail)
                have hq := Below.drewN' (Below.refl wr.heap.size wr) nq
                have Hb7 := Lib.hid (Hb6.out.trans (hq.mono Hb6.out.size))
                clear hq
                generalize wr.drewN nq = wB at *
                go_wp2
                go_roundg (L.length - (i + 1))
                case measure => go_light; omega
                case rel => exact ⟨i + 1, _, by omega, rfl, by go_num, rfl, Hstep.out, Hb7.out⟩
              | true =>
                go_upto_region 18 with fail
                go_quiet (fail)
                have hq := Below.drewN' (Below.refl wr.heap.size wr) nq
                have Hb7 := Lib.hid (Hb6.out.trans (hq.mono Hb6.out.size))
                clear hq k1 k2 cx cy
                generalize wr.drewN nq = wB at *
                go_wp2
                go_roundg (L.length - (i + 1))
                case measure => go_light; omega
                case rel => exact ⟨i + 1, _, by omega, rfl, by go_num, rfl, Hstep.out, Hb7.out⟩
            · obtain rfl : i = L.length := by omega
              have Hb7 := Lib.hid (Hb5.out.trans (hb6.mono Hb5.out.size))
              have hall : (ok = true ↔ ac L = true) := by
                rw [Hok2.out, Hac.out]
                constructor
                · intro h p hp
                  obtain ⟨j, hj, rfl⟩ := List.getElem_of_mem hp
                  have := h j hj
                  rw [show L.getD j (0, 0) = L[j] by simp [List.getD, hj]] at this
                  exact this
                · intro h q hq
                  have := h L[q] (List.getElem_mem hq)
                  rw [show L.getD q (0, 0) = L[q] by simp [List.getD, hq]]
                  exact this
              have Hall := Lib.hid hall
              clear hb6 hall
              cases ok with
              | false =>
                go_wp2
                rw [Hor.out]
                go_roundg (M - (s + 1))
                case measure => go_light; omega
                case rel => exact ⟨s + 1, n, by omega, rfl, by go_num, rfl, by
                  show n = sumI _ s + (if ac (orient l s) = true then 1 else 0)
                  rw [← HL.out, if_neg (fun h => by have := Hall.out.2 h; cases this), ← Hn.out]; omega, hn0, by omega, Hb7.out⟩
              | true =>
                go_wp2
                rw [Hor.out]
                go_roundg (M - (s + 1))
                case measure => go_light; omega
                case rel => exact ⟨s + 1, n + 1, by omega, rfl, by go_num, by go_num, by
                  show n + 1 = sumI _ s + (if ac (orient l s) = true then 1 else 0)
                  rw [← HL.out, if_pos (Hall.out.1 (by first | exact rfl | trivial)), ← Hn.out], by omega, by omega, Hb7.out⟩
    · obtain rfl : s = M := by omega
      go_wp2
      go_ret
      exact ⟨by rw [Hn.out]; rfl, Hb1.out.trans (Hb.out.mono Hb1.out.size)⟩

end Go.Proofs.YtfflnpcbpcldeaaDoor
