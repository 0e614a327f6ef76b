/- flow.Beside: the walk. -/
import Derived.Test.YtfflnpcbpcldeaaBesM
import Derived.Test.YtfflnpcbpcldeaaTable
import Derived.Test.YtfflnpcbpcldeaaNears
import Derived.BigRegion
import Derived.BigQuiet
namespace Go.Proofs.Ytfflnpcbpcldeaa
open Go.RowKit

theorem netX_one (m : List (Int × Int × Int)) (a : Int × Int × Int) : netX (m ++ [a]) = addX (netX m) a.1.toNat a.2.1.toNat a.2.2.toNat := by
  unfold netX
  rw [List.foldl_append]
  rfl

set_option maxHeartbeats 6400000 in
set_option maxRecDepth 100000 in
theorem beside_any (n s t : Int) (l : List (Int × Int)) (sv : Value) (w : World) (h : IsEdges w sv l) :
    Calls Try.prog 52 #[.agg #[.int .i64 n, sv], .int .i64 s, .int .i64 t] w (BesPost n l s t w) := by
  obtain ⟨ad, cap, rfl⟩ : ∃ ad cap, sv = .slice ad l.length cap := by
    obtain ⟨a, c, _, _, rfl, _⟩ := h
    exact ⟨a, c, rfl⟩
  have hg := (GRes.start w n (.slice ad l.length cap)).zero
  have He := Lib.hid h; have Hg := Lib.hid hg
  obtain ⟨cn, cs, b0, b1, d0, d1, hBl, hAB⟩ := hg.facts
  clear h hg
  go_enter Try.func52, Try.ntmps52
  go_upto_region 1 with fail
  generalize (w.alloc (Obj.cells #[.int .i64 n, .slice ad l.length cap] 24)).alloc (Obj.cells #[Value.int IntKind.i64 0, Value.int IntKind.i64 0] 27) = w1 at *
  go_upto_region 2 with (go_at_call 90; refine (lookF_any n s t l _ w1 (He.out.below Hg.out.hb)).mono ?_; rintro e w2 ⟨c, a, hsp, rfl, hb2⟩; have Hsp := Lib.hid hsp; have H3 := Lib.hid (Hg.out.below (upt hb2 (below1 w2 (Obj.cells #[.int .i64 c, .int .i64 a] 27)))); have F3 := Lib.hid (FV.new w2 c a); clear hsp hb2)
  generalize w2.alloc (Obj.cells #[.int .i64 c, .int .i64 a] 27) = w3 at *
  generalize w2.heap.size = F at *
  clear cn cs b0 b1 d0 d1 hBl hAB Hg
  obtain ⟨cn, cs, b0, b1, d0, d1, hBl, hAB⟩ := H3.out.facts
  obtain ⟨f0, f1, -, -, -⟩ := F3.out.facts
  by_cases hc : c = 0
  · subst hc
    obtain ⟨rfl, hn0, hn1, hl, hok2, hs0, hsn, ht0, htn, hne⟩ := look_good Hsp.out
    obtain ⟨N, rfl⟩ := Int.eq_ofNat_of_zero_le hn0
    obtain ⟨s, rfl⟩ := Int.eq_ofNat_of_zero_le hs0
    obtain ⟨t, rfl⟩ := Int.eq_ofNat_of_zero_le ht0
    have hN : N ≤ 100 := by omega
    have hsN : s < N := by omega
    have htN : t < N := by omega
    have Hst := Lib.hid (show s ≠ t by omega)
    have Hok2 := Lib.hid hok2
    have Hok := Lib.hid (fun j hj => (hok2 j hj).1)
    clear hok2 hn0 hn1 hs0 hsn ht0 htn hne
    go_upto_region 4 with fail
    clear f0 f1 F3
    have he3 := He.out.below H3.out.hb
    have Hpre := Lib.hid (fun (w4 : World) (hb4 : Below w3.heap.size w3 w4) => H3.out.below hb4)
    go_upto_if 44 with (go_at_call 57; refine (table_any l N _ w3 he3 hN Hok2.out).mono ?_; rintro e w4 ⟨v4, rfl, hg4, hb4⟩; obtain ⟨gb, go, gc, gr, rfl, ge1, ge2⟩ := HasGrid.entry ⟨_, hg4⟩ hsN htN; have Hb4 := Lib.hid hb4; have H4 := Lib.hid (H3.out.below hb4); clear hg4 hb4)
    clear ge1 ge2 cn cs b0 b1 d0 d1 hBl hAB he3 Hpre
    obtain ⟨cn, cs, b0, b1, d0, d1, hBl, hAB⟩ := H4.out.facts
    cases hadj : adj l s t with
    | true =>
      have Hadj := Lib.hid hadj
      clear hadj
      go_wp2_with (go_at_call 69; refine (ffault_any _ _ _).mono ?_; rintro e wf ⟨rfl, rfl⟩)
      obtain ⟨e0, e1, e2⟩ := H4.out.resA 8 0 (Obj.cells #[Value.int .i64 8, .int .i64 0] 27)
      exact bodyPost_ret (v := .tuple #[.slice none 0 0, .slice none 0 0, .agg #[.int .i64 8, .int .i64 0]]) (by simp [results, Try.results52, go_sem, e0, e1]) rfl ⟨8, 0, _, _, rfl, Or.inr ⟨Hsp.out, Or.inl ⟨Hadj.out, rfl, rfl⟩⟩, e2, Or.inl ⟨by omega, rfl, rfl⟩⟩
    | false =>
      have Hadj := Lib.hid hadj
      have He4 := Lib.hid (He.out.below H4.out.hb)
      obtain ⟨NN, hNN⟩ : ∃ NN, NN = 2 * N := ⟨_, rfl⟩
      have hw0 : IntKind.i64.wrap (2 * (N : Int)) = (NN : Int) := by rw [hNN]; exact wrap_nat (n := 2 * N) (by omega)
      have HNN := Lib.hid hNN
      have hNa : NN ≤ 2 * N := by omega
      have hNb : 2 * N ≤ NN := by omega
      clear hNN
      have hmk := run_make_row' (P := Try.prog) 40 51 (.slice none 0 0) 24 Try.underlying40 infoS rfl .i64 .i64 NN (by omega) (by omega)
      have HP0 := Lib.hid (PB.begin2 w4 NN)
      have HB0 := Lib.hid (below2 w4 (.cells (madeCells #[Value.slice none 0 0] NN) 51) (Obj.cells #[.slice none 0 0, .slice none 0 0, .slice (some ⟨w4.heap.size, 0, none⟩) NN NN] 101))
      clear hadj b0 b1 d0 d1 hBl hAB cs
      have lcn := World.block_lt_of_cell? _ _ cn
      simp only at lcn
      go_upto_region 7 with fail
      clear hmk cn lcn
      generalize (w4.alloc (.cells (madeCells #[Value.slice none 0 0] NN) 51)).alloc (Obj.cells #[.slice none 0 0, .slice none 0 0, .slice (some ⟨w4.heap.size, 0, none⟩) NN NN] 101) = w5 at *
      have hb5 : w4.heap.size + 2 ≤ w5.heap.size := HP0.out.sz
      have cn := (H4.out.below HB0.out).cn
      go_wp2
      clear cn
      go_loopg [54] N (fun g s54 wr => ∃ (v : Nat) (V : Nat → Value), v ≤ N ∧ g = N - v ∧ s54 = .int .i64 (v : Int) ∧ PB wr (w4.heap.size + 2) (w4.heap.size + 1) w4.heap.size NN V (netX (nodeN N s t v)) ∧ Below w4.heap.size w4 wr)
      case atStart => exact ⟨0, _, Nat.zero_le _, rfl, rfl, HP0.out, HB0.out⟩
      case round =>
        obtain ⟨v, V, hv, rfl, rfl, hp, hb⟩ := hrel
        have Hp := Lib.hid hp; have Hb := Lib.hid hb
        have cn := (H4.out.below hb).cn
        by_cases hlt : v < N
        · have hw1 : IntKind.i64.wrap ((N : Int) + (v : Int)) = ((N + v : Nat) : Int) := wrap_nat (n := N + v) (by omega)
          have Hlen2 := Lib.hid (fun r (_ : r < NN + 2) => by
            have := netX_length (nodeN N s t v) r
            rw [nodeN_length] at this
            show (netX (nodeN N s t v) r).length ≤ 9000
            omega)
          have Hnode := Lib.hid (show nodeN N s t (v + 1) = nodeN N s t v ++ [((v : Int), ((N + v : Nat) : Int), if v = s ∨ v = t then (N : Int) else 1)] from rfl)
          clear hp hb
          by_cases hvs : v = s
          · have q1 : ((v : Int) == (s : Int)) = true := by simp; omega
            have Hc := Lib.hid (show (if v = s ∨ v = t then (N : Int) else 1) = N from if_pos (Or.inl hvs))
            clear hvs
            go_wp2_with (go_at_call 91; refine (fadd_any (w4.heap.size + 2) (w4.heap.size + 1) w4.heap.size NN v (N + v) N V _ wr (by omega) (by omega) (by omega) (fun r hr => by have := Hlen2.out r hr; omega) Hp.out).mono ?_; rintro e w6 ⟨rfl, hk6⟩; have hb6 := hk6.below Hp.out (B := w4.heap.size) Hb.out.size (by omega) (by omega); obtain ⟨V6, hp6, -, -⟩ := hk6; have Hp6 := Lib.hid hp6; have Hb6 := Lib.hid (Hb.out.trans hb6); clear hp6 hb6)
            go_roundg (N - (v + 1))
            case measure => go_light; omega
            case rel => exact ⟨v + 1, V6, by omega, rfl, by go_num, by rw [Hnode.out, netX_one, Hc.out]; exact Hp6.out, Hb6.out⟩
          · have q1 : ((v : Int) == (s : Int)) = false := by simp; omega
            by_cases hvt : v = t
            · have q2 : ((v : Int) == (t : Int)) = true := by simp; omega
              have Hc := Lib.hid (show (if v = s ∨ v = t then (N : Int) else 1) = N from if_pos (Or.inr hvt))
              clear hvs hvt
              go_wp2_with (go_at_call 91; refine (fadd_any (w4.heap.size + 2) (w4.heap.size + 1) w4.heap.size NN v (N + v) N V _ wr (by omega) (by omega) (by omega) (fun r hr => by have := Hlen2.out r hr; omega) Hp.out).mono ?_; rintro e w6 ⟨rfl, hk6⟩; have hb6 := hk6.below Hp.out (B := w4.heap.size) Hb.out.size (by omega) (by omega); obtain ⟨V6, hp6, -, -⟩ := hk6; have Hp6 := Lib.hid hp6; have Hb6 := Lib.hid (Hb.out.trans hb6); clear hp6 hb6)
              go_roundg (N - (v + 1))
              case measure => go_light; omega
              case rel => exact ⟨v + 1, V6, by omega, rfl, by go_num, by rw [Hnode.out, netX_one, Hc.out]; exact Hp6.out, Hb6.out⟩
            · have q2 : ((v : Int) == (t : Int)) = false := by simp; omega
              have Hc := Lib.hid (show (if v = s ∨ v = t then (N : Int) else 1) = 1 from if_neg (by omega))
              clear hvs hvt
              go_wp2_with (go_at_call 91; refine (fadd_any (w4.heap.size + 2) (w4.heap.size + 1) w4.heap.size NN v (N + v) 1 V _ wr (by omega) (by omega) (by omega) (fun r hr => by have := Hlen2.out r hr; omega) Hp.out).mono ?_; rintro e w6 ⟨rfl, hk6⟩; have hb6 := hk6.below Hp.out (B := w4.heap.size) Hb.out.size (by omega) (by omega); obtain ⟨V6, hp6, -, -⟩ := hk6; have Hp6 := Lib.hid hp6; have Hb6 := Lib.hid (Hb.out.trans hb6); clear hp6 hb6)
              go_roundg (N - (v + 1))
              case measure => go_light; omega
              case rel => exact ⟨v + 1, V6, by omega, rfl, by go_num, by rw [Hnode.out, netX_one, Hc.out]; exact Hp6.out, Hb6.out⟩
        · obtain rfl : N = v := by omega
          have cs := (H4.out.below hb).cs
          clear hp hb
          obtain ⟨w6, rfl⟩ : ∃ w6 : World, w6 = wr := ⟨_, rfl⟩
          obtain ⟨adx, capx, bb, o, hev, hcap, hmax, hadr, -, hcell⟩ := He.out
          obtain ⟨rfl, -, rfl⟩ : ad = adx ∧ l.length = l.length ∧ cap = capx := by simpa using hev
          clear hev
          have HE := Lib.hid hcell
          clear hcell
          go_wp2
          clear cn cs
          go_loopg [79] l.length (fun g s79 wr => ∃ (k : Nat) (V : Nat → Value), k ≤ l.length ∧ g = l.length - k ∧ s79 = .int .i64 (k : Int) ∧ PB wr (w4.heap.size + 2) (w4.heap.size + 1) w4.heap.size NN V (netX (besN N s t l k)) ∧ Below w4.heap.size w4 wr)
          case atStart => exact ⟨0, V, Nat.zero_le _, rfl, rfl, Hp.out, Hb.out⟩
          case round =>
            obtain ⟨k, V, hk, rfl, rfl, hp, hb⟩ := hrel
            have Hp := Lib.hid hp; have Hb := Lib.hid hb
            have hbw := H4.out.hb.trans (hb.mono H4.out.hb.size)
            by_cases hkl : k < l.length
            · obtain rfl := hadr (by omega)
              obtain ⟨x, y, Hxy, cx, cy⟩ := edges_at HE.out hbw hkl
              obtain ⟨o1, o2, o3, o4⟩ := (show EndsOk N (x, y) from Hxy.out ▸ Hok.out k hkl)
              simp only at o1 o2 o3 o4
              obtain ⟨u, rfl⟩ : ∃ u : Nat, x = u := ⟨x.toNat, by omega⟩
              obtain ⟨v, rfl⟩ : ∃ v : Nat, y = v := ⟨y.toNat, by omega⟩
              have Hlen2 := Lib.hid (fun r (_ : r < NN + 2) => by
                have := netX_length (besN N s t l k) r
                rw [besN_length] at this
                show (netX (besN N s t l k) r).length ≤ 9000
                omega)
              have hsE : w4.heap.size + 2 ≤ wr.heap.size := hp.sz
              have hE : ∀ q r, r < NN + 2 → (V r).ownBlock = some q → q < wr.heap.size := fun q r hr e => ((Hp.out.owns hr).lt q e).2
              have HEq := Lib.hid hE
              have cn := (H4.out.below hb).cn
              have lcn := World.block_lt_of_cell? _ _ (H4.out.cn)
              simp only at lcn
              have hw1 : IntKind.i64.wrap ((N : Int) + (u : Int)) = ((N + u : Nat) : Int) := wrap_nat (n := N + u) (by omega)
              have hw2 : IntKind.i64.wrap ((N : Int) + (v : Int)) = ((N + v : Nat) : Int) := wrap_nat (n := N + v) (by omega)
              clear hp hb hE hbw
              go_upto_region 18 with fail
              have HpA := Lib.hid (Hp.out.alloc (Obj.cells #[.int .i64 (u : Int), .int .i64 (v : Int)] 86))
              have HbA := Lib.hid (Hb.out.alloc Hb.out.size (Obj.cells #[.int .i64 (u : Int), .int .i64 (v : Int)] 86))
              obtain ⟨ce0, ce1⟩ := two_cells wr (.int .i64 (u : Int)) (.int .i64 (v : Int)) 86
              clear cx cy cn
              generalize wr.alloc (Obj.cells #[.int .i64 (u : Int), .int .i64 (v : Int)] 86) = wA at *
              generalize wr.heap.size = E at *
              have cn := (H4.out.below HbA.out).cn
              go_upto_region 19 with (go_at_call 91; refine (fadd_any (w4.heap.size + 2) (w4.heap.size + 1) w4.heap.size NN (N + u) v N V _ wA (by omega) (by omega) (by omega) (fun r hr => by have := Hlen2.out r hr; omega) HpA.out).mono ?_; rintro e w7 ⟨rfl, hk7⟩; have hb7 := hk7.below HpA.out (B := w4.heap.size) HbA.out.size (by omega) (by omega); obtain ⟨V7, hp7, -, hc7⟩ := hk7; have Hp7 := Lib.hid hp7; have Hb7 := Lib.hid (HbA.out.trans hb7); have Hc7 := Lib.hid hc7; clear hp7 hb7 hc7)
              have hPTE : ¬ VTurns (w4.heap.size + 1) w4.heap.size NN V E := fun hs => by
                rcases hs with e | e | ⟨r, hr, e⟩
                · omega
                · omega
                · have := HEq.out E r hr e; omega
              have ce0 := Hc7.out.cell ce0 hPTE
              have ce1 := Hc7.out.cell ce1 hPTE
              have cn := (H4.out.below Hb7.out).cn
              clear hPTE Hc7 HEq HpA HbA
              go_wp2_with (go_at_call 91; refine (fadd_any (w4.heap.size + 2) (w4.heap.size + 1) w4.heap.size NN (N + v) u N V7 _ w7 (by omega) (by omega) (by omega) (fun r hr => by have := Hlen2.out r hr; have := addX_length (netX (besN N s t l k)) (N + u) v N r; omega) Hp7.out).mono ?_; rintro e w8 ⟨rfl, hk8⟩; have hb8 := hk8.below Hp7.out (B := w4.heap.size) Hb7.out.size (by omega) (by omega); obtain ⟨V8, hp8, -, -⟩ := hk8; have Hp8 := Lib.hid hp8; have Hb8 := Lib.hid (Hb7.out.trans hb8); clear hp8 hb8)
              go_roundg (l.length - (k + 1))
              case measure => go_light; omega
              case rel => exact ⟨k + 1, V8, by omega, rfl, by go_num, by
                have := Hp8.out
                rw [besN, netX_two, Hxy.out]
                simpa only [show ((N : Int) + (u : Int)).toNat = N + u by omega, show ((N : Int) + (v : Int)).toNat = N + v by omega, Int.toNat_natCast] using this, Hb8.out⟩
            · obtain rfl : l.length = k := by omega
              clear hp hb hbw
              obtain ⟨w9, rfl⟩ : ∃ w9 : World, w9 = wr := ⟨_, rfl⟩
              have harc : ∀ j, j < (besL N s t l).length → ArcOk ((NN : Nat) : Int) ((besL N s t l).getD j (0, 0, 0)) := by rw [HNN.out]; exact bes_ok hN Hok.out
              have hlenm := besN_length N s t l l.length
              have hNO := netOk (l := besL N s t l) (N := NN) (by omega) (by show (besN N s t l l.length).length ≤ 5000; omega) harc
              have Harc := Lib.hid harc; have HNO := Lib.hid hNO
              obtain ⟨m, hm⟩ : ∃ m, m = (besL N s t l).length := ⟨_, rfl⟩
              have Hm := Lib.hid hm
              have hmN : N ≤ m := by rw [hm]; show N ≤ (besN N s t l l.length).length; omega
              have hm2 : m ≤ 2100 := by rw [hm]; show (besN N s t l l.length).length ≤ 2100; omega
              have hw1 : IntKind.i64.wrap ((N : Int) + (s : Int)) = ((N + s : Nat) : Int) := wrap_nat (n := N + s) (by omega)
              have cn := (H4.out.below Hb.out).cn
              clear harc hNO hlenm hm
              go_upto_region 22 with (go_at_call 72; refine (fmost_any (w4.heap.size + 2) (w4.heap.size + 1) w4.heap.size NN (2 * (besL N s t l).length) (N + s) t V (netX (besL N s t l)) w9 (by omega) (by omega) (by omega) HNO.out (net_few Harc.out) Hp.out).mono ?_; rintro e w10 ⟨sum, X, lev, rfl, hp10, hsent, hlev, hlvt, hch⟩; have hb10 := hch.toBelow (B := w4.heap.size) Hb.out.size (fun k hk hS => by have h1 := Hp.out.ge (show 1 < NN + 2 by omega) hS; omega); have Hp10 := Lib.hid hp10; have Hb10 := Lib.hid (Hb.out.trans hb10); have Hsent := Lib.hid hsent; have Hlev := Lib.hid hlev; have Hlvt := Lib.hid hlvt; clear hp10 hsent hlev hlvt hch hb10)
              have hX0l : (X 0).length = 2 * m := by rw [Hm.out]; exact Hsent.out.ok.toL
              have hX1l : (X 1).length = 2 * m := by rw [Hm.out]; exact Hsent.out.ok.leftL
              obtain ⟨g0, k0, e0, -⟩ := Hp10.out.look (show 0 < NN + 2 by omega) (by rw [hX0l]; omega)
              have p0 := Hp10.out.rP.cell (show 0 < 3 by omega)
              simp only [if_true] at p0
              rw [e0, hX0l] at p0
              have lP := Hp10.out.rP.lt
              obtain ⟨M2, hM2⟩ : ∃ M2, M2 = 2 * m := ⟨_, rfl⟩
              have hMa : M2 ≤ 2 * m := by omega
              have hMb : 2 * m ≤ M2 := by omega
              rw [← hM2] at p0
              have hdiv : ((M2 : Nat) : Int) / 2 = (m : Int) := by omega
              have hmk := run_make_row' (P := Try.prog) 51 3 (.int .i64 0) 8 Try.underlying51 info3 rfl .i64 .i64 m (by omega) (by omega)
              clear e0 hM2 cn
              go_upto_region 23 with fail
              have HF11 := Lib.hid (World.rowIs_made w10 (.int .i64 0) m 3)
              have HP11 := Lib.hid (Hp10.out.alloc (.cells (madeCells #[Value.int .i64 0] m) 3))
              have Hb11 := Lib.hid (Hb10.out.alloc Hb10.out.size (.cells (madeCells #[Value.int .i64 0] m) 3))
              have HOw := Lib.hid (show ∀ r, r < NN + 2 → (V r).ownBlock ≠ some w10.heap.size from fun r hr e => Nat.lt_irrefl _ ((Hp10.out.owns hr).lt _ e).2)
              have hbF : w4.heap.size + 2 ≤ w10.heap.size := Hp10.out.sz
              clear p0 lP hdiv hmk hMa hMb
              generalize w10.alloc (.cells (madeCells #[Value.int .i64 0] m) 3) = w11 at *
              generalize w10.heap.size = bF at *
              go_wp2
              go_loopg [122, 17] m (fun g s122 _s17 wr => ∃ i : Nat, i ≤ m ∧ g = m - i ∧ s122 = .int .i64 (i : Int) ∧ wr.rowIs bF 3 m (rn fun k => if k < i then leftX X (2 * k + 1) else 0) ∧ Chg (fun q => q = bF) w11 wr)
              case atStart => exact ⟨0, Nat.zero_le _, rfl, rfl, HF11.out.congr (fun k _ => by simp [rn]), Chg.refl _ _⟩
              case round =>
                obtain ⟨i, hi, rfl, rfl, hrow, hch⟩ := hrel
                have Hrow := Lib.hid hrow; have Hch := Lib.hid hch
                by_cases him : i < m
                · obtain ⟨g1, k1, e1, -, -, hlook⟩ := HP11.out.look (show 1 < NN + 2 by omega) (by rw [hX1l]; omega)
                  have hg1 : g1 ≠ bF := fun e => HOw.out 1 (by omega) (by rw [e1, e]; rfl)
                  have p1 := hch.cell (HP11.out.rP.cell (show 1 < 3 by omega)) (show ¬ w4.heap.size + 1 = bF by omega)
                  simp only [show ¬ (1 : Nat) = 0 by omega, if_false, if_true] at p1
                  rw [e1, hX1l] at p1
                  have c1 := hch.cell (hlook (2 * i + 1) (by rw [hX1l]; omega)).1 (show ¬ g1 = bF from hg1)
                  have tz := hrow.frozen i
                  have tl := hrow.lt
                  have tc := hrow.cell him
                  simp only [rn] at tc
                  have hw2 : IntKind.i64.wrap (2 * (i : Int)) = ((2 * i : Nat) : Int) := wrap_nat (n := 2 * i) (by omega)
                  have hw3 : IntKind.i64.wrap (((2 * i : Nat) : Int) + 1) = ((2 * i + 1 : Nat) : Int) := wrap_nat (n := 2 * i + 1) (by omega)
                  generalize hxx : (X 1).getD (2 * i + 1) 0 = xx at c1
                  have Hxx := Lib.hid hxx
                  clear hrow hch e1 hlook hxx
                  go_wp2
                  go_roundg (m - (i + 1))
                  case measure => go_light; omega
                  case rel => exact ⟨i + 1, by omega, rfl, by go_num, (row_set_rn Hrow.out i xx).congr (fun k _ => by
                    simp only [rn]
                    by_cases e : k = i
                    · subst e
                      rw [if_pos rfl, if_pos (by omega), show leftX X (2 * k + 1) = xx from Hxx.out]
                    · rw [if_neg e]
                      have : (k < i + 1) ↔ k < i := by omega
                      simp only [this]), Hch.out.setCell (fun _ => rfl) _⟩
                · obtain rfl : m = i := by omega
                  have HrF := Lib.hid (hrow.congr (f := rn fun k => if k < m then leftX X (2 * k + 1) else 0) (g := rn fun k => leftX X (2 * k + 1)) (fun k hk => by simp only [rn, if_pos hk]))
                  clear hrow hch Hrow
                  obtain ⟨w12, rfl⟩ : ∃ w12 : World, w12 = wr := ⟨_, rfl⟩
                  have Hb12 := Lib.hid (Hb11.out.trans (Hch.out.toBelow (B := w4.heap.size) Hb11.out.size (fun k hk hs => by omega)))
                  have cs := (H4.out.below Hb12.out).cs
                  go_wp2
                  clear cs
                  have hlev := Hlev.out
                  have hlaw : MostLaw (2 * N) (besL N s t l) (N + s) t sum (fun k => leftX X (2 * k + 1)) lev := by
                    have h1 : MostOk NN (2 * (besL N s t l).length) (besL N s t l) (N + s) t sum X lev := ⟨Hsent.out, Hlev.out, Hlvt.out⟩
                    have h2 := h1.law (by omega)
                    rwa [HNN.out] at h2
                  have Hlaw := Lib.hid hlaw
                  have hbm : m = N + 2 * l.length := by rw [Hm.out]; exact besN_length N s t l l.length
                  have hma : m ≤ N + 2 * l.length := by omega
                  have hmb : N + 2 * l.length ≤ m := by omega
                  have hAF : w.heap.size ≠ bF := by
                    have := World.block_lt_of_cell? _ _ H4.out.cn
                    simp only at this
                    omega
                  clear hlev hlaw hbm hX0l hX1l
                  go_loopg [141] l.length (fun g s141 wr => ∃ (k : Nat) (F : Nat → Nat) (Z : Nat → Int), k ≤ l.length ∧ g = l.length - k ∧ s141 = .int .i64 (k : Int) ∧ BFlow N s t l sum t 0 F Z ∧ (∀ q, q < N → F q = leftX X (2 * q + 1)) ∧ (∀ q, F q ≤ leftX X (2 * q + 1)) ∧ wr.rowIs bF 3 m (rn F) ∧ Chg (fun q => q = bF) w11 wr)
                  case atStart => exact ⟨0, _, _, Nat.zero_le _, rfl, rfl, BFlow.start Hlaw.out, fun _ _ => rfl, fun _ => Nat.le_refl _, HrF.out, Hch.out⟩
                  case round =>
                    obtain ⟨k, F, Z, hk, rfl, rfl, hbf, hnode, hle, hrow, hch⟩ := hrel
                    have Hbf := Lib.hid hbf; have Hnode := Lib.hid hnode; have Hle := Lib.hid hle; have Hrow := Lib.hid hrow; have Hch2 := Lib.hid hch
                    have Hbr := Lib.hid (Hb11.out.trans (hch.toBelow (B := w4.heap.size) Hb11.out.size (fun k hk hs => by omega)))
                    have cn := (H4.out.below Hbr.out).cn
                    by_cases hkl : k < l.length
                    · have ca := hrow.cell (show N + 2 * k < m by omega)
                      have cb := hrow.cell (show N + 2 * k + 1 < m by omega)
                      have za := hrow.frozen (N + 2 * k)
                      have zb := hrow.frozen (N + 2 * k + 1)
                      have tl := hrow.lt
                      simp only [rn] at ca cb
                      have hfa : F (N + 2 * k) ≤ 1000000 := by
                        have h1 := hle (N + 2 * k)
                        have h2 := Hlaw.out.le (N + 2 * k) (by rw [← Hm.out]; omega)
                        have h3 := (Harc.out (N + 2 * k) (by rw [← Hm.out]; omega)).2.2.2.2.2
                        simp only [capL] at h2
                        omega
                      have hfb : F (N + 2 * k + 1) ≤ 1000000 := by
                        have h1 := hle (N + 2 * k + 1)
                        have h2 := Hlaw.out.le (N + 2 * k + 1) (by rw [← Hm.out]; omega)
                        have h3 := (Harc.out (N + 2 * k + 1) (by rw [← Hm.out]; omega)).2.2.2.2.2
                        simp only [capL] at h2
                        omega
                      have hwA : IntKind.i64.wrap (2 * (k : Int)) = ((2 * k : Nat) : Int) := wrap_nat (n := 2 * k) (by omega)
                      have hwB : IntKind.i64.wrap ((N : Int) + ((2 * k : Nat) : Int)) = ((N + 2 * k : Nat) : Int) := wrap_nat (n := N + 2 * k) (by omega)
                      have hwC : IntKind.i64.wrap (((N + 2 * k : Nat) : Int) + 1) = ((N + 2 * k + 1 : Nat) : Int) := wrap_nat (n := N + 2 * k + 1) (by omega)
                      generalize hFa : F (N + 2 * k) = Fa at *
                      generalize hFb : F (N + 2 * k + 1) = Fb at *
                      have HFa := Lib.hid hFa; have HFb := Lib.hid hFb
                      clear hbf hnode hle hrow hch hFa hFb
                      go_upto_region 31 with fail
                      go_quiet (fail)
                      have hq := Below.drewN' (Below.refl wr.heap.size wr) nq
                      have ca := below_cell hq ca
                      have cb := below_cell hq cb
                      have cn := below_cell hq cn
                      have Hr2 := Lib.hid (Hrow.out.of_block (hq.block _ tl))
                      have za := Hr2.out.frozen (N + 2 * k)
                      have zb := Hr2.out.frozen (N + 2 * k + 1)
                      have tl := Hr2.out.lt
                      have Hch3 := Lib.hid (Hch2.out.drewN nq)
                      clear hq Hrow Hch2
                      generalize wr.drewN nq = wq at *
                      go_upto_region 32 with fail
                      obtain ⟨d, hd⟩ : ∃ d, d = min Fa Fb := ⟨_, rfl⟩
                      have Hd := Lib.hid hd
                      have hda : d ≤ Fa := by omega
                      have hdb : d ≤ Fb := by omega
                      clear hd
                      go_cut [21] from 161 to 163 (fun s21 wx => s21 = .int .i64 (d : Int) ∧ wq = wx)
                      case first =>
                        by_cases hlt' : Fb < Fa
                        · have e := Lib.hid (show d = Fb by have := Hd.out; omega)
                          go_wp2
                          go_meet
                          exact ⟨by rw [e.out], rfl⟩
                        · have e := Lib.hid (show d = Fa by have := Hd.out; omega)
                          go_wp2
                          go_meet
                          exact ⟨by rw [e.out], rfl⟩
                      case rest =>
                      obtain ⟨rfl, rfl⟩ := hcut
                      have hs1 : IntKind.i64.wrap ((Fa : Int) - (d : Int)) = ((Fa - d : Nat) : Int) := by
                        rw [show (Fa : Int) - (d : Int) = ((Fa - d : Nat) : Int) by omega]
                        exact IntWalk.i64_in _ (by omega)
                      have hs2 : IntKind.i64.wrap ((Fb : Int) - (d : Int)) = ((Fb - d : Nat) : Int) := by
                        rw [show (Fb : Int) - (d : Int) = ((Fb - d : Nat) : Int) by omega]
                        exact IntWalk.i64_in _ (by omega)
                      go_upto_region 33 with fail
                      go_region
                      all_goals
                        obtain ⟨Z', hZ'⟩ := Hbf.out.cancel Hok2.out hkl (d := d) (by rw [HFa.out]; exact hda) (by rw [HFb.out]; exact hdb)
                        have HZ' := Lib.hid hZ'
                        have hrow2 := (row_set_rn (row_set_rn Hr2.out (N + 2 * k) (Fa - d)) (N + 2 * k + 1) (Fb - d)).congr (g := rn (cancF N k d F)) (fun q _ => by
                          simp only [rn, cancF, HFa.out, HFb.out])
                        have hchg2 := (Hch3.out.setCell (p := ⟨bF, N + 2 * k, none⟩) (fun _ => rfl) (.int .i64 ((Fa - d : Nat) : Int))).setCell (p := ⟨bF, N + 2 * k + 1, none⟩) (fun _ => rfl) (.int .i64 ((Fb - d : Nat) : Int))
                        have Hrow2 := Lib.hid hrow2; have Hchg2 := Lib.hid hchg2
                        clear hrow2 hchg2 hZ'
                        go_wp2
                        go_roundg (l.length - (k + 1))
                        case measure => go_light; omega
                        case rel => exact ⟨k + 1, cancF N k d F, Z', by omega, rfl, by go_num, HZ'.out, fun q hq => by
                          have := Hnode.out q hq
                          unfold cancF
                          rw [if_neg (by omega), if_neg (by omega)]
                          exact this, fun q => by
                          have h0 := Hle.out q
                          unfold cancF
                          by_cases e1 : q = N + 2 * k + 1
                          · subst e1
                            rw [if_pos rfl]; omega
                          · rw [if_neg e1]
                            by_cases e2 : q = N + 2 * k
                            · subst e2
                              rw [if_pos rfl]; omega
                            · rw [if_neg e2]; exact h0, Hrow2.out, by first | exact Hchg2.out | exact Hchg2.out.drew⟩
                    · obtain rfl : l.length = k := by omega
                      have hcap1 : ∀ q, F q ≤ 100 := fun q => by
                        have h1 := hle q
                        by_cases hqm : q < (besL N s t l).length
                        · have h2 := Hlaw.out.le q hqm
                          have h3 := bes_cap (s := s) (t := t) Hok.out (by omega) q hqm
                          omega
                        · have h2 : leftX X (2 * q + 1) = 0 := by
                            have hX1l : (X 1).length = 2 * (besL N s t l).length := Hsent.out.ok.leftL
                            show (X 1).getD _ 0 = 0
                            rw [List.getD, List.getElem?_eq_none (by omega)]
                            rfl
                          omega
                      have hcap2 : ∀ v, v < N → v ≠ s → v ≠ t → F v ≤ 1 := fun v hv h1 h2 => by
                        obtain ⟨-, -, e3⟩ := bes_node_arc (s := s) (t := t) (l := l) hv
                        have h3 := Hlaw.out.le v (by rw [← Hm.out]; omega)
                        rw [e3, if_neg (by omega)] at h3
                        have := hle v
                        omega
                      have Hcap1 := Lib.hid hcap1; have Hcap2 := Lib.hid hcap2
                      have hsumN : sum < NN := by
                        have h1 : MostOk NN (2 * (besL N s t l).length) (besL N s t l) (N + s) t sum X lev := ⟨Hsent.out, Hlev.out, Hlvt.out⟩
                        rw [HNN.out] at h1
                        have := bes_few Hok.out hsN htN Hst.out Hadj.out h1
                        omega
                      obtain ⟨w13, rfl⟩ : ∃ w13 : World, w13 = wr := ⟨_, rfl⟩
                      have hbF13 := hrow.lt
                      have HW0 := Lib.hid (show WaysI N s t l sum F F [] [] from ⟨⟨Z, hbf⟩, fun k => by simp, fun i hi => absurd hi (Nat.not_lt_zero _), fun i hi => absurd hi (Nat.not_lt_zero _), fun i j _ hj => absurd hj (Nat.not_lt_zero _)⟩)
                      clear hbf hnode hle hrow hch hcap1 hcap2
                      go_wp2
                      clear cn
                      go_loopg [6, 187] sum (fun g s6 s187 wr => ∃ (i : Nat) (F' : Nat → Nat) (W : List (List Nat)) (KK : List Nat), i ≤ sum ∧ g = sum - i ∧ s187 = .int .i64 (i : Int) ∧ W.length = i ∧ WaysI N s t l (sum - i) F F' W KK ∧ Copied w13.heap.size wr s6 i (W.map ints) ∧ wr.rowIs bF 3 m (rn F') ∧ Chg (fun q => q = bF) w13 wr)
                      case atStart => exact ⟨0, F, [], [], Nat.zero_le _, rfl, rfl, rfl, HW0.out, ⟨[], World.ownsRow_nil _ _ _ _, fun j hj => absurd hj (Nat.not_lt_zero _)⟩, Hrow.out, Chg.refl _ _⟩
                      case round =>
                        obtain ⟨i, F', W, KK, hi, rfl, rfl, hWl, hways, hcop, hrow, hch⟩ := hrel
                        obtain ⟨vals, hvown, hvrow⟩ := hcop
                        obtain ⟨a6, c6, rfl⟩ := ownsRow_form hvown
                        have Hways := Lib.hid hways; have Hcop := Lib.hid (show Copied w13.heap.size wr (.slice a6 i c6) i (W.map ints) from ⟨vals, hvown, hvrow⟩); have Hrow' := Lib.hid hrow; have Hch' := Lib.hid hch
                        have HWl := Lib.hid hWl
                        have Hch5 := Lib.hid (Hch2.out.trans hch)
                        have HP5 := Lib.hid (HP11.out.chg Hch5.out (show bF ≠ w4.heap.size + 1 by omega) (show bF ≠ w4.heap.size by omega) HOw.out)
                        have hbr5 := Hbr.out.trans (hch.toBelow (B := w4.heap.size) Hbr.out.size (fun k hk hs => by omega))
                        have Hbr5 := Lib.hid hbr5
                        have cn := (H4.out.below hbr5).cn
                        by_cases his : i < sum
                        · have hsplit : sum - i = (sum - (i + 1)) + 1 := by omega
                          have hways' : WaysI N s t l ((sum - (i + 1)) + 1) F F' W KK := by rw [← hsplit]; exact hways
                          obtain ⟨Z, hbf⟩ := hways'.flow
                          have hFle : ∀ q, F' q ≤ 100 := fun q => by
                            have h1 := hways.used q
                            have h2 := Hcap1.out q
                            omega
                          have hI0 : BesInv N s t l (sum - (i + 1)) F' (N + s) := ⟨Z, BFlow.begin (n := ((sum - (i + 1) : Nat) : Int)) hbf, by have := Hst.out; omega, by omega, hFle⟩
                          have Hways' := Lib.hid hways'
                          have Hfol := Lib.hid (show Calls Try.prog 92 #[.pointer (some ⟨w4.heap.size + 1, 0, none⟩), .int .i64 ((N + s : Nat) : Int), .int .i64 (t : Int), .slice (some ⟨bF, 0, none⟩) m m] wr (FollowPost (besL N s t l) (N + s) t bF F' (BesInv N s t l (sum - (i + 1))) wr) from by
                            have h1 := follow_any (besL N s t l) (w4.heap.size + 2) (w4.heap.size + 1) w4.heap.size bF NN (N + s) t V X F' (BesInv N s t l (sum - (i + 1))) wr Hsent.out.ok (fun q hq => Hsent.out.same q hq) (by rw [← Hm.out]; omega) HP5.out (by rw [← Hm.out]; exact hrow) ⟨by omega, by omega, HOw.out⟩ (by
                              rw [← Hm.out]
                              have := allF_le (c := 100) (F := F') m (fun k _ => hFle k)
                              omega) (by omega) (fun G v hG => by
                              obtain ⟨_, _, _, h3, h4⟩ := hG
                              exact ⟨by omega, fun k _ => by have := h4 k; omega⟩) (fun G v hG hv => hG.on Hok.out htN hv) (fun G v k hG hv hk hf h0 => hG.step Hok.out hv hk hf h0) hI0
                            rwa [← Hm.out] at h1)
                          clear hbf hFle hI0 hways' hsplit hvown hvrow hways hrow hch hbr5 hWl
                          go_wp2_with (go_at_call 92; refine Hfol.out.mono ?_; rintro e w14 ⟨v14, F2, P, K, rfl, hown, htr, hend, hinv, hrow2, hch6, hPl⟩; obtain ⟨a1, c1, rfl⟩ := ownsRow_form hown; have Hown := Lib.hid hown; have Htr := Lib.hid htr; have Hend := Lib.hid hend; have Hinv := Lib.hid hinv; have Hrow2 := Lib.hid hrow2; have Hch6 := Lib.hid hch6; have Hbr6 := Lib.hid (Hbr5.out.trans (hch6.toBelow (B := w4.heap.size) Hbr5.out.size (fun k hk hs => by omega))); clear hown htr hend hinv hrow2 hch6)
                          clear cn
                          go_loopg [22, 198] P.length (fun g s22 s198 wx => ∃ (j : Nat) (L : List Nat), j ≤ P.length ∧ g = P.length - j ∧ s198 = .int .i64 (j : Int) ∧ L = besV N t (P.take j) ∧ wx.ownsRow w14.heap.size 3 1 s22 L.length ((ints L).map (Value.int .i64)) ∧ Below w14.heap.size w14 wx)
                          case atStart => exact ⟨0, [], Nat.zero_le _, rfl, rfl, rfl, World.ownsRow_nil _ _ _ _, Below.refl _ _⟩
                          case round =>
                            obtain ⟨j, L, hj, rfl, rfl, hL, hown2, hb2⟩ := hrel
                            have Hown2 := Lib.hid hown2; have HL := Lib.hid hL; have Hb2 := Lib.hid hb2
                            have hsz2 := hb2.size
                            have Hbx := Lib.hid (Hbr6.out.trans (hb2.mono Hbr6.out.size))
                            have cn := (H4.out.below Hbx.out).cn
                            obtain ⟨a2, c2, rfl⟩ := ownsRow_form hown2
                            by_cases hjl : j < P.length
                            · obtain ⟨pb, po, rfl, cp⟩ := ints_at' (IsInts.owned Hown.out) hb2 hjl
                              have hll : L.length ≤ 1000000001 := by
                                rw [hL]
                                have h1 : (besV N t (P.take j)).length ≤ (P.take j).length := List.length_filterMap_le _ _
                                have h2 : (P.take j).length ≤ P.length := by rw [List.length_take]; omega
                                omega
                              have hv2 := trail_lt hN Hok.out htN Htr.out Hend.out j hjl
                              have hsn : besV N t (P.take (j + 1)) = L ++ (if N ≤ P.getD j 0 then [P.getD j 0 - N] else if P.getD j 0 = t then [P.getD j 0] else []) := by rw [hL, take_snocN hjl, besV_snoc]
                              generalize hvv : P.getD j 0 = v at *
                              have Hsn := Lib.hid hsn
                              clear hsn hown2 hb2 hvv hL
                              by_cases hNv : N ≤ v
                              · have hw2 : IntKind.i64.wrap ((v : Int) - (N : Int)) = ((v - N : Nat) : Int) := by
                                  rw [show (v : Int) - (N : Int) = ((v - N : Nat) : Int) by omega]
                                  exact IntWalk.i64_in _ (by omega)
                                have Hsn2 := Lib.hid (show L ++ [v - N] = besV N t (P.take (j + 1)) by rw [Hsn.out, if_pos hNv])
                                clear Hsn
                                go_wp2_with (at_builtin; refine wpList_append_has rfl (.tmp 206) (.tmp 211) 51 rfl w14.heap.size 3 (.int .i64 0) 8 Try.underlying51 info3 rfl _ L.length ((ints L).map (Value.int .i64)) rfl (Hown2.out.alloc _) _ 1 [.int .i64 ((v - N : Nat) : Int)] rfl (HasCells.one _ _ _ rfl) (by omega) (by omega) (by rw [World.size_alloc]; omega) ?_; intro a3 c3 w3' hown3 hg3; have Hown3 := Lib.hid hown3; have Hg3 := Lib.hid ((Hb2.out.alloc hsz2 (Obj.cells #[Value.int .i64 ((v - N : Nat) : Int)] 3)).grown hg3 (by rw [World.size_alloc]; omega) (fun g e => (Hown2.out.lt g e).1)); clear hown3 hg3)
                                go_roundg (P.length - (j + 1))
                                case measure => go_light; omega
                                case rel => exact ⟨j + 1, L ++ [v - N], by omega, rfl, by go_num, Hsn2.out, by
                                  rw [List.length_append, ints_snoc, List.map_append]
                                  exact Hown3.out, Hg3.out⟩
                              · by_cases hvt : v = t
                                · have Hsn2 := Lib.hid (show L ++ [v] = besV N t (P.take (j + 1)) by rw [Hsn.out, if_neg hNv, if_pos hvt])
                                  have q2 : ((v : Int) == (t : Int)) = true := by simp; omega
                                  clear Hsn hvt
                                  go_wp2_with (at_builtin; refine wpList_append_has rfl (.tmp 216) (.tmp 218) 51 rfl w14.heap.size 3 (.int .i64 0) 8 Try.underlying51 info3 rfl _ L.length ((ints L).map (Value.int .i64)) rfl (Hown2.out.alloc _) _ 1 [.int .i64 (v : Int)] rfl (HasCells.one _ _ _ rfl) (by omega) (by omega) (by rw [World.size_alloc]; omega) ?_; intro a3 c3 w3' hown3 hg3; have Hown3 := Lib.hid hown3; have Hg3 := Lib.hid ((Hb2.out.alloc hsz2 (Obj.cells #[Value.int .i64 (v : Int)] 3)).grown hg3 (by rw [World.size_alloc]; omega) (fun g e => (Hown2.out.lt g e).1)); clear hown3 hg3)
                                  go_roundg (P.length - (j + 1))
                                  case measure => go_light; omega
                                  case rel => exact ⟨j + 1, L ++ [v], by omega, rfl, by go_num, Hsn2.out, by
                                    rw [List.length_append, ints_snoc, List.map_append]
                                    exact Hown3.out, Hg3.out⟩
                                · have Hsn2 := Lib.hid (show L = besV N t (P.take (j + 1)) by rw [Hsn.out, if_neg hNv, if_neg hvt, List.append_nil])
                                  have q2 : ((v : Int) == (t : Int)) = false := by simp; omega
                                  clear Hsn hvt
                                  go_wp2
                                  go_roundg (P.length - (j + 1))
                                  case measure => go_light; omega
                                  case rel => exact ⟨j + 1, L, by omega, rfl, by go_num, Hsn2.out, Hown2.out, Hb2.out⟩
                            · obtain rfl : P.length = j := by omega
                              have hfin := bes_way Hok.out htN hsN Htr.out K.length (by have := Htr.out.len; omega)
                              rw [show K.length + 1 = P.length from Htr.out.len.symm] at hfin
                              rw [List.take_length, List.take_length] at hfin
                              rw [List.take_length] at hL
                              rw [← hL] at hfin
                              have hQl : L.length ≤ 1000000001 := by
                                have h1 : (besV N t P).length ≤ P.length := List.length_filterMap_le _ _
                                rw [← hL] at h1
                                omega
                              have hQv : ∀ i, i < L.length → L.getD i 0 ≤ 1000000 := fun i hi => by
                                have := hfin.inn i hi
                                omega
                              obtain ⟨w15, rfl⟩ : ∃ w15 : World, w15 = wr := ⟨_, rfl⟩
                              have Hchx := Lib.hid (Hch6.out.trans (Chg.ofBelow hb2))
                              have Hstr := Lib.hid (straight_any L (.slice a2 L.length c2) w15 (by omega) hQv (IsInts.owned hown2))
                              have HLf := Lib.hid hL
                              have hz13 : w13.heap.size ≤ w14.heap.size := Nat.le_trans Hch'.out.size Hch6.out.size
                              clear hfin hQv hown2 hb2 hL HL
                              go_wp2_with (first
                                | (go_at_call 93; refine Hstr.out.mono ?_; rintro e w16 ⟨v16, o, rfl, hso, hown4, hb4⟩; obtain ⟨a7, c7, rfl⟩ := ownsRow_form hown4; obtain ⟨vals, hvown, hvrow⟩ := Hcop.out.chg (Hchx.out.trans (Chg.ofBelow hb4)) hbF13; have Hso := Lib.hid hso; have Hown4 := Lib.hid (ownsRow_low hown4 (show w13.heap.size ≤ w15.heap.size by omega)); have Hvown := Lib.hid hvown; have Hvrow := Lib.hid hvrow; have Hb4 := Lib.hid hb4; have hz16 := hb4.size; clear hso hown4 hvown hvrow hb4)
                                | (at_builtin; refine wpList_append_has rfl (.tmp 221) (.tmp 224) 40 rfl w13.heap.size 51 (.slice none 0 0) 24 Try.underlying40 infoS rfl _ i vals rfl (Hvown.out.alloc _) _ 1 [.slice a7 o.length c7] rfl (HasCells.one _ _ _ rfl) (by omega) (by omega) (by rw [World.size_alloc]; omega) ?_; intro a5 c5 w17 hown5 hg5; have Hown5 := Lib.hid hown5; have Hg5 := Lib.hid hg5; clear hown5 hg5))
                              go_roundg (sum - (i + 1))
                              case measure => go_light; omega
                              case rel => exact ⟨i + 1, F2, W ++ [o], KK ++ K, by omega, rfl, by go_num, by rw [List.length_append, HWl.out]; rfl, by
                                obtain ⟨Z, h1, -⟩ := Hinv.out
                                exact WaysI.more Hways'.out Hcap2.out Hok.out htN hsN Hst.out Htr.out Hend.out (HLf.out ▸ Hso.out) ⟨Z, h1.fin⟩, by
                                have h1 := Copied.app (W := W) (o := o) (by rw [HWl.out]; exact Hvown.out) (by rw [HWl.out]; exact Hvrow.out) Hown4.out (by rw [HWl.out]; exact Hown5.out) Hg5.out
                                rwa [HWl.out] at h1, by
                                have h1 := Hrow2.out
                                rw [← Hm.out] at h1
                                have h2 := h1.of_block ((Hb2.out.trans (Hb4.out.mono hsz2)).block _ h1.lt)
                                exact (h2.alloc _).of_block (Hg5.out.block _ (by rw [World.size_alloc]; exact Nat.lt_succ_of_lt h2.lt) (fun e => by have := (Hvown.out.lt bF e.symm).1; omega)), ((((Hch'.out.trans Hchx.out).trans (Chg.ofBelow Hb4.out)).alloc _).grown Hg5.out (Hvown.out.alloc _) (Nat.le_refl _))⟩
                        · obtain rfl : sum = i := by omega
                          have Hw0 := Lib.hid hways
                          have hlow := hch.size
                          obtain ⟨w20, rfl⟩ : ∃ w20 : World, w20 = wr := ⟨_, rfl⟩
                          have lcn := World.block_lt_of_cell? _ _ cn
                          simp only at lcn
                          have hmk2 := run_make_row' (P := Try.prog) 38 4 (.bool false) 1 Try.underlying38 info4 rfl .i64 .i64 NN (by omega) (by omega)
                          clear hvown hvrow hways hrow hch hbr5 hWl
                          go_upto_region 49 with fail
                          clear hmk2 cn lcn
                          have HI0 := Lib.hid (World.rowIs_made w20 (.bool false) NN 4)
                          have HPs := Lib.hid (HP5.out.alloc (.cells (madeCells #[Value.bool false] NN) 4))
                          have Hbs := Lib.hid (Hbr5.out.alloc Hbr5.out.size (.cells (madeCells #[Value.bool false] NN) 4))
                          have HbI := Lib.hid (below1 w20 (.cells (madeCells #[Value.bool false] NN) 4))
                          generalize w20.alloc (.cells (madeCells #[Value.bool false] NN) 4) = w21 at *
                          have cn := (H4.out.below Hbs.out).cn
                          go_wp2_with (go_at_call 73; refine (fside_any (w4.heap.size + 2) (w4.heap.size + 1) w4.heap.size NN (2 * (besL N s t l).length) (N + s) V X _ (by omega) Hsent.out.ok HPs.out).mono ?_; rintro e w22 ⟨lev', v8, rfl, hlev', hown8, hb8⟩; obtain ⟨a8, c8, rfl⟩ := ownsRow_form hown8; have HI1 := Lib.hid (HI0.out.of_block (hb8.block _ HI0.out.lt)); have Hlev' := Lib.hid hlev'; have Hside := Lib.hid (IsInts.owned hown8); have Hown8 := Lib.hid (fun g e => (World.ownsRow.lt hown8 g e).1); have hI9 := HI0.out.lt; have Hb22 := Lib.hid (Hbs.out.trans (hb8.mono Hbs.out.size)); have HbJ := Lib.hid (HbI.out.trans (hb8.mono HbI.out.size)); clear hlev' hown8 hb8)
                          have hsl := sideL_length lev' NN
                          have hI10 := HI1.out.lt
                          clear cn
                          go_loopg [238] (sideL lev' NN).length (fun g s238 wx => ∃ k : Nat, k ≤ (sideL lev' NN).length ∧ g = (sideL lev' NN).length - k ∧ s238 = .int .i64 (k : Int) ∧ wx.rowIs w20.heap.size 4 NN (rb fun u => decide (u ∈ (sideL lev' NN).take k)) ∧ Chg (fun q => q = w20.heap.size) w22 wx)
                          case atStart => exact ⟨0, Nat.zero_le _, rfl, rfl, HI1.out.congr (fun k _ => by simp [rb]), Chg.refl _ _⟩
                          case round =>
                            obtain ⟨k, hk, rfl, rfl, hrI, hch⟩ := hrel
                            have HrI := Lib.hid hrI; have Hch := Lib.hid hch
                            by_cases hkl : k < (sideL lev' NN).length
                            · obtain ⟨b8', o8, e8, h1⟩ := ints_at' Hside.out (Below.refl _ _) hkl
                              have hb8' : b8' ≠ w20.heap.size := fun e => by
                                have := Hown8.out b8' (by rw [e8]; rfl)
                                omega
                              subst e8
                              have c8 := hch.cell h1 (show ¬ b8' = w20.heap.size from hb8')
                              have hx := (sideL_at hkl).1
                              have hI := hrI.cell hx
                              have hIf := hrI.frozen ((sideL lev' NN).getD k 0)
                              have hIl := hrI.lt
                              have hmem : ∀ q, q ∈ (sideL lev' NN).take (k + 1) ↔ q ∈ (sideL lev' NN).take k ∨ q = (sideL lev' NN).getD k 0 := fun q => by
                                rw [List.take_succ_eq_append_getElem hkl, List.mem_append, List.mem_singleton]
                                simp [List.getD, hkl]
                              generalize hxx : (sideL lev' NN).getD k 0 = x at *
                              have Hmem := Lib.hid hmem
                              clear hrI hch hxx hmem h1
                              simp only [rb] at hI
                              go_wp2
                              go_roundg ((sideL lev' NN).length - (k + 1))
                              case measure => go_light; omega
                              case rel => exact ⟨k + 1, by omega, rfl, by go_num, row_rb (row_set_rb HrI.out x true) (fun q _ => by
                                by_cases e : q = x
                                · rw [if_pos e]; exact (decide_eq_true ((Hmem.out q).2 (Or.inr e))).symm
                                · rw [if_neg e]
                                  have := Hmem.out q
                                  simp only [e, or_false] at this
                                  simp only [this]), Hch.out.setCell (fun _ => rfl) _⟩
                            · obtain rfl : (sideL lev' NN).length = k := by omega
                              have hrT : wr.rowIs w20.heap.size 4 NN (rb fun u => decide (0 ≤ lev' u)) := row_rb hrI fun u hu => by
                                rw [List.take_length]
                                simp only [sideL_mem, hu, true_and]
                              have HrT := Lib.hid hrT
                              have Hb23 := Lib.hid (Hb22.out.trans (hch.toBelow (B := w4.heap.size) Hb22.out.size (fun k hk hs => by have := Hbr5.out.size; omega)))
                              have HbK := Lib.hid (HbJ.out.trans (hch.toBelow (B := w20.heap.size) HbJ.out.size (fun k hk hs => by omega)))
                              clear hrI hch hrT HrI Hch HI1 Hside Hown8 hsl hk
                              obtain ⟨w23, rfl⟩ : ∃ w23 : World, w23 = wr := ⟨_, rfl⟩
                              have cn := (H4.out.below Hb23.out).cn
                              have hI23 := HrT.out.lt
                              go_wp2
                              clear cn
                              go_loopg [7, 248] N (fun g s7 s248 wx => ∃ (k : Nat) (C : List Nat), k ≤ N ∧ g = N - k ∧ s248 = .int .i64 (k : Int) ∧ C = cutS lev' N k ∧ wx.ownsRow w23.heap.size 3 1 s7 C.length ((ints C).map (Value.int .i64)) ∧ Below w23.heap.size w23 wx)
                              case atStart => exact ⟨0, [], Nat.zero_le _, rfl, rfl, rfl, World.ownsRow_nil _ _ _ _, Below.refl _ _⟩
                              case round =>
                                obtain ⟨k, C, hk, rfl, rfl, hC, hown, hb⟩ := hrel
                                have Hown := Lib.hid hown; have HC := Lib.hid hC; have Hb := Lib.hid hb
                                have hszb := hb.size
                                obtain ⟨a9, c9, rfl⟩ := ownsRow_form hown
                                have hbz := Hb23.out.trans (hb.mono Hb23.out.size)
                                have cn := (H4.out.below hbz).cn
                                have Hbz := Lib.hid hbz
                                have hCl : C.length ≤ k := by rw [hC]; exact cutS_length _ _ _
                                by_cases hkN : k < N
                                · have hr2 := HrT.out.of_block (hb.block _ hI23)
                                  have tk := hr2.cell (show k < NN by omega)
                                  have tn := hr2.cell (show N + k < NN by omega)
                                  simp only [rb] at tk tn
                                  have hw9 : IntKind.i64.wrap ((N : Int) + (k : Int)) = ((N + k : Nat) : Int) := wrap_nat (n := N + k) (by omega)
                                  clear hown hC hb hbz hr2
                                  by_cases h1 : 0 ≤ lev' k
                                  · rw [decide_eq_true h1] at tk
                                    by_cases h2 : 0 ≤ lev' (N + k)
                                    · rw [decide_eq_true h2] at tn
                                      have Hno := Lib.hid (cutS_no (N := N) (k := k) (lev := lev') (fun h => by omega))
                                      clear h1 h2
                                      go_wp2
                                      go_roundg (N - (k + 1))
                                      case measure => go_light; omega
                                      case rel => exact ⟨k + 1, C, by omega, rfl, by go_num, by rw [Hno.out]; exact HC.out, Hown.out, Hb.out⟩
                                    · rw [decide_eq_false h2] at tn
                                      have Hyes := Lib.hid (cutS_yes (N := N) (k := k) (lev := lev') ⟨h1, by omega⟩)
                                      clear h1 h2
                                      go_wp2_with (at_builtin; refine wpList_append_has rfl (.tmp 265) (.tmp 267) 51 rfl w23.heap.size 3 (.int .i64 0) 8 Try.underlying51 info3 rfl _ C.length ((ints C).map (Value.int .i64)) rfl (Hown.out.alloc _) _ 1 [.int .i64 (k : Int)] rfl (HasCells.one _ _ _ rfl) (by omega) (by omega) (by rw [World.size_alloc]; omega) ?_; intro a3 c3 w3' hown3 hg3; have Hown3 := Lib.hid hown3; have Hg3 := Lib.hid ((Hb.out.alloc hszb (Obj.cells #[Value.int .i64 (k : Int)] 3)).grown hg3 (by rw [World.size_alloc]; omega) (fun g e => (Hown.out.lt g e).1)); clear hown3 hg3)
                                      go_roundg (N - (k + 1))
                                      case measure => go_light; omega
                                      case rel => exact ⟨k + 1, C ++ [k], by omega, rfl, by go_num, by rw [Hyes.out, HC.out], by
                                        rw [List.length_append, ints_snoc, List.map_append]
                                        exact Hown3.out, Hg3.out⟩
                                  · rw [decide_eq_false h1] at tk
                                    have Hno := Lib.hid (cutS_no (N := N) (k := k) (lev := lev') (fun h => h1 h.1))
                                    clear h1
                                    go_wp2
                                    go_roundg (N - (k + 1))
                                    case measure => go_light; omega
                                    case rel => exact ⟨k + 1, C, by omega, rfl, by go_num, by rw [Hno.out]; exact HC.out, Hown.out, Hb.out⟩
                                · obtain rfl : N = k := by omega
                                  have hno : lev' t < 0 := Hlev.out.shut Hlev'.out (by omega) Hlvt.out
                                  have hmo : MostOk NN (2 * (besL N s t l).length) (besL N s t l) (N + s) t sum X lev' := ⟨Hsent.out, Hlev'.out, hno⟩
                                  rw [HNN.out] at hmo
                                  obtain ⟨cc1, cc2, cc3, cc4⟩ := bes_cut Hok.out hsN htN Hst.out Hadj.out hmo
                                  rw [← hC] at cc1 cc2 cc3 cc4
                                  have Hbes := Lib.hid (show BesOk N l s t W C from ⟨by rw [HWl.out, cc1], Hw0.out.way, Hw0.out.dis, fun i hi => by
                                    rw [hC] at hi ⊢
                                    exact (cutS_at hi).1, fun i hi => by
                                    rw [hC] at hi ⊢
                                    exact cutS_up _ _ _ i hi, cc2, cc3, cc4⟩)
                                  have Hb20 := Lib.hid (HbK.out.trans (hb.mono HbK.out.size))
                                  have Hcop9 := Lib.hid (Hcop.out.chg (Chg.ofBelow Hb20.out) hbF13)
                                  have H9 := Lib.hid (H4.out.below hbz)
                                  obtain ⟨cn9, cs9, b0, b1, d0, d1, hBl, hAB⟩ := H9.out.facts
                                  clear hown hC hb hbz hno hmo cc1 cc2 cc3 cc4 cn cn9 cs9
                                  obtain ⟨w24, rfl⟩ : ∃ w24 : World, w24 = wr := ⟨_, rfl⟩
                                  go_upto_region 60 with fail
                                  go_region
                                  all_goals
                                    obtain ⟨e0, e1, e2⟩ := H9.out.res 0 0
                                    have hl8 : w.heap.size + 1 < w23.heap.size := by have := Hb23.out.size; have := H4.out.hf.lt; omega
                                    have hl13 : w.heap.size + 1 < w13.heap.size := by have := Hbr.out.size; have := H4.out.hf.lt; omega
                                    have hcs := ((((Chg.refl (fun q => q = w.heap.size + 1) w24).setCell (p := ⟨w.heap.size + 1, 0, none⟩) (fun _ => rfl) (.int .i64 0)).setCell (p := ⟨w.heap.size + 1, 1, none⟩) (fun _ => rfl) (.int .i64 0))).drew
                                    have hways9 := Hcop9.out.chg hcs hl13
                                    rw [show sum = (W.map ints).length from by rw [List.length_map]; exact HWl.out.symm] at hways9
                                    have hways10 := hways9.rows
                                    rw [show (W.map ints).length = sum from by rw [List.length_map]; exact HWl.out] at hways10
                                    have hcut9 := IsInts.owned (Hown.out.kept (row := some (w.heap.size + 1)) ⟨hcs.os, hcs.tape, hcs.output, hcs.size, fun k hk hne => hcs.block k hk (fun e => hne (by rw [e]))⟩ (by
                                      cases e : (Value.slice a9 C.length c9).ownBlock with
                                      | none => exact Or.inl rfl
                                      | some g => exact Or.inr (fun e2 => by have := (Hown.out.lt g e).1; cases e2; omega)))
                                    go_wp2
                                    exact bodyPost_ret (v := .tuple #[.slice a6 sum c6, .slice a9 C.length c9, .agg #[.int .i64 0, .int .i64 0]]) (by simp [results, Try.results52, go_sem, e0, e1]) rfl ⟨0, 0, _, _, rfl, Or.inr ⟨Hsp.out, Or.inr ⟨Hadj.out, rfl, rfl⟩⟩, e2.drew, Or.inr ⟨rfl, rfl, N, s, t, W, C, rfl, rfl, rfl, Hbes.out, hways10, hcut9⟩⟩
  · have q : (c != 0) = true := by simp [hc]
    have Hc := Lib.hid hc
    clear hc
    go_wp2
    go_region
    all_goals
      obtain ⟨e0, e1, e2⟩ := H3.out.res c a
      go_wp2
      exact bodyPost_ret (v := .tuple #[.slice none 0 0, .slice none 0 0, .agg #[.int .i64 c, .int .i64 a]]) (by simp [results, Try.results52, go_sem, e0, e1]) rfl ⟨c, a, _, _, rfl, Or.inl ⟨Hsp.out, Hc.out⟩, e2.drew, Or.inl ⟨Hc.out, rfl, rfl⟩⟩

end Go.Proofs.Ytfflnpcbpcldeaa
