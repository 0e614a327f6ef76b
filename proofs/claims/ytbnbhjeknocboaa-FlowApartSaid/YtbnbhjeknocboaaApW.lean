/- flow.Apart: the walk. -/
import Derived.Test.YtbnbhjeknocboaaOnes
import Derived.Test.YtbnbhjeknocboaaFBoth
import Derived.Test.YtbnbhjeknocboaaSideM
import Derived.Test.YtbnbhjeknocboaaForm
import Derived.Test.YtbnbhjeknocboaaKept
import Derived.BigRegion
import Derived.BigQuiet
import Derived.Deep.RegionHeld3
namespace Go.Proofs.Ytbnbhjeknocboaa
open Go.RowKit

/-- flow.Apart comes back. -/
def ApPost (n : Int) (l : List (Int × Int)) (s t : Int) (w : World) (e : Ending) (w' : World) : Prop :=
  ∃ c a wv cv, e = .returned (.tuple #[wv, cv, .agg #[.int .i64 c, .int .i64 a]]) ∧ LookSpec n l s t c a ∧ Below w.heap.size w w' ∧
    ((c ≠ 0 ∧ wv = .slice none 0 0 ∧ cv = .slice none 0 0) ∨ (c = 0 ∧ a = 0 ∧ ∃ (N s' t' : Nat) (W : List (List Nat)) (C : List (Int × Int)), n = N ∧ s = s' ∧ t = t' ∧ GoodGraph N l ∧ ApOk N l s' t' W C ∧ IsRows w' wv (W.map ints) ∧ IsEdges w' cv C))
theorem look_graph {n s t : Int} {l : List (Int × Int)} {a : Int} (h : LookSpec n l s t 0 a) : GoodGraph n l := by
  rcases h with ⟨-, h⟩ | ⟨h, -⟩
  · exact absurd rfl h
  · exact h.good.1

theorem takeF_at {L : List (Int × Int)} {k : Nat} {e : Int × Int} (hk : k < L.length) (he : L.getD k (0, 0) = e) : L.take (k + 1) = L.take k ++ [e] := by
  have : L.getD k (0, 0) = L[k] := by simp [List.getD, hk]
  rw [List.take_succ_eq_append_getElem hk, ← this, he]
theorem takeF_yes {L : List (Int × Int)} {k : Nat} {e : Int × Int} {p : Int × Int → Bool} (hk : k < L.length) (he : L.getD k (0, 0) = e) (h : p e = true) : (L.take (k + 1)).filter p = (L.take k).filter p ++ [e] := by
  rw [takeF_at hk he, List.filter_append]; simp [h]
theorem takeF_no {L : List (Int × Int)} {k : Nat} {e : Int × Int} {p : Int × Int → Bool} (hk : k < L.length) (he : L.getD k (0, 0) = e) (h : p e = false) : (L.take (k + 1)).filter p = (L.take k).filter p := by
  rw [takeF_at hk he, List.filter_append]; simp [h]

set_option maxHeartbeats 6400000 in
set_option maxRecDepth 100000 in
theorem apart_any (n s t : Int) (l : List (Int × Int)) (sv : Value) (w : World) (h : IsEdges w sv l) :
    Calls Try.prog 25 #[.agg #[.int .i64 n, sv], .int .i64 s, .int .i64 t] w (ApPost n l s t w) := by
  obtain ⟨ad, cap, rfl⟩ : ∃ ad cap, sv = .slice ad l.length cap := by
    obtain ⟨a, c, _, _, rfl, _⟩ := h
    exact ⟨a, c, rfl⟩
  have hg := (GRes.start w n (.slice ad l.length cap)).zero
  have He := Lib.hid h; have Hg := Lib.hid hg
  obtain ⟨cn, cs, b0, b1, d0, d1, hBl, hAB⟩ := hg.facts
  clear h hg
  go_enter Try.func25, Try.ntmps25
  go_upto_region 1 with fail
  generalize (w.alloc (Obj.cells #[.int .i64 n, .slice ad l.length cap] 24)).alloc (Obj.cells #[Value.int IntKind.i64 0, Value.int IntKind.i64 0] 28) = w1 at *
  go_upto_region 2 with (go_at_call 41; refine (lookF_any n s t l _ w1 (He.out.below Hg.out.hb)).mono ?_; rintro e w2 ⟨c, a, hsp, rfl, hb2⟩; have Hsp := Lib.hid hsp; have H3 := Lib.hid (Hg.out.below (upt hb2 (below1 w2 (Obj.cells #[.int .i64 c, .int .i64 a] 28)))); have F3 := Lib.hid (FV.new w2 c a); clear hsp hb2)
  generalize w2.alloc (Obj.cells #[.int .i64 c, .int .i64 a] 28) = w3 at *
  generalize w2.heap.size = F at *
  clear cn cs b0 b1 d0 d1 hBl hAB Hg
  obtain ⟨cn, cs, b0, b1, d0, d1, hBl, hAB⟩ := H3.out.facts
  obtain ⟨f0, f1, -, -, -⟩ := F3.out.facts
  by_cases hc : c = 0
  · subst hc
    have hgood := look_graph Hsp.out
    obtain ⟨rfl, hn0, hn1, hl, hok2, hs0, hsn, ht0, htn, hne⟩ := look_good Hsp.out
    obtain ⟨N, rfl⟩ := Int.eq_ofNat_of_zero_le hn0
    obtain ⟨s, rfl⟩ := Int.eq_ofNat_of_zero_le hs0
    obtain ⟨t, rfl⟩ := Int.eq_ofNat_of_zero_le ht0
    have hN : N ≤ 100 := by omega
    have hsN : s < N := by omega
    have htN : t < N := by omega
    have Hst := Lib.hid (show s ≠ t by omega)
    have Hgood := Lib.hid hgood
    have Hok := Lib.hid (fun j hj => (hok2 j hj).1)
    have hz1 : ∀ j, j < l.length → 0 ≤ (onesL l.length).getD j 0 ∧ (onesL l.length).getD j 0 ≤ 1000000 := fun j hj => by
      have : (onesL l.length).getD j 0 = 1 := by simp [onesL, List.getD, hj]
      omega
    have Hz1 := Lib.hid hz1
    clear hok2 hn0 hn1 hs0 hsn ht0 htn hne hz1 hgood
    go_upto_region 4 with fail
    clear f0 f1 F3
    have q0 : w3.drew.cell? ⟨w.heap.size, 0, none⟩ = some (.int .i64 (N : Int)) ∧ w3.drew.cell? ⟨w.heap.size, 1, none⟩ = some (.slice ad l.length cap) := ⟨cn, cs⟩
    have hd : Below w3.heap.size w3 w3.drew := (Below.refl _ _).drew
    have he3 := He.out.below H3.out.hb
    have He3 := Lib.hid he3
    clear he3
    go_cut [10] from 31 to 36 (fun s10 wx => ∃ base bP bA V, s10 = .pointer (some ⟨bP, 0, none⟩) ∧ PB wx base bP bA N V (netX (apL l)) ∧ w3.heap.size ≤ bP ∧ w3.heap.size ≤ bA ∧ Below w3.heap.size w3 wx)
    case first =>
      go_region_held3 (fun w' => w'.cell? ⟨w.heap.size, 0, none⟩ = some (.int .i64 (N : Int)) ∧ w'.cell? ⟨w.heap.size, 1, none⟩ = some (.slice ad l.length cap))
        (first | exact q2 | exact q1 | exact q0)
        (first
          | (go_at_call 43; refine (ones_any l.length _ hl).mono ?_; rintro e wp ⟨ap, kp, rfl, hip, hbp⟩; have h1 := upt hd hbp; have q1 := And.intro (below_cell hbp q0.1) (below_cell hbp q0.2))
          | (go_at_call 42; refine (fboth_any l (onesL l.length) N _ _ _ (He3.out.below h1) hip (by simp) hN hl Hok.out Hz1.out).mono ?_; rintro e wq ⟨base, bP, bA, V, rfl, hp, hlP, hlA, hbq⟩; have h2 := upt h1 hbq; have q2 := And.intro (below_cell hbq q1.1) (below_cell hbq q1.2)))
      all_goals
        go_wp2_with fail
        go_meet
        exact ⟨base, bP, bA, V, rfl, hp, Nat.le_trans h1.size hlP, Nat.le_trans h1.size hlA, h2⟩
    case rest =>
    obtain ⟨w4, rfl⟩ : ∃ w4 : World, w4 = wc := ⟨_, rfl⟩
    obtain ⟨base, bP, bA, V, rfl, hp, hlP, hlA, hb4⟩ := hcut
    have hbase : w3.heap.size < base := Nat.lt_of_le_of_lt hlP hp.lt.1
    have hPA : bP ≠ bA := hp.ne
    have hltP : bP < base := hp.lt.1
    have hltA : bA < base := hp.lt.2
    have Hp := Lib.hid hp; have Hb := Lib.hid hb4
    have H4 := Lib.hid (H3.out.below hb4)
    have harc : ∀ j, j < (apL l).length → ArcOk (N : Int) ((apL l).getD j (0, 0, 0)) := bothN_ok Hok.out Hz1.out (Nat.le_refl _)
    have hmlen := apL_length l
    have hNO := netOk (l := apL l) (N := N) (by omega) (by omega) harc
    have Harc := Lib.hid harc; have HNO := Lib.hid hNO
    obtain ⟨m, hm⟩ : ∃ m, m = (apL l).length := ⟨_, rfl⟩
    have Hm := Lib.hid hm
    have hma : m ≤ 2 * l.length := by omega
    have hmb : 2 * l.length ≤ m := by omega
    clear hp hb4 harc hNO hmlen hm cn cs b0 b1 d0 d1 hBl hAB q0 hd
    go_upto_region 6 with (go_at_call 44; refine (fmost_any base bP bA N (2 * (apL l).length) s t V (netX (apL l)) w4 hsN htN Hst.out HNO.out (net_few Harc.out) Hp.out).mono ?_; rintro e w10 ⟨sum, X, lev, rfl, hp10, hsent, hlev, hlvt, hch⟩; have hb10 := hch.toBelow (B := w3.heap.size) Hb.out.size (fun k hk hS => by have h1 := Hp.out.ge (show 1 < N + 2 by omega) hS; omega); have Hp10 := Lib.hid hp10; have Hb10 := Lib.hid (Hb.out.trans hb10); have Hsent := Lib.hid hsent; have Hlev := Lib.hid hlev; have Hlvt := Lib.hid hlvt; clear hp10 hsent hlev hlvt hch hb10)
    have hX0l : (X 0).length = 2 * m := by rw [Hm.out]; exact Hsent.out.ok.toL
    have hX1l : (X 1).length = 2 * m := by rw [Hm.out]; exact Hsent.out.ok.leftL
    obtain ⟨a0, c0, e0⟩ := Hp10.out.form (show 0 < N + 2 by omega)
    have p0 := Hp10.out.rP.cell (show 0 < 3 by omega)
    simp only [if_true] at p0
    rw [e0, hX0l] at p0
    have lP := Hp10.out.rP.lt
    obtain ⟨M2, hM2⟩ : ∃ M2, M2 = 2 * m := ⟨_, rfl⟩
    have hMa : M2 ≤ 2 * m := by omega
    have hMb : 2 * m ≤ M2 := by omega
    rw [← hM2] at p0
    have hdiv : ((M2 : Nat) : Int) / 2 = (m : Int) := by omega
    have hmk := run_make_row' (P := Try.prog) 25 3 (.int .i64 0) 8 Try.underlying25 info3 rfl .i64 .i64 m (by omega) (by omega)
    clear e0 hM2
    go_upto_region 7 with fail
    have HF11 := Lib.hid (World.rowIs_made w10 (.int .i64 0) m 3)
    have HP11 := Lib.hid (Hp10.out.alloc (.cells (madeCells #[Value.int .i64 0] m) 3))
    have Hb11 := Lib.hid (Hb10.out.alloc Hb10.out.size (.cells (madeCells #[Value.int .i64 0] m) 3))
    have HOw := Lib.hid (show ∀ r, r < N + 2 → (V r).ownBlock ≠ some w10.heap.size from fun r hr e => Nat.lt_irrefl _ ((Hp10.out.owns hr).lt _ e).2)
    have hbF : base ≤ w10.heap.size := Hp10.out.sz
    clear p0 lP hdiv hmk hMa hMb
    generalize w10.alloc (.cells (madeCells #[Value.int .i64 0] m) 3) = w11 at *
    generalize w10.heap.size = bF at *
    have cs := (H3.out.below Hb11.out).cs
    have lA := World.block_lt_of_cell? _ _ cs
    simp only at lA
    go_wp2
    clear cs lA
    have hMO : MostOk N (2 * (apL l).length) (apL l) s t sum X lev := ⟨Hsent.out, Hlev.out, Hlvt.out⟩
    obtain ⟨hst0, hf1, hsum⟩ := ap_start Hgood.out hMO hsN
    have HMO := Lib.hid hMO
    have Hst0 := Lib.hid hst0
    have Hf1 := Lib.hid hf1
    have Hcap := Lib.hid (show ∀ k, k < (apL l).length → leftX X (2 * k) + leftX X (2 * k + 1) = 1 from fun k hk => by
      have h1 := Hsent.out.sums (2 * k) (by omega)
      rw [xor_one_even (i := 2 * k) rfl] at h1
      rw [h1, net_caps hk]
      rw [apL_length] at hk
      obtain ⟨X', Y', -, -, -, -, -, -, a, -, -, b⟩ := apL_arc Hgood.out (show k / 2 < l.length by omega)
      rcases (show k = 2 * (k / 2) ∨ k = 2 * (k / 2) + 1 by omega) with e | e
      · rw [e]; exact a
      · rw [e]; exact b)
    clear hMO hst0 hf1
    go_loopg [51] l.length (fun g s51 wr => ∃ i : Nat, i ≤ l.length ∧ g = l.length - i ∧ s51 = .int .i64 (i : Int) ∧ wr.rowIs bF 3 m (rn fun k => if k < 2 * i then apF (fun q => leftX X (2 * q + 1)) k else 0) ∧ Chg (fun q => q = bF) w11 wr)
    case atStart => exact ⟨0, Nat.zero_le _, rfl, rfl, HF11.out.congr (fun k _ => by simp [rn]), Chg.refl _ _⟩
    case round =>
      obtain ⟨i, hi, rfl, rfl, hrow, hch⟩ := hrel
      have Hrow := Lib.hid hrow; have Hch := Lib.hid hch
      by_cases him : i < l.length
      · obtain ⟨g1, k1, e1, -, -, hlook⟩ := HP11.out.look (show 1 < N + 2 by omega) (by rw [hX1l]; omega)
        have hg1 : g1 ≠ bF := fun e => HOw.out 1 (by omega) (by rw [e1, e]; rfl)
        have p1 := hch.cell (HP11.out.rP.cell (show 1 < 3 by omega)) (show ¬ bP = bF by omega)
        simp only [show ¬ (1 : Nat) = 0 by omega, if_false, if_true] at p1
        rw [e1, hX1l] at p1
        have ca := hch.cell (hlook (4 * i) (by rw [hX1l]; omega)).1 (show ¬ g1 = bF from hg1)
        have cb := hch.cell (hlook (4 * i + 2) (by rw [hX1l]; omega)).1 (show ¬ g1 = bF from hg1)
        have tc0 := hrow.cell (show 2 * i < m by omega)
        have tc1 := hrow.cell (show 2 * i + 1 < m by omega)
        have za := hrow.frozen (2 * i)
        have zb := hrow.frozen (2 * i + 1)
        have tl := hrow.lt
        simp only [rn] at tc0 tc1
        have hwA : IntKind.i64.wrap (4 * (i : Int)) = ((4 * i : Nat) : Int) := wrap_nat (n := 4 * i) (by omega)
        have hwB : IntKind.i64.wrap (((4 * i : Nat) : Int) + 2) = ((4 * i + 2 : Nat) : Int) := wrap_nat (n := 4 * i + 2) (by omega)
        have hwC : IntKind.i64.wrap (2 * (i : Int)) = ((2 * i : Nat) : Int) := wrap_nat (n := 2 * i) (by omega)
        have hwD : IntKind.i64.wrap (((2 * i : Nat) : Int) + 1) = ((2 * i + 1 : Nat) : Int) := wrap_nat (n := 2 * i + 1) (by omega)
        have hcA := Hcap.out (2 * i) (by rw [← Hm.out]; omega)
        have hcB := Hcap.out (2 * i + 1) (by rw [← Hm.out]; omega)
        rw [show 2 * (2 * i) = 4 * i by omega] at hcA
        rw [show 2 * (2 * i + 1) = 4 * i + 2 by omega] at hcB
        have hxA : (X 1).getD (4 * i) 0 = leftX X (4 * i) := rfl
        have hxB : (X 1).getD (4 * i + 2) 0 = leftX X (4 * i + 2) := rfl
        rw [hxA] at ca
        rw [hxB] at cb
        have hfa : leftX X (2 * (2 * i) + 1) = 1 - leftX X (4 * i) := by rw [show 2 * (2 * i) + 1 = 4 * i + 1 by omega]; omega
        have hfb : leftX X (2 * (2 * i + 1) + 1) = 1 - leftX X (4 * i + 2) := by rw [show 2 * (2 * i + 1) + 1 = 4 * i + 2 + 1 by omega]; omega
        have hxa : leftX X (4 * i) = 0 ∨ leftX X (4 * i) = 1 := by omega
        have hxb : leftX X (4 * i + 2) = 0 ∨ leftX X (4 * i + 2) = 1 := by omega
        generalize leftX X (4 * i) = x0 at ca hfa hxa
        generalize leftX X (4 * i + 2) = x1 at cb hfb hxb
        have Hfa := Lib.hid hfa
        have Hfb := Lib.hid hfb
        clear hrow hch e1 hlook hcA hcB hfa hfb hxA hxB
        rcases hxa with rfl | rfl <;> rcases hxb with rfl | rfl
        · have HA := Lib.hid (show apF (fun q => leftX X (2 * q + 1)) (2 * i) = 0 by rw [apF_even, Hfa.out, Hfb.out])
          have HB := Lib.hid (show apF (fun q => leftX X (2 * q + 1)) (2 * i + 1) = 0 by rw [apF_odd, Hfa.out, Hfb.out])
          go_upto_region 10 with fail
          go_quiet (fail)
          have hq := Below.drewN' (Below.refl wr.heap.size wr) nq
          have Hr2 := Lib.hid (Hrow.out.of_block (hq.block _ tl))
          have Hch3 := Lib.hid (Hch.out.drewN nq)
          clear hq za zb tl ca cb tc0 tc1 p1
          generalize wr.drewN nq = wq at *
          have tc0 := Hr2.out.cell (show 2 * i < m by omega)
          have tc1 := Hr2.out.cell (show 2 * i + 1 < m by omega)
          simp only [rn] at tc0 tc1
          have za := Hr2.out.frozen (2 * i)
          have zb := Hr2.out.frozen (2 * i + 1)
          have tl := Hr2.out.lt
          go_wp2
          go_roundg (l.length - (i + 1))
          case measure => go_light; omega
          case rel => exact ⟨i + 1, by omega, rfl, by go_num, (row_set_rn (row_set_rn Hr2.out (2 * i) 0) (2 * i + 1) 0).congr (fun q _ => by
            simp only [rn]
            by_cases e1 : q = 2 * i + 1
            · subst e1; rw [if_pos rfl, if_pos (by omega), HB.out]
            · rw [if_neg e1]
              by_cases e2 : q = 2 * i
              · subst e2; rw [if_pos rfl, if_pos (by omega), HA.out]
              · rw [if_neg e2]
                have : (q < 2 * (i + 1)) ↔ q < 2 * i := by omega
                simp only [this]), (Hch3.out.setCell (p := ⟨bF, 2 * i, none⟩) (fun _ => rfl) _).setCell (p := ⟨bF, 2 * i + 1, none⟩) (fun _ => rfl) _⟩
        · have HA := Lib.hid (show apF (fun q => leftX X (2 * q + 1)) (2 * i) = 1 by rw [apF_even, Hfa.out, Hfb.out])
          have HB := Lib.hid (show apF (fun q => leftX X (2 * q + 1)) (2 * i + 1) = 0 by rw [apF_odd, Hfa.out, Hfb.out])
          go_upto_region 10 with fail
          go_quiet (fail)
          have hq := Below.drewN' (Below.refl wr.heap.size wr) nq
          have Hr2 := Lib.hid (Hrow.out.of_block (hq.block _ tl))
          have Hch3 := Lib.hid (Hch.out.drewN nq)
          clear hq za zb tl ca cb tc0 tc1 p1
          generalize wr.drewN nq = wq at *
          have tc0 := Hr2.out.cell (show 2 * i < m by omega)
          have tc1 := Hr2.out.cell (show 2 * i + 1 < m by omega)
          simp only [rn] at tc0 tc1
          have za := Hr2.out.frozen (2 * i)
          have zb := Hr2.out.frozen (2 * i + 1)
          have tl := Hr2.out.lt
          go_wp2
          go_roundg (l.length - (i + 1))
          case measure => go_light; omega
          case rel => exact ⟨i + 1, by omega, rfl, by go_num, (row_set_rn (row_set_rn Hr2.out (2 * i) 1) (2 * i + 1) 0).congr (fun q _ => by
            simp only [rn]
            by_cases e1 : q = 2 * i + 1
            · subst e1; rw [if_pos rfl, if_pos (by omega), HB.out]
            · rw [if_neg e1]
              by_cases e2 : q = 2 * i
              · subst e2; rw [if_pos rfl, if_pos (by omega), HA.out]
              · rw [if_neg e2]
                have : (q < 2 * (i + 1)) ↔ q < 2 * i := by omega
                simp only [this]), (Hch3.out.setCell (p := ⟨bF, 2 * i, none⟩) (fun _ => rfl) _).setCell (p := ⟨bF, 2 * i + 1, none⟩) (fun _ => rfl) _⟩
        · have HA := Lib.hid (show apF (fun q => leftX X (2 * q + 1)) (2 * i) = 0 by rw [apF_even, Hfa.out, Hfb.out])
          have HB := Lib.hid (show apF (fun q => leftX X (2 * q + 1)) (2 * i + 1) = 1 by rw [apF_odd, Hfa.out, Hfb.out])
          go_upto_region 10 with fail
          go_quiet (fail)
          have hq := Below.drewN' (Below.refl wr.heap.size wr) nq
          have Hr2 := Lib.hid (Hrow.out.of_block (hq.block _ tl))
          have Hch3 := Lib.hid (Hch.out.drewN nq)
          clear hq za zb tl ca cb tc0 tc1 p1
          generalize wr.drewN nq = wq at *
          have tc0 := Hr2.out.cell (show 2 * i < m by omega)
          have tc1 := Hr2.out.cell (show 2 * i + 1 < m by omega)
          simp only [rn] at tc0 tc1
          have za := Hr2.out.frozen (2 * i)
          have zb := Hr2.out.frozen (2 * i + 1)
          have tl := Hr2.out.lt
          go_wp2
          go_roundg (l.length - (i + 1))
          case measure => go_light; omega
          case rel => exact ⟨i + 1, by omega, rfl, by go_num, (row_set_rn (row_set_rn Hr2.out (2 * i) 0) (2 * i + 1) 1).congr (fun q _ => by
            simp only [rn]
            by_cases e1 : q = 2 * i + 1
            · subst e1; rw [if_pos rfl, if_pos (by omega), HB.out]
            · rw [if_neg e1]
              by_cases e2 : q = 2 * i
              · subst e2; rw [if_pos rfl, if_pos (by omega), HA.out]
              · rw [if_neg e2]
                have : (q < 2 * (i + 1)) ↔ q < 2 * i := by omega
                simp only [this]), (Hch3.out.setCell (p := ⟨bF, 2 * i, none⟩) (fun _ => rfl) _).setCell (p := ⟨bF, 2 * i + 1, none⟩) (fun _ => rfl) _⟩
        · have HA := Lib.hid (show apF (fun q => leftX X (2 * q + 1)) (2 * i) = 0 by rw [apF_even, Hfa.out, Hfb.out])
          have HB := Lib.hid (show apF (fun q => leftX X (2 * q + 1)) (2 * i + 1) = 0 by rw [apF_odd, Hfa.out, Hfb.out])
          go_upto_region 10 with fail
          go_quiet (fail)
          have hq := Below.drewN' (Below.refl wr.heap.size wr) nq
          have Hr2 := Lib.hid (Hrow.out.of_block (hq.block _ tl))
          have Hch3 := Lib.hid (Hch.out.drewN nq)
          clear hq za zb tl ca cb tc0 tc1 p1
          generalize wr.drewN nq = wq at *
          have tc0 := Hr2.out.cell (show 2 * i < m by omega)
          have tc1 := Hr2.out.cell (show 2 * i + 1 < m by omega)
          simp only [rn] at tc0 tc1
          have za := Hr2.out.frozen (2 * i)
          have zb := Hr2.out.frozen (2 * i + 1)
          have tl := Hr2.out.lt
          go_wp2
          go_roundg (l.length - (i + 1))
          case measure => go_light; omega
          case rel => exact ⟨i + 1, by omega, rfl, by go_num, (row_set_rn (row_set_rn Hr2.out (2 * i) 0) (2 * i + 1) 0).congr (fun q _ => by
            simp only [rn]
            by_cases e1 : q = 2 * i + 1
            · subst e1; rw [if_pos rfl, if_pos (by omega), HB.out]
            · rw [if_neg e1]
              by_cases e2 : q = 2 * i
              · subst e2; rw [if_pos rfl, if_pos (by omega), HA.out]
              · rw [if_neg e2]
                have : (q < 2 * (i + 1)) ↔ q < 2 * i := by omega
                simp only [this]), (Hch3.out.setCell (p := ⟨bF, 2 * i, none⟩) (fun _ => rfl) _).setCell (p := ⟨bF, 2 * i + 1, none⟩) (fun _ => rfl) _⟩
      · obtain rfl : l.length = i := by omega
        have HrF := Lib.hid (hrow.congr (f := rn fun k => if k < 2 * l.length then apF (fun q => leftX X (2 * q + 1)) k else 0) (g := rn (apF fun q => leftX X (2 * q + 1))) (fun k hk => by simp only [rn, if_pos (show k < 2 * l.length by omega)]))
        have hbF13 := hrow.lt
        clear hrow Hrow
        obtain ⟨w13, rfl⟩ : ∃ w13 : World, w13 = wr := ⟨_, rfl⟩
        have Hbr := Lib.hid (Hb11.out.trans (hch.toBelow (B := w3.heap.size) Hb11.out.size (fun k hk hs => by omega)))
        have hz13b : base ≤ w13.heap.size := by have := Hch.out.size; have := HP11.out.sz; omega
        have Hf1' := Lib.hid (show ∀ k, (fun q => leftX X (2 * q + 1)) k ≤ 1 from fun k => by
          show leftX X (2 * k + 1) ≤ 1
          by_cases e : k < (apL l).length
          · exact Hf1.out k e
          · have h2 : leftX X (2 * k + 1) = 0 := by
              have hX1l : (X 1).length = 2 * (apL l).length := Hsent.out.ok.leftL
              show (X 1).getD _ 0 = 0
              rw [List.getD, List.getElem?_eq_none (by omega)]
              rfl
            omega)
        clear hch
        generalize hff : (fun q => leftX X (2 * q + 1)) = f at *
        go_wp2
        go_loopg [6, 92] sum (fun g s6 s92 wr => ∃ (i : Nat) (F' : Nat → Nat) (W : List (List Nat)) (KK : List Nat), i ≤ sum ∧ g = sum - i ∧ s92 = .int .i64 (i : Int) ∧ W.length = i ∧ ApI N s t l f (sum - i) F' W KK ∧ Copied w13.heap.size wr s6 i (W.map ints) ∧ wr.rowIs bF 3 m (rn F') ∧ Chg (fun q => q = bF) w13 wr)
        case atStart => exact ⟨0, apF f, [], [], Nat.zero_le _, rfl, rfl, rfl, Hst0.out, ⟨[], World.ownsRow_nil _ _ _ _, fun j hj => absurd hj (Nat.not_lt_zero _)⟩, HrF.out, Chg.refl _ _⟩
        case round =>
          obtain ⟨i, F', W, KK, hi, rfl, rfl, hWl, hways, hcop, hrow, hch⟩ := hrel
          obtain ⟨vals, hvown, hvrow⟩ := hcop
          obtain ⟨a6, c6, rfl⟩ := ownsRow_form hvown
          have Hways := Lib.hid hways; have Hcop := Lib.hid (show Copied w13.heap.size wr (.slice a6 i c6) i (W.map ints) from ⟨vals, hvown, hvrow⟩); have Hrow' := Lib.hid hrow; have Hch' := Lib.hid hch
          have HWl := Lib.hid hWl
          have Hch5 := Lib.hid (Hch.out.trans hch)
          have HP5 := Lib.hid (HP11.out.chg Hch5.out (show bF ≠ bP by omega) (show bF ≠ bA by omega) HOw.out)
          have hbr5 := Hbr.out.trans (hch.toBelow (B := w3.heap.size) Hbr.out.size (fun k hk hs => by omega))
          have Hbr5 := Lib.hid hbr5
          by_cases his : i < sum
          · have hsplit : sum - i = (sum - (i + 1)) + 1 := by omega
            have hways' : ApI N s t l f ((sum - (i + 1)) + 1) F' W KK := by rw [← hsplit]; exact hways
            have hI0 : ApInv N s t l (sum - (i + 1)) F' s := hways'.begin hsN Hf1'.out
            have Hways' := Lib.hid hways'
            have Hfol := Lib.hid (show Calls Try.prog 46 #[.pointer (some ⟨bP, 0, none⟩), .int .i64 (s : Int), .int .i64 (t : Int), .slice (some ⟨bF, 0, none⟩) m m] wr (FollowPost (apL l) s t bF F' (ApInv N s t l (sum - (i + 1))) wr) from by
              have h1 := follow_any (apL l) base bP bA bF N s t V X F' (ApInv N s t l (sum - (i + 1))) wr Hsent.out.ok (fun q hq => Hsent.out.same q hq) (by rw [← Hm.out]; omega) HP5.out (by rw [← Hm.out]; exact hrow) ⟨by omega, by omega, HOw.out⟩ (by
                rw [← Hm.out]
                have := allF_le (c := 1) (F := F') m (fun k _ => hI0.2.2 k)
                omega) htN (fun G v hG => ⟨hG.2.1, fun k _ => by have := hG.2.2 k; omega⟩) (fun G v hG hv => hG.on Hst.out hv) (fun G v k hG hv hk hf h0 => hG.step Hgood.out hk hf h0) hI0
              rwa [← Hm.out] at h1)
            clear hI0 hways' hsplit hvown hvrow hways hrow hch hbr5 hWl
            go_wp2_with (first
              | (go_at_call 46; refine Hfol.out.mono ?_; rintro e w14 ⟨v14, F2, P, K, rfl, hown, htr, hend, hinv, hrow2, hch6, hPl⟩; obtain ⟨a1, c1, rfl⟩ := ownsRow_form hown; have Hown := Lib.hid hown; have Htr := Lib.hid htr; have Hend := Lib.hid hend; have Hinv := Lib.hid hinv; have Hrow2 := Lib.hid hrow2; have Hch6 := Lib.hid hch6; have Hplt := Lib.hid (ap_trail_lt Hgood.out hsN htr); have hz14 := hch6.size; clear hown htr hend hinv hrow2 hch6)
              | (go_at_call 45; refine (straight_any P (.slice a1 P.length c1) w14 (by omega) (fun i hi => by have := Hplt.out i hi; omega) (IsInts.owned Hown.out)).mono ?_; rintro e w16 ⟨v16, o, rfl, hso, hown4, hb4⟩; obtain ⟨a7, c7, rfl⟩ := ownsRow_form hown4; obtain ⟨vals, hvown, hvrow⟩ := Hcop.out.chg (Hch6.out.trans (Chg.ofBelow hb4)) hbF13; have Hso := Lib.hid hso; have Hown4 := Lib.hid (ownsRow_low hown4 (show w13.heap.size ≤ w14.heap.size from Nat.le_trans Hch'.out.size hz14)); have Hvown := Lib.hid hvown; have Hvrow := Lib.hid hvrow; have Hb4 := Lib.hid hb4; have hz16 := hb4.size; have hz13 := Hch'.out.size; clear hso hown4 hvown hvrow hb4)
              | (at_builtin; refine wpList_append_has rfl (.tmp 94) (.tmp 101) 48 rfl w13.heap.size 25 (.slice none 0 0) 24 Try.underlying48 infoS rfl _ i vals rfl (Hvown.out.alloc _) _ 1 [.slice a7 o.length c7] rfl (HasCells.one _ _ _ rfl) (by omega) (by omega) (by rw [World.size_alloc]; omega) ?_; intro a5 c5 w17 hown5 hg5; have Hown5 := Lib.hid hown5; have Hg5 := Lib.hid hg5; clear hown5 hg5))
            go_roundg (sum - (i + 1))
            case measure => go_light; omega
            case rel => exact ⟨i + 1, F2, W ++ [o], KK ++ K, by omega, rfl, by go_num, by rw [List.length_append, HWl.out]; rfl,
              ApI.more Hgood.out Hways'.out (fun k _ => Hf1'.out k) Hst.out hsN Htr.out Hend.out Hinv.out.fin Hso.out, by
              have h1 := Copied.app (W := W) (o := o) (by rw [HWl.out]; exact Hvown.out) (by rw [HWl.out]; exact Hvrow.out) Hown4.out (by rw [HWl.out]; exact Hown5.out) Hg5.out
              rwa [HWl.out] at h1, by
              have h1 := Hrow2.out
              rw [← Hm.out] at h1
              have h2 := h1.of_block (Hb4.out.block _ h1.lt)
              exact (h2.alloc _).of_block (Hg5.out.block _ (by rw [World.size_alloc]; exact Nat.lt_succ_of_lt h2.lt) (fun e => by have := (Hvown.out.lt bF e.symm).1; omega)), ((((Hch'.out.trans Hch6.out).trans (Chg.ofBelow Hb4.out)).alloc _).grown Hg5.out (Hvown.out.alloc _) (Nat.le_refl _))⟩
          · obtain rfl : sum = i := by omega
            have Hw0 := Lib.hid (show ApI N s t l f 0 F' W KK by have := hways; rwa [Nat.sub_self] at this)
            have hlow := hch.size
            obtain ⟨w20, rfl⟩ : ∃ w20 : World, w20 = wr := ⟨_, rfl⟩
            have cn := (H3.out.below hbr5).cn
            have lcn := World.block_lt_of_cell? _ _ cn
            simp only at lcn
            have hmk2 := run_make_row' (P := Try.prog) 40 4 (.bool false) 1 Try.underlying40 info4 rfl .i64 .i64 N (by omega) (by omega)
            clear hvown hvrow hways hrow hch hbr5 hWl
            go_upto_region 18 with fail
            clear hmk2 cn lcn
            have HI0 := Lib.hid (World.rowIs_made w20 (.bool false) N 4)
            have HPs := Lib.hid (HP5.out.alloc (.cells (madeCells #[Value.bool false] N) 4))
            have Hbs := Lib.hid (Hbr5.out.alloc Hbr5.out.size (.cells (madeCells #[Value.bool false] N) 4))
            have HbI := Lib.hid (below1 w20 (.cells (madeCells #[Value.bool false] N) 4))
            generalize w20.alloc (.cells (madeCells #[Value.bool false] N) 4) = w21 at *
            go_wp2_with (go_at_call 47; refine (fside_any base bP bA N (2 * (apL l).length) s V X _ hsN Hsent.out.ok HPs.out).mono ?_; rintro e w22 ⟨lev', v8, rfl, hlev', hown8, hb8⟩; obtain ⟨a8, c8, rfl⟩ := ownsRow_form hown8; have HI1 := Lib.hid (HI0.out.of_block (hb8.block _ HI0.out.lt)); have Hlev' := Lib.hid hlev'; have Hside := Lib.hid (IsInts.owned hown8); have Hown8 := Lib.hid (fun g e => (World.ownsRow.lt hown8 g e).1); have hI9 := HI0.out.lt; have Hb22 := Lib.hid (Hbs.out.trans (hb8.mono Hbs.out.size)); have HbJ := Lib.hid (HbI.out.trans (hb8.mono HbI.out.size)); clear hlev' hown8 hb8)
            have hsl := sideL_length lev' N
            have hI10 := HI1.out.lt
            go_loopg [111] (sideL lev' N).length (fun g s111 wx => ∃ k : Nat, k ≤ (sideL lev' N).length ∧ g = (sideL lev' N).length - k ∧ s111 = .int .i64 (k : Int) ∧ wx.rowIs w20.heap.size 4 N (rb fun u => decide (u ∈ (sideL lev' N).take k)) ∧ Chg (fun q => q = w20.heap.size) w22 wx)
            case atStart => exact ⟨0, Nat.zero_le _, rfl, rfl, HI1.out.congr (fun k _ => by simp [rb]), Chg.refl _ _⟩
            case round =>
              obtain ⟨k, hk, rfl, rfl, hrI, hch⟩ := hrel
              have HrI := Lib.hid hrI; have Hch := Lib.hid hch
              by_cases hkl : k < (sideL lev' N).length
              · obtain ⟨b8', o8, e8, h1⟩ := ints_at' Hside.out (Below.refl _ _) hkl
                have hb8' : b8' ≠ w20.heap.size := fun e => by
                  have := Hown8.out b8' (by rw [e8]; rfl)
                  omega
                subst e8
                have c8 := hch.cell h1 (show ¬ b8' = w20.heap.size from hb8')
                have hx := (sideL_at hkl).1
                have hI := hrI.cell hx
                have hIf := hrI.frozen ((sideL lev' N).getD k 0)
                have hIl := hrI.lt
                have hmem : ∀ q, q ∈ (sideL lev' N).take (k + 1) ↔ q ∈ (sideL lev' N).take k ∨ q = (sideL lev' N).getD k 0 := fun q => by
                  rw [List.take_succ_eq_append_getElem hkl, List.mem_append, List.mem_singleton]
                  simp [List.getD, hkl]
                generalize hxx : (sideL lev' N).getD k 0 = x at *
                have Hmem := Lib.hid hmem
                clear hrI hch hxx hmem h1
                simp only [rb] at hI
                go_wp2
                go_roundg ((sideL lev' N).length - (k + 1))
                case measure => go_light; omega
                case rel => exact ⟨k + 1, by omega, rfl, by go_num, row_rb (row_set_rb HrI.out x true) (fun q _ => by
                  by_cases e : q = x
                  · rw [if_pos e]; exact (decide_eq_true ((Hmem.out q).2 (Or.inr e))).symm
                  · rw [if_neg e]
                    have := Hmem.out q
                    simp only [e, or_false] at this
                    simp only [this]), Hch.out.setCell (fun _ => rfl) _⟩
              · obtain rfl : (sideL lev' N).length = k := by omega
                have hrT : wr.rowIs w20.heap.size 4 N (rb fun u => decide (0 ≤ lev' u)) := row_rb hrI fun u hu => by
                  rw [List.take_length]
                  simp only [sideL_mem, hu, true_and]
                have HrT := Lib.hid hrT
                have Hb23 := Lib.hid (Hb22.out.trans (hch.toBelow (B := w3.heap.size) Hb22.out.size (fun k hk hs => by have := Hbr5.out.size; omega)))
                have HbK := Lib.hid (HbJ.out.trans (hch.toBelow (B := w20.heap.size) HbJ.out.size (fun k hk hs => by omega)))
                clear hrI hch hrT HrI Hch HI1 Hside Hown8 hsl hk
                obtain ⟨w23, rfl⟩ : ∃ w23 : World, w23 = wr := ⟨_, rfl⟩
                have cn := (H3.out.below Hb23.out).cn
                have cs := (H3.out.below Hb23.out).cs
                have hI23 := HrT.out.lt
                have Hfm := Lib.hid (form_ok Hgood.out _ _ (He.out.below (H3.out.below Hb23.out).hb))
                have hfl : (formL N l).length ≤ 1000 := by have := form_length Hgood.out; have := Hgood.out.len; unfold formL; omega
                have Hfends := Lib.hid (prs_ends (N := N) (p := adj l))
                go_wp2_with fail
                refine Hfm.out.mono ?_
                rintro e w24 ⟨v24, ho24, hb24, rfl⟩
                obtain ⟨a24, c24, rfl⟩ := ho24.form
                obtain ⟨L', hL'⟩ : ∃ L', L' = formL N l := ⟨_, rfl⟩
                rw [← hL'] at ho24 hfl ⊢
                have HL' := Lib.hid hL'
                have hends : ∀ k, k < L'.length → 0 ≤ (L'.getD k (0, 0)).1 ∧ (L'.getD k (0, 0)).1 < (N : Int) ∧ 0 ≤ (L'.getD k (0, 0)).2 ∧ (L'.getD k (0, 0)).2 < (N : Int) := fun k hk => by
                  have h0 : L'.getD k (0, 0) = L'[k] := by simp [List.getD, hk]
                  have h1 := Hfends.out (L'[k]) (by rw [← show L' = prsTo N (adj l) N from hL']; exact List.getElem_mem hk)
                  rw [h0]; omega
                have Hends := Lib.hid hends
                have b25 := below2 w24 (Obj.cells #[.int .i64 (N : Int), .slice a24 L'.length c24] 24) (Obj.cells #[.int .i64 0, .int .i64 0] 28)
                have e25 := two_cells w24 (.int .i64 (N : Int)) (.slice a24 L'.length c24) 24
                have G25 := Lib.hid (And.intro (below_cell (below1 _ (Obj.cells #[.int .i64 0, .int .i64 0] 28)) e25.1) (below_cell (below1 _ (Obj.cells #[.int .i64 0, .int .i64 0] 28)) e25.2))
                have He25 := Lib.hid (ho24.edges.below b25)
                have B25 := Lib.hid (upb hb24 b25)
                have lG : w24.heap.size < ((w24.alloc (Obj.cells #[.int .i64 (N : Int), .slice a24 L'.length c24] 24)).alloc (Obj.cells #[.int .i64 0, .int .i64 0] 28)).heap.size := by simp; omega
                clear ho24 hb24 b25 e25 hL' hends cn cs
                go_upto_region 24 with fail
                generalize (w24.alloc (Obj.cells #[.int .i64 (N : Int), .slice a24 L'.length c24] 24)).alloc (Obj.cells #[.int .i64 0, .int .i64 0] 28) = w25 at *
                generalize w24.heap.size = GB at *
                have z25 := B25.out.size
                have Hb25 := Lib.hid (Hb23.out.trans (B25.out.mono Hb23.out.size))
                have HbL := Lib.hid (HbK.out.trans (B25.out.mono HbK.out.size))
                have HrT2 := Lib.hid (HrT.out.of_block (B25.out.block _ hI23))
                obtain ⟨adx, capx, bb, o, e0x, hcapx, hmaxx, hadrx, -, hcellx⟩ := He25.out
                simp only [Value.slice.injEq] at e0x
                obtain ⟨rfl, -, rfl⟩ := e0x
                have HE := Lib.hid hcellx
                have g1 := G25.out.2
                clear hcellx
                go_wp2
                clear g1
                go_loopg [7, 127] L'.length (fun g s7 s127 wx => ∃ (k : Nat) (C : List (Int × Int)), k ≤ L'.length ∧ g = L'.length - k ∧ s127 = .int .i64 (k : Int) ∧ C = (L'.take k).filter (overB fun q => decide (0 ≤ lev' q)) ∧ OwnE wx w25.heap.size s7 C ∧ Below w25.heap.size w25 wx)
                case atStart => exact ⟨0, [], Nat.zero_le _, rfl, rfl, rfl, OwnE.nil _ _, Below.refl _ _⟩
                case round =>
                  obtain ⟨k, C, hk, rfl, rfl, hC, hown, hb⟩ := hrel
                  have Ho := Lib.hid hown; have HC := Lib.hid hC; have Hb := Lib.hid hb
                  obtain ⟨a9, c9, rfl⟩ := hown.form
                  have hCl : C.length ≤ k := by rw [hC]; exact Nat.le_trans (List.length_filter_le _ _) (by rw [List.length_take]; omega)
                  by_cases hlt : k < L'.length
                  · obtain rfl := hadrx (by omega)
                    obtain ⟨x, y, Hxy, cx, cy⟩ := edges_at HE.out hb hlt
                    obtain ⟨o1, o2, o3, o4⟩ := Hends.out k hlt
                    rw [Hxy.out] at o1 o2 o3 o4
                    simp only at o1 o2 o3 o4
                    obtain ⟨u, rfl⟩ : ∃ u : Nat, x = u := ⟨x.toNat, by omega⟩
                    obtain ⟨v, rfl⟩ : ∃ v : Nat, y = v := ⟨y.toNat, by omega⟩
                    have Huv := Lib.hid Hxy.out
                    have hr2 := HrT2.out.of_block (hb.block _ HrT2.out.lt)
                    have tu := hr2.cell (show u < N by omega)
                    have tv := hr2.cell (show v < N by omega)
                    simp only [rb] at tu tv
                    generalize hdu : decide (0 ≤ lev' u) = du at tu
                    generalize hdv : decide (0 ≤ lev' v) = dv at tv
                    have Hdu := Lib.hid hdu
                    have Hdv := Lib.hid hdv
                    clear hown hC hb hr2 hdu hdv Hxy
                    rcases du with _ | _ <;> rcases dv with _ | _
                    · have Hyn := Lib.hid (show overB (fun q => decide (0 ≤ lev' q)) ((u : Int), (v : Int)) = false by unfold overB; simp only [Int.toNat_natCast]; rw [Hdu.out, Hdv.out]; rfl)
                      go_upto_region 27 with fail
                      have HoA := Lib.hid (Ho.out.below (below1 _ (Obj.cells #[.int .i64 (u : Int), .int .i64 (v : Int)] 44)))
                      have HbA := Lib.hid (upb Hb.out (below1 _ (Obj.cells #[.int .i64 (u : Int), .int .i64 (v : Int)] 44)))
                      obtain ⟨ce0, ce1⟩ := two_cells wr (.int .i64 (u : Int)) (.int .i64 (v : Int)) 44
                      have lE : wr.heap.size < (wr.alloc (Obj.cells #[.int .i64 (u : Int), .int .i64 (v : Int)] 44)).heap.size := by rw [World.size_alloc]; omega
                      have tu := below_cell (below1 wr (Obj.cells #[.int .i64 (u : Int), .int .i64 (v : Int)] 44)) tu
                      have tv := below_cell (below1 wr (Obj.cells #[.int .i64 (u : Int), .int .i64 (v : Int)] 44)) tv
                      clear cx cy
                      generalize wr.alloc (Obj.cells #[.int .i64 (u : Int), .int .i64 (v : Int)] 44) = wA at *
                      generalize wr.heap.size = E at *
                      go_quiet (fail)
                      have hq := Below.drewN' (Below.refl wA.heap.size wA) nq
                      have HoB := Lib.hid (HoA.out.below hq)
                      have HbB := Lib.hid (upb HbA.out hq)
                      have ce0 := below_cell hq ce0
                      have ce1 := below_cell hq ce1
                      clear hq tu tv lE
                      generalize wA.drewN nq = wB at *
                      go_wp2
                      go_roundg (L'.length - (k + 1))
                      case measure => go_light; omega
                      case rel => exact ⟨k + 1, C, by omega, rfl, by go_num, by rw [takeF_no hlt Huv.out Hyn.out]; exact HC.out, HoB.out, HbB.out⟩
                    · have Hyn := Lib.hid (show overB (fun q => decide (0 ≤ lev' q)) ((u : Int), (v : Int)) = true by unfold overB; simp only [Int.toNat_natCast]; rw [Hdu.out, Hdv.out]; rfl)
                      go_upto_region 27 with fail
                      have HoA := Lib.hid (Ho.out.below (below1 _ (Obj.cells #[.int .i64 (u : Int), .int .i64 (v : Int)] 44)))
                      have HbA := Lib.hid (upb Hb.out (below1 _ (Obj.cells #[.int .i64 (u : Int), .int .i64 (v : Int)] 44)))
                      obtain ⟨ce0, ce1⟩ := two_cells wr (.int .i64 (u : Int)) (.int .i64 (v : Int)) 44
                      have lE : wr.heap.size < (wr.alloc (Obj.cells #[.int .i64 (u : Int), .int .i64 (v : Int)] 44)).heap.size := by rw [World.size_alloc]; omega
                      have tu := below_cell (below1 wr (Obj.cells #[.int .i64 (u : Int), .int .i64 (v : Int)] 44)) tu
                      have tv := below_cell (below1 wr (Obj.cells #[.int .i64 (u : Int), .int .i64 (v : Int)] 44)) tv
                      clear cx cy
                      generalize wr.alloc (Obj.cells #[.int .i64 (u : Int), .int .i64 (v : Int)] 44) = wA at *
                      generalize wr.heap.size = E at *
                      go_quiet (fail)
                      have hq := Below.drewN' (Below.refl wA.heap.size wA) nq
                      have HoB := Lib.hid (HoA.out.below hq)
                      have HbB := Lib.hid (upb HbA.out hq)
                      have ce0 := below_cell hq ce0
                      have ce1 := below_cell hq ce1
                      clear hq tu tv lE
                      generalize wA.drewN nq = wB at *
                      have HoC := Lib.hid (HoB.out.below (below1 wB (Obj.cells #[.int .i64 (u : Int), .int .i64 (v : Int)] 44)))
                      have HbC := Lib.hid (upb HbB.out (below1 wB (Obj.cells #[.int .i64 (u : Int), .int .i64 (v : Int)] 44)))
                      have hszC := HbC.out.size
                      go_wp2_with (at_builtin; refine wpList_append_edges rfl (.tmp 142) (.tmp 144) 22 rfl w25.heap.size Try.underlying22 info2 _ C rfl HoC.out _ [((u : Int), (v : Int))] rfl (edge_one _ _ _ _ rfl) _ rfl (by simp; omega) hszC ?_; intro a5 c5 w5 ho5 hg5; have Hn := Lib.hid ho5; have Hbn := Lib.hid (HbC.out.grown hg5 (by simpa using hszC) (fun g e => (World.ownsRow.lt HoC.out g e).1)); clear hg5 ho5)
                      go_roundg (L'.length - (k + 1))
                      case measure => go_light; omega
                      case rel => exact ⟨k + 1, C ++ [((u : Int), (v : Int))], by omega, rfl, by go_num, by rw [takeF_yes hlt Huv.out Hyn.out, HC.out], by have h9 := Hn.out; simpa only [List.length_append, List.length_cons, List.length_nil, Nat.zero_add] using h9, Hbn.out⟩
                    · have Hyn := Lib.hid (show overB (fun q => decide (0 ≤ lev' q)) ((u : Int), (v : Int)) = true by unfold overB; simp only [Int.toNat_natCast]; rw [Hdu.out, Hdv.out]; rfl)
                      go_upto_region 27 with fail
                      have HoA := Lib.hid (Ho.out.below (below1 _ (Obj.cells #[.int .i64 (u : Int), .int .i64 (v : Int)] 44)))
                      have HbA := Lib.hid (upb Hb.out (below1 _ (Obj.cells #[.int .i64 (u : Int), .int .i64 (v : Int)] 44)))
                      obtain ⟨ce0, ce1⟩ := two_cells wr (.int .i64 (u : Int)) (.int .i64 (v : Int)) 44
                      have lE : wr.heap.size < (wr.alloc (Obj.cells #[.int .i64 (u : Int), .int .i64 (v : Int)] 44)).heap.size := by rw [World.size_alloc]; omega
                      have tu := below_cell (below1 wr (Obj.cells #[.int .i64 (u : Int), .int .i64 (v : Int)] 44)) tu
                      have tv := below_cell (below1 wr (Obj.cells #[.int .i64 (u : Int), .int .i64 (v : Int)] 44)) tv
                      clear cx cy
                      generalize wr.alloc (Obj.cells #[.int .i64 (u : Int), .int .i64 (v : Int)] 44) = wA at *
                      generalize wr.heap.size = E at *
                      go_quiet (fail)
                      have hq := Below.drewN' (Below.refl wA.heap.size wA) nq
                      have HoB := Lib.hid (HoA.out.below hq)
                      have HbB := Lib.hid (upb HbA.out hq)
                      have ce0 := below_cell hq ce0
                      have ce1 := below_cell hq ce1
                      clear hq tu tv lE
                      generalize wA.drewN nq = wB at *
                      have HoC := Lib.hid (HoB.out.below (below1 wB (Obj.cells #[.int .i64 (u : Int), .int .i64 (v : Int)] 44)))
                      have HbC := Lib.hid (upb HbB.out (below1 wB (Obj.cells #[.int .i64 (u : Int), .int .i64 (v : Int)] 44)))
                      have hszC := HbC.out.size
                      go_wp2_with (at_builtin; refine wpList_append_edges rfl (.tmp 142) (.tmp 144) 22 rfl w25.heap.size Try.underlying22 info2 _ C rfl HoC.out _ [((u : Int), (v : Int))] rfl (edge_one _ _ _ _ rfl) _ rfl (by simp; omega) hszC ?_; intro a5 c5 w5 ho5 hg5; have Hn := Lib.hid ho5; have Hbn := Lib.hid (HbC.out.grown hg5 (by simpa using hszC) (fun g e => (World.ownsRow.lt HoC.out g e).1)); clear hg5 ho5)
                      go_roundg (L'.length - (k + 1))
                      case measure => go_light; omega
                      case rel => exact ⟨k + 1, C ++ [((u : Int), (v : Int))], by omega, rfl, by go_num, by rw [takeF_yes hlt Huv.out Hyn.out, HC.out], by have h9 := Hn.out; simpa only [List.length_append, List.length_cons, List.length_nil, Nat.zero_add] using h9, Hbn.out⟩
                    · have Hyn := Lib.hid (show overB (fun q => decide (0 ≤ lev' q)) ((u : Int), (v : Int)) = false by unfold overB; simp only [Int.toNat_natCast]; rw [Hdu.out, Hdv.out]; rfl)
                      go_upto_region 27 with fail
                      have HoA := Lib.hid (Ho.out.below (below1 _ (Obj.cells #[.int .i64 (u : Int), .int .i64 (v : Int)] 44)))
                      have HbA := Lib.hid (upb Hb.out (below1 _ (Obj.cells #[.int .i64 (u : Int), .int .i64 (v : Int)] 44)))
                      obtain ⟨ce0, ce1⟩ := two_cells wr (.int .i64 (u : Int)) (.int .i64 (v : Int)) 44
                      have lE : wr.heap.size < (wr.alloc (Obj.cells #[.int .i64 (u : Int), .int .i64 (v : Int)] 44)).heap.size := by rw [World.size_alloc]; omega
                      have tu := below_cell (below1 wr (Obj.cells #[.int .i64 (u : Int), .int .i64 (v : Int)] 44)) tu
                      have tv := below_cell (below1 wr (Obj.cells #[.int .i64 (u : Int), .int .i64 (v : Int)] 44)) tv
                      clear cx cy
                      generalize wr.alloc (Obj.cells #[.int .i64 (u : Int), .int .i64 (v : Int)] 44) = wA at *
                      generalize wr.heap.size = E at *
                      go_quiet (fail)
                      have hq := Below.drewN' (Below.refl wA.heap.size wA) nq
                      have HoB := Lib.hid (HoA.out.below hq)
                      have HbB := Lib.hid (upb HbA.out hq)
                      have ce0 := below_cell hq ce0
                      have ce1 := below_cell hq ce1
                      clear hq tu tv lE
                      generalize wA.drewN nq = wB at *
                      go_wp2
                      go_roundg (L'.length - (k + 1))
                      case measure => go_light; omega
                      case rel => exact ⟨k + 1, C, by omega, rfl, by go_num, by rw [takeF_no hlt Huv.out Hyn.out]; exact HC.out, HoB.out, HbB.out⟩
                  · obtain rfl : L'.length = k := by omega
                    have hno : lev' t < 0 := Hlev.out.shut Hlev'.out (by omega) Hlvt.out
                    have hmo : MostOk N (2 * (apL l).length) (apL l) s t sum X lev' := ⟨Hsent.out, Hlev'.out, hno⟩
                    have hap := ap_ok Hgood.out hmo hsN Hw0.out HWl.out
                    have hCc : C = cutC l N fun q => decide (0 ≤ lev' q) := by
                      rw [hC, List.take_length]
                      unfold cutC
                      rw [HL'.out]
                    rw [← hCc] at hap
                    have Hap := Lib.hid hap
                    have Hb20 := Lib.hid (HbL.out.trans (hb.mono HbL.out.size))
                    have Hcop9 := Lib.hid (Hcop.out.chg (Chg.ofBelow Hb20.out) hbF13)
                    have hbz := Hb25.out.trans (hb.mono Hb25.out.size)
                    have H9 := Lib.hid (H3.out.below hbz)
                    obtain ⟨cn9, cs9, b0, b1, d0, d1, hBl, hAB⟩ := H9.out.facts
                    clear hown hC hb hbz hno hmo hap hCc cn9 cs9
                    obtain ⟨w26, rfl⟩ : ∃ w26 : World, w26 = wr := ⟨_, rfl⟩
                    go_upto_region 30 with fail
                    go_region
                    all_goals
                      obtain ⟨e0, e1, e2⟩ := H9.out.res 0 0
                      have hl8 : w.heap.size + 1 < w25.heap.size := by have := Hb25.out.size; have := H3.out.hf.lt; omega
                      have hl13 : w.heap.size + 1 < w13.heap.size := by have := Hbr.out.size; have := H3.out.hf.lt; omega
                      have hcs := ((((Chg.refl (fun q => q = w.heap.size + 1) w26).setCell (p := ⟨w.heap.size + 1, 0, none⟩) (fun _ => rfl) (.int .i64 0)).setCell (p := ⟨w.heap.size + 1, 1, none⟩) (fun _ => rfl) (.int .i64 0))).drew
                      have hways9 := Hcop9.out.chg hcs hl13
                      rw [show sum = (W.map ints).length from by rw [List.length_map]; exact HWl.out.symm] at hways9
                      have hways10 := hways9.rows
                      rw [show (W.map ints).length = sum from by rw [List.length_map]; exact HWl.out] at hways10
                      have hcut9 := OwnE.edges (show OwnE _ w25.heap.size (.slice a9 C.length c9) C from Ho.out.kept (row := some (w.heap.size + 1)) ⟨hcs.os, hcs.tape, hcs.output, hcs.size, fun k hk hne => hcs.block k hk (fun e => hne (by rw [e]))⟩ (by
                        cases e : (Value.slice a9 C.length c9).ownBlock with
                        | none => exact Or.inl rfl
                        | some g => exact Or.inr (fun e2 => by have := (World.ownsRow.lt Ho.out g e).1; cases e2; omega)))
                      go_wp2
                      exact bodyPost_ret (v := .tuple #[.slice a6 sum c6, .slice a9 C.length c9, .agg #[.int .i64 0, .int .i64 0]]) (by simp [results, Try.results25, go_sem, e0, e1]) rfl ⟨0, 0, _, _, rfl, Hsp.out, e2.drew, Or.inr ⟨rfl, rfl, N, s, t, W, C, rfl, rfl, rfl, Hgood.out, Hap.out, hways10, hcut9⟩⟩
  · have q : (c != 0) = true := by simp [hc]
    have Hc := Lib.hid hc
    clear hc
    go_wp2
    go_region
    all_goals
      obtain ⟨e0, e1, e2⟩ := H3.out.res c a
      go_wp2
      exact bodyPost_ret (v := .tuple #[.slice none 0 0, .slice none 0 0, .agg #[.int .i64 c, .int .i64 a]]) (by simp [results, Try.results25, go_sem, e0, e1]) rfl ⟨c, a, _, _, rfl, Hsp.out, e2.drew, Or.inl ⟨Hc.out, rfl, rfl⟩⟩

end Go.Proofs.Ytbnbhjeknocboaa
