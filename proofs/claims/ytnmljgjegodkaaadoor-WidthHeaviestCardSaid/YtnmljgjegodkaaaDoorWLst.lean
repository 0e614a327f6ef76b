/- width.Least: the walk. -/
import Derived.Test.YtnmljgjegodkaaaDoorPD
import Derived.Test.YtnmljgjegodkaaaDoorWOrd
import Derived.Test.YtnmljgjegodkaaaDoorPW
import Derived.BigRegion
import Derived.BigQuiet
import Derived.Test.YtnmljgjegodkaaaDoorPF
namespace Go.Proofs.YtnmljgjegodkaaaDoor
open Go Go.RowKit

/-- Places by the order. -/
def AtI (l : List Nat) (i : Nat) (f : Nat → Nat) : Prop := ∀ j, j < i → f (l.getD j 0) = j
theorem AtI.step {N i : Nat} {l : List Nat} {f : Nat → Nat} (h : AtI l i f) (hl : Ord N l) (hi : i < N) : AtI l (i + 1) fun q => if q = l.getD i 0 then i else f q := fun j hj => by
  show (if l.getD j 0 = l.getD i 0 then i else f (l.getD j 0)) = j
  by_cases e : j = i
  · subst e; rw [if_pos rfl]
  · rw [if_neg fun k => e (hl.inj (by omega) hi k)]
    exact h j (by omega)
/-- The width so far. -/
def WdI (N : Nat) (G : Nat → Nat → Bool) (l : List Nat) (i : Nat) (x : Int) : Prop := (i = 0 ∧ x = -1) ∨ ∃ m : Nat, x = m ∧ (∀ j, j < i → degB N G (goneL l j) (l.getD j 0) ≤ m) ∧ ∃ j, j < i ∧ degB N G (goneL l j) (l.getD j 0) = m
theorem WdI.step {N i d : Nat} {G : Nat → Nat → Bool} {l : List Nat} {x : Int} (h : WdI N G l i x) (hd : degB N G (goneL l i) (l.getD i 0) = d) : WdI N G l (i + 1) (max x d) := by
  right
  rcases h with ⟨rfl, rfl⟩ | ⟨m, rfl, h1, j, h2, h3⟩
  · exact ⟨d, by omega, fun j hj => by obtain rfl : j = 0 := by omega
                                       omega, 0, by omega, hd⟩
  · rcases Nat.le_total m d with e | e
    · exact ⟨d, by omega, fun j hj => by
        by_cases k : j = i
        · subst k; omega
        · have := h1 j (by omega); omega, i, by omega, hd⟩
    · exact ⟨m, by omega, fun j hj => by
        by_cases k : j = i
        · subst k; omega
        · exact h1 j (by omega), j, by omega, h3⟩
theorem WdI.fin {N W : Nat} {G : Nat → Nat → Bool} {l : List Nat} {x : Int} (h : WdI N G l N x) (hW : WidL N G l W) : x = if N = 0 then -1 else (W : Int) := by
  rcases h with ⟨rfl, rfl⟩ | ⟨m, rfl, h1, j, h2, h3⟩
  · rfl
  · rw [if_neg (by omega)]
    have h4 := hW.le j h2
    rcases hW.at' with e | ⟨i, hi, e⟩
    · omega
    · have := h1 i hi; omega
theorem WdI.lo {N i : Nat} {G : Nat → Nat → Bool} {l : List Nat} {x : Int} (h : WdI N G l i x) (hi : ∀ j, j < i → degB N G (goneL l j) (l.getD j 0) ≤ 12) : -1 ≤ x ∧ x ≤ 12 := by
  rcases h with ⟨rfl, rfl⟩ | ⟨m, rfl, h1, j, h2, h3⟩
  · omega
  · have := hi j h2; omega
theorem LsM.up2 {w wr w2 : World} {vb vu : Value} {vals : List Value} {bags : List (List Nat)} {up : List Int} {o1 : Obj} (h : LsM w wr vb vu vals bags up) (hg2 : (wr.alloc o1).grownBy w2 vb.ownBlock) : w2.ownsRow w.heap.size 3 1 vu up.length (up.map (Value.int .i64)) :=
  ownsRow_typed (h.upo.alloc o1) hg2 fun g hg => by
    obtain ⟨c, fz, hc⟩ := ownsRow_type (h.ow.alloc o1) g hg
    exact ⟨c, _, fz, hc, by decide⟩
theorem LsM.readPut {w wr : World} {vb vu : Value} {vals : List Value} {bags : List (List Nat)} {up : List Int} (h : LsM w wr vb vu vals bags up) {F : Nat} (hF : F < w.heap.size) (c a : Value) :
    IsRows ((wr.setCell ⟨F, 0, none⟩ c).setCell ⟨F, 1, none⟩ a) vb (bags.map ints) ∧ IsInts ((wr.setCell ⟨F, 0, none⟩ c).setCell ⟨F, 1, none⟩ a) vu up := by
  have hp : PRow wr w.heap.size vb bags := ⟨vals, h.ow, fun j hj => by
    obtain ⟨r, e, ho, -⟩ := h.rows j hj
    exact ⟨r, e, ho⟩⟩
  exact ⟨PRow.rows ((hp.kept (grown_set wr F 0 c) hF).kept (grown_set _ F 1 a) hF), IsInts.owned ((h.upo.kept (grown_set wr F 0 c) (own_side h.upo hF)).kept (grown_set _ F 1 a) (own_side (h.upo.kept (grown_set wr F 0 c) (own_side h.upo hF)) hF))⟩
/-- width.Least comes back. -/
def LeastGood (n : Int) (l : List (Int × Int)) (w' : World) (wid : Int) (vb vu : Value) : Prop :=
  ∃ (N W : Nat) (L ps : List Nat), n = N ∧ N ≤ 12 ∧ Ord N L ∧ WidL N (adj l) L W ∧ (∀ L', Ord N L' → ∀ B, (∀ i, i < N → degB N (adj l) (goneL L' i) (L'.getD i 0) ≤ B) → W ≤ B) ∧ wid = (if N = 0 then -1 else (W : Int)) ∧ ps.length = N ∧
    (∀ i, i < N → ParOk N (adj l) L i (ps.getD i 0) ∧ ps.getD i 0 ≤ N) ∧ IsRows w' vb (((List.range N).map (bagL N (adj l) L)).map ints) ∧ IsInts w' vu (ps.map (upI N))
def LeastPost (n : Int) (l : List (Int × Int)) (w : World) (e : Ending) (w' : World) : Prop :=
  ∃ c a wid vb vu, e = .returned (.tuple #[.int .i64 wid, vb, vu, .agg #[.int .i64 c, .int .i64 a]]) ∧ SmallSpec n l 12 c a ∧ Below w.heap.size w w' ∧
    ((c ≠ 0 ∧ wid = 0 ∧ vb = .slice none 0 0 ∧ vu = .slice none 0 0) ∨ (c = 0 ∧ a = 0 ∧ LeastGood n l w' wid vb vu))

set_option maxHeartbeats 6400000 in
set_option maxRecDepth 100000 in
theorem wleast_any (n : Int) (l : List (Int × Int)) (sv : Value) (w : World) (h : IsEdges w sv l) (hT : TabAt 1 Lib.deBruijn64tab w) :
    Calls Tryd.prog 8 #[.agg #[.int .i64 n, sv]] w (LeastPost n l w) := by
  obtain ⟨ad, cap, rfl⟩ : ∃ ad cap, sv = .slice ad l.length cap := by
    obtain ⟨a, c, _, _, rfl, _⟩ := h
    exact ⟨a, c, rfl⟩
  have hg := GRes.start w n (.slice ad l.length cap)
  have He := Lib.hid h; have Hg := Lib.hid hg; have HT := Lib.hid hT
  have cn := hg.cn
  have cs := hg.cs
  clear h hg hT
  go_enter Tryd.func8, Tryd.ntmps8
  go_upto_region 1 with fail
  generalize (w.alloc (Obj.cells #[.int .i64 n, .slice ad l.length cap] 24)).alloc (Obj.cells #[Value.int IntKind.i64 0, Value.int IntKind.i64 0] 27) = w1 at *
  go_upto_region 2 with (go_at_call 25; refine (gcheck_any l n _ w1 (He.out.below Hg.out.hb)).mono ?_; rintro e w2 ⟨c, a, hsp, rfl, hb2⟩; have Hsp := Lib.hid hsp; have H3 := Lib.hid (Hg.out.below (upc hb2 (below1 w2 (Obj.cells #[.int .i64 c, .int .i64 a] 27)))); have F3 := Lib.hid (FV.new w2 c a); clear hsp hb2)
  generalize w2.alloc (Obj.cells #[.int .i64 c, .int .i64 a] 27) = w3 at *
  generalize w2.heap.size = F at *
  clear cn cs Hg
  have cn := H3.out.cn
  have cs := H3.out.cs
  have hAB := H3.out.hA
  obtain ⟨f0, f1, -, -, -⟩ := F3.out.facts
  by_cases hc : c = 0
  · subst hc
    obtain rfl := spec_zero Hsp.out
    by_cases hn : 12 < n
    · have Hn := Lib.hid hn
      have b0 := H3.out.hz.cell (show 0 < 2 by omega)
      have b1 := H3.out.hz.cell (show 1 < 2 by omega)
      have d0 := H3.out.hz.frozen 0
      have d1 := H3.out.hz.frozen 1
      have hBl := H3.out.hz.lt
      go_wp2_with (go_at_call 26; refine (wfault_any _ _ _).mono ?_; rintro e wf ⟨rfl, rfl⟩)
      obtain ⟨e0, e1, e2⟩ := H3.out.putA (.int .i64 2) (.int .i64 0) (Obj.cells #[Value.int .i64 2, .int .i64 0] 27)
      exact bodyPost_ret (v := .tuple #[.int .i64 0, .slice none 0 0, .slice none 0 0, .agg #[.int .i64 2, .int .i64 0]]) (by simp [results, Tryd.results8, go_sem, e0, e1]) rfl ⟨2, 0, 0, _, _, rfl, Or.inr ⟨Hsp.out, Or.inl ⟨Hn.out, rfl, rfl⟩⟩, e2, Or.inl ⟨by decide, rfl, rfl, rfl⟩⟩
    · have Hsm := Lib.hid (show SmallSpec n l 12 0 0 from Or.inr ⟨Hsp.out, Or.inr ⟨by omega, rfl, rfl⟩⟩)
      obtain ⟨-, hn0, hn1, hll, hok⟩ := small_good Hsm.out
      obtain ⟨N, rfl⟩ := Int.eq_ofNat_of_zero_le hn0
      have hN : N ≤ 12 := by omega
      have Hok := Lib.hid hok
      clear hok hn0 hn1
      go_upto_region 6 with fail
      clear f0 f1 F3 hn
      go_upto_region 7 with (go_at_call 27; refine (masks_any l N _ w3 (He.out.below H3.out.hb) (by omega) Hok.out).mono ?_; rintro e w4 ⟨bM, rfl, hlM, hrM, hb4⟩; have HrM := Lib.hid hrM; have H4 := Lib.hid (H3.out.below hb4); clear hrM hb4)
      clear cn cs
      have cn := H4.out.cn
      have cs := H4.out.cs
      go_upto_region 8 with (go_at_call 28; refine (worder_any l N _ w4 (He.out.below H4.out.hb) hN Hok.out (TabAt.below (g := 1) HT.out H4.out.hb)).mono ?_; rintro e w5 ⟨vl, L, W, rfl, hoL, hb5, hord, hwid, hmin⟩; have HoL := Lib.hid hoL; have H5 := Lib.hid (H4.out.below hb5); have HrM5 := Lib.hid (HrM.out.of_block (hb5.block _ HrM.out.lt)); have HO := Lib.hid hord; have HW := Lib.hid hwid; have Hmin := Lib.hid hmin; clear hoL hb5 hord hwid hmin)
      clear cn cs HrM
      obtain ⟨aL, cL, rfl⟩ := ownsRow_form HoL.out
      have hLl : L.length = N := HO.out.len
      have HoL2 := Lib.hid (show w5.ownsRow w4.heap.size 3 1 (.slice aL N cL) N (nvals L) from by rw [← hLl]; exact HoL.out)
      rw [hLl]
      have cn := H5.out.cn
      have hmk := run_make_row' (P := Tryd.prog) 30 3 (.int .i64 0) 8 Tryd.underlying30 info3 rfl .i64 .i64 N (by omega) (by omega)
      have hr6 := (World.rowIs_made w5 (.int .i64 0) N 3).congr (g := rn fun _ => 0) fun _ _ => rfl
      have hb6 := below1 w5 (.cells (madeCells #[.int .i64 0] N) 3)
      have Hr6 := Lib.hid hr6
      have Hb6 := Lib.hid hb6
      have cn6 := below_cell hb6 cn
      have hz6 : (w5.alloc (.cells (madeCells #[.int .i64 0] N) 3)).heap.size = w5.heap.size + 1 := World.size_alloc _ _
      clear hr6 hb6 hLl
      go_upto_region 9 with fail
      clear hmk cn
      generalize w5.alloc (.cells (madeCells #[.int .i64 0] N) 3) = w6 at *
      have hbM : bM < w5.heap.size := HrM5.out.lt
      go_upto_region 10 with fail
      go_loopg [39] N (fun g s39 wr => ∃ (i : Nat) (f : Nat → Nat), i ≤ N ∧ g = N - i ∧ s39 = .int .i64 (i : Int) ∧ wr.rowIs w5.heap.size 3 N (rn f) ∧ AtI L i f ∧ Below w5.heap.size w5 wr)
      case atStart => exact ⟨0, fun _ => 0, Nat.zero_le _, rfl, rfl, Hr6.out, fun j hj => absurd hj (Nat.not_lt_zero _), Hb6.out⟩
      case round =>
        clear cn6
        obtain ⟨i, f, hi, rfl, rfl, hr, hat, hb⟩ := hrel
        have Hr := Lib.hid hr; have Hat := Lib.hid hat; have Hb := Lib.hid hb
        by_cases hlt : i < N
        · have hx := (HO.out.at hlt).1
          have hce : (nvals L)[i]? = some (.int .i64 ((L.getD i 0 : Nat) : Int)) := by simp [nvals, ints, List.getD, List.getElem?_eq_getElem (show i < L.length by rw [HO.out.len]; exact hlt)]
          obtain ⟨gL, rfl⟩ : ∃ g, aL = some ⟨g, 0, none⟩ := by
            rcases HoL2.out.2 with ⟨e, e0⟩ | ⟨g, cap', cur, e, -⟩
            · omega
            · simp only [Value.slice.injEq] at e; exact ⟨g, e.1⟩
          have cq := (ownsRow_below HoL2.out hb (Nat.le_refl _)).cells (g := gL) rfl _ _ hce
          rw [Addr.add_lit, Nat.zero_add] at cq
          have cw := hr.cell hx
          have fw := hr.frozen (L.getD i 0)
          have lw := hr.lt
          simp only [rn] at cw
          have HS := Lib.hid (show AtI L (i + 1) (fun q => if q = L.getD i 0 then i else f q) from hat.step HO.out hlt)
          have HR2 := Lib.hid (row_set_rn hr (L.getD i 0) i)
          clear hr hat hb hce
          generalize L.getD i 0 = v at *
          go_wp2
          go_roundg (N - (i + 1))
          case measure => go_light; omega
          case rel => exact ⟨i + 1, _, by omega, rfl, by go_num, HR2.out, HS.out, Hb.out.setCell (p := ⟨w5.heap.size, v, none⟩) (Nat.le_refl _) _⟩
        · obtain rfl : N = i := by omega
          obtain ⟨w7, rfl⟩ : ∃ w7 : World, w7 = wr := ⟨_, rfl⟩
          have h57 := hb.size
          have HT7 := Lib.hid (TabAt.below (g := 1) HT.out (H5.out.hb.trans (hb.mono H5.out.hb.size)))
          have H7 := Lib.hid (H5.out.below hb)
          have HM7 := Lib.hid (HrM5.out.of_block (hb.block _ HrM5.out.lt))
          have HL7 := Lib.hid (ownsRow_below HoL2.out hb (Nat.le_refl _))
          clear hr hat hb HT H5 HrM5 HoL HoL2 Hb Hb6 Hr6
          have hdg : ∀ j, j < N → degB N (adj l) (goneL L j) (L.getD j 0) ≤ 12 := fun j hj => by have := degB_lt (G := adj l) (S := goneL L j) (HO.out.at hj).1; omega
          have Hdg := Lib.hid hdg
          have lw := Hr.out.lt
          clear hdg
          go_upto_region 17 with fail
          go_loopg [2, 3, 4, 12, 51] N (fun g s2 s3 s4 s12 s51 wr => ∃ (k gm : Nat) (x : Int) (vals : List Value) (ps : List Nat), k ≤ N ∧ g = N - k ∧ s51 = .int .i64 (k : Int) ∧ s12 = .int .i64 (gm : Int) ∧ s2 = .int .i64 x ∧ gm < 2 ^ N ∧ bitsF gm = goneL L k ∧ WdI N (adj l) L k x ∧ LsM w7 wr s3 s4 vals ((List.range k).map (bagL N (adj l) L)) (ps.map (upI N)) ∧ ps.length = k ∧ ∀ i, i < k → ParOk N (adj l) L i (ps.getD i 0) ∧ ps.getD i 0 ≤ N)
          case atStart => exact ⟨0, 0, -1, [], [], Nat.zero_le _, rfl, rfl, rfl, rfl, Nat.two_pow_pos N, by funext q; simp [bitsF, goneL], .inl ⟨rfl, rfl⟩, LsM.start, rfl, fun i hi => absurd hi (Nat.not_lt_zero _)⟩
          case round =>
            obtain ⟨k, gm, x, vals, ps, hk, rfl, rfl, rfl, rfl, hgm, hgb, hwd, hls, hpl, hps⟩ := hrel
            obtain ⟨wq, rfl⟩ : ∃ wq : World, wq = wr := ⟨_, rfl⟩
            have Hwd := Lib.hid hwd; have Hls := Lib.hid hls; have Hps := Lib.hid hps; have Hpl := Lib.hid hpl
            have hgm24 := pow_few (show N ≤ 24 by omega) hgm
            obtain ⟨hx0, hx1⟩ := hwd.lo fun j hj => Hdg.out j (by omega)
            have how := hls.ow
            have hup := hls.upo
            rw [List.length_map, List.length_range] at how
            rw [List.length_map, hpl] at hup
            obtain ⟨aB, cB, rfl⟩ := ownsRow_form how
            obtain ⟨aU, cU, rfl⟩ := ownsRow_form hup
            have How := Lib.hid how
            have h7q := hls.hb.size
            have cn := (H7.out.below hls.hb).cn
            have Hq := Lib.hid hls.hb
            clear hwd hls hps how hup hpl
            by_cases hlt : k < N
            · have hx := (HO.out.at hlt).1
              have hce : (nvals L)[k]? = some (.int .i64 ((L.getD k 0 : Nat) : Int)) := by simp [nvals, ints, List.getD, List.getElem?_eq_getElem (show k < L.length by rw [HO.out.len]; exact hlt)]
              obtain ⟨gL, rfl⟩ : ∃ g, aL = some ⟨g, 0, none⟩ := by
                rcases HL7.out.2 with ⟨e, e0⟩ | ⟨g, cap', cur, e, -⟩
                · omega
                · simp only [Value.slice.injEq] at e; exact ⟨g, e.1⟩
              have cq := (ownsRow_below HL7.out Hq.out (Nat.le_refl _)).cells (g := gL) rfl _ _ hce
              rw [Addr.add_lit, Nat.zero_add] at cq
              have Hce := Lib.hid hce
              have Hk1 := Lib.hid (show ∀ u, goneL L (k + 1) u = (goneL L k u || decide (u = L.getD k 0)) from fun u => gone_succ HO.out hlt u)
              obtain ⟨v, hv⟩ : ∃ v, L.getD k 0 = v := ⟨_, rfl⟩
              have Hv := Lib.hid hv
              have HBe := Lib.hid (beyond_is (G := adj l) (show N ≤ 24 by omega) near_is (hv ▸ hx) hgm wq (HM7.out.of_block (Hq.out.block _ HM7.out.lt)) (TabAt.below (g := 1) HT7.out Hq.out))
              have hr2 := beyM_lt (N := N) (G := adj l) (set := gm) (v := v)
              have hrb : ∀ u, (beyM N (adj l) gm v).testBit u = restL N (adj l) L k u := fun u => by rw [beyM_bit, hgb, ← hv]; rfl
              have hr24 : beyM N (adj l) gm v < 16777216 := pow_few (by omega) hr2
              generalize beyM N (adj l) gm v = r at *
              rw [hv] at cq hx Hk1
              have Hrb := Lib.hid hrb
              have Hvr := Lib.hid (show r.testBit v = false from by
                rw [hrb, ← hv]
                cases e : restL N (adj l) L k (L.getD k 0)
                · rfl
                · exact absurd rfl (bey_iff.1 e).2.2)
              have e2 := op_shl (show v < 62 by omega)
              have e3 := op_or (show Few gm by unfold Few; omega) (pow2_few (show v < 62 by omega))
              have Hgb := Lib.hid hgb
              have Hg1 := Lib.hid (show bitsF (lor gm (pow2 v)) = goneL L (k + 1) from by
                funext u
                have h1 := congrFun Hgb.out u
                rw [Hk1.out, ← h1]
                show (lor gm (pow2 v)).testBit u = _
                rw [lor_bit, pow2_bit]
                exact congrArg _ (decide_eq_decide.2 eq_comm))
              have Hg2 := Lib.hid (show lor gm (pow2 v) < 2 ^ N from few_of_bit fun u hu => by
                rw [lor_bit, pow2_bit, Bool.or_eq_true, decide_eq_true_eq] at hu
                rcases hu with h | rfl
                · rcases Nat.lt_or_ge u N with h1 | h1
                  · exact h1
                  · rw [Nat.testBit_lt_two_pow (Nat.lt_of_lt_of_le hgm (Nat.pow_le_pow_right (by omega) h1))] at h; cases h
                · exact hx)
              have hw1 : IntKind.i64.wrap ((k : Int) + 1) = ((k + 1 : Nat) : Int) := wrap_nat (n := k + 1) (by omega)
              obtain ⟨p0, hp0⟩ : ∃ p0 : Nat, p0 = if r = 0 then k + 1 else N := ⟨_, rfl⟩
              have Hp0 := Lib.hid hp0
              have hp0N : p0 ≤ N := by rw [hp0]; split <;> omega
              have ho8 : (wq.alloc (Obj.cells #[.int .i64 (v : Int)] 3)).ownsRow wq.heap.size 3 1 (.slice (some ⟨wq.heap.size, 0, none⟩) 1 1) [v].length (nvals [v]) := World.ownsRow_lit (base := wq.heap.size) (e := 3) (size := 1) wq #[.int .i64 (v : Int)] 1 (Nat.le_refl _) (by decide) rfl
              have Ho8 := Lib.hid ho8
              have Hb8 := Lib.hid (below1 wq (Obj.cells #[.int .i64 (v : Int)] 3))
              have hz8 : (wq.alloc (Obj.cells #[.int .i64 (v : Int)] 3)).heap.size = wq.heap.size + 1 := World.size_alloc _ _
              have cn8 := below_cell Hb8.out cn
              generalize lor gm (pow2 v) = gm1 at *
              clear hce hv hrb hgb ho8
              go_upto_region 20 with (go_at_call 29; refine HBe.out.mono ?_; rintro e w8 ⟨rfl, hw8⟩; rw [hw8]; clear hw8)
              go_upto_region 21 with fail
              clear cq HBe
              generalize wq.alloc (Obj.cells #[.int .i64 (v : Int)] 3) = w8 at *
              have hb8 := Hb8.out
              go_upto_region 22 with fail
              clear hp0
              go_upto_if 65 with fail
              go_cut [17] from 66 to 67 (fun s17 wx => s17 = .int .i64 (p0 : Int) ∧ w8 = wx)
              case first =>
                by_cases hr0 : r = 0
                · have e := Lib.hid (show p0 = k + 1 by rw [Hp0.out, if_pos hr0])
                  subst hr0
                  go_wp2
                  go_meet
                  exact ⟨by have := e.out; simp only [Value.int.injEq, true_and]; omega, rfl⟩
                · have e := Lib.hid (show p0 = N by rw [Hp0.out, if_neg hr0])
                  have hr0' : (0 : Int) < (r : Int) := by omega
                  have hr1 : 0 < r := by omega
                  go_wp2
                  go_meet
                  exact ⟨by have := e.out; simp only [Value.int.injEq, true_and]; omega, rfl⟩
              case rest =>
              obtain ⟨rfl, rfl⟩ := hcut
              clear cn8 hb8
              go_upto_region 25 with fail
              go_loopg [16, 17, 18] r (fun g s16 s17 s18 wr => ∃ (q m : Nat) (A : List Nat), q = g ∧ s18 = .int .i64 (q : Int) ∧ s17 = .int .i64 (m : Int) ∧ wr.ownsRow wq.heap.size 3 1 s16 A.length (nvals A) ∧ BagI N L v r q A p0 m ∧ Below wq.heap.size wq wr)
              case atStart => exact ⟨r, p0, [v], rfl, rfl, rfl, Ho8.out, BagI.start, Hb8.out⟩
              case round =>
                obtain ⟨q, m, A, rfl, rfl, rfl, hoA, hbg, hb⟩ := hrel
                obtain ⟨aA, cA, rfl⟩ := ownsRow_form hoA
                have HoA := Lib.hid hoA; have Hbg := Lib.hid hbg; have Hb := Lib.hid hb
                have hqr : q ≤ r := Nat.le_of_testBit hbg.sub
                have hrN : ∀ u, r.testBit u = true → u < N := fun u hu => by rw [Hrb.out] at hu; exact (bey_iff.1 hu).1.lt
                have hA12 : A.length ≤ N := nodup_lt N A hbg.nd fun u hu => by
                  rcases (hbg.mem u).1 hu with e | ⟨e, -⟩
                  · rw [e]; exact hx
                  · exact hrN u e
                have hmp := hbg.top
                have hsz := hb.size
                clear hoA hbg hb
                by_cases hq : q = 0
                · subst hq
                  have hfin := (show BagI N L (L.getD k 0) r 0 A p0 m by rw [Hv.out]; exact Hbg.out).fin HO.out hlt Hrb.out Hp0.out
                  obtain ⟨hso, hlen, hpar, hmN⟩ := hfin
                  have Hpar := Lib.hid hpar
                  have Hso := Lib.hid hso
                  have Hdk := Lib.hid (show degB N (adj l) (goneL L k) (L.getD k 0) = A.length - 1 by omega)
                  have hbl : (bagL N (adj l) L k).length = A.length := by
                    have h1 := congrArg List.length hso
                    rw [List.length_mergeSort, ints_length, ints_length] at h1
                    exact h1.symm
                  have Hbl := Lib.hid hbl
                  have hA1 : 1 ≤ A.length := by omega
                  have Hsort := Lib.hid (sortI_any (m := ints A) (by rw [ints_length]; exact HoA.out) (by rw [ints_length]; omega))
                  have cnr := below_cell Hb.out cn
                  have hw3 : IntKind.i64.wrap ((A.length : Int) - 1) = ((A.length - 1 : Nat) : Int) := by rw [show (A.length : Int) - 1 = ((A.length - 1 : Nat) : Int) by omega]; exact wrap_nat (by omega)
                  obtain ⟨up, hup⟩ : ∃ up : Int, up = upI N m := ⟨_, rfl⟩
                  have Hup := Lib.hid hup
                  have Hwd1 := Lib.hid (Hwd.out.step Hdk.out)
                  obtain ⟨x1, hx1'⟩ : ∃ x1 : Int, max x ((A.length - 1 : Nat) : Int) = x1 := ⟨_, rfl⟩
                  have Hx1 := Lib.hid hx1'
                  rw [hx1'] at Hwd1
                  generalize hnA : A.length = nA at *
                  have HnA := Lib.hid hnA
                  clear hso hlen hpar hbl hup hrN hx1' hnA
                  go_upto_if 91 with fail
                  go_cut [17] from 88 to 91 (fun s17 wx => s17 = .int .i64 up ∧ wr = wx)
                  case first =>
                    by_cases hmN' : m = N
                    · have e := Lib.hid (show up = -1 by rw [Hup.out, upI, if_pos hmN'])
                      subst hmN'
                      go_wp2
                      go_meet
                      exact ⟨by rw [e.out], rfl⟩
                    · have e := Lib.hid (show up = (m : Int) by rw [Hup.out, upI, if_neg hmN'])
                      have hmb : ((m : Int) == (N : Int)) = false := by simp; omega
                      go_wp2
                      go_meet
                      exact ⟨by rw [e.out], rfl⟩
                  case rest =>
                  obtain ⟨rfl, rfl⟩ := hcut
                  go_upto_region 33 with (go_at_call 31; refine Hsort.out.mono ?_; rintro e w9 ⟨rfl, ho9, hg9⟩; have Ho9 := Lib.hid ho9; have Hg9 := Lib.hid hg9; clear ho9 hg9)
                  have hb9 := Hb.out.grown Hg9.out hsz (fun g e => (HoA.out.lt g e).1)
                  have Hb9 := Lib.hid hb9
                  have Ls9 := Lib.hid (Hls.out.below hb9)
                  have Bag9 := Lib.hid (show w9.ownsRow wq.heap.size 3 1 (.slice aA nA cA) (bagL N (adj l) L k).length (nvals (bagL N (adj l) L k)) from by
                    have h9 := Ho9.out
                    rw [Hso.out, ints_length, HnA.out] at h9
                    rw [Hbl.out]
                    exact h9)
                  have hz9 := hb9.size
                  have cn9 := below_cell hb9 cn
                  have Hlow := Lib.hid (fun g e => (Hls.out.upo.lt g e).2)
                  have Ow9 := Lib.hid (show w9.ownsRow w7.heap.size 30 1 (.slice aB k cB) k vals from by have := Ls9.out.ow; rwa [List.length_map, List.length_range] at this)
                  clear hb9 Hg9 Ho9 cn cnr Hsort
                  go_upto_region 34 with (first | (at_builtin; refine wpList_append_has rfl (.tmp 94) (.tmp 96) 29 rfl w7.heap.size 30 (.slice none 0 0) 24 Tryd.underlying29 infoS rfl (.slice aB k cB) k vals rfl (Ow9.out.alloc _) _ 1 [.slice aA nA cA] rfl (HasCells.one _ _ _ rfl) (by omega) (by omega) (by simp; omega) ?_; intro a10 c10 w10 ho10 hg10; have U10 := Lib.hid (show w10.ownsRow w7.heap.size 3 1 (.slice aU k cU) k ((ps.map (upI N)).map (Value.int .i64)) from by have := Ls9.out.up2 hg10; rwa [List.length_map, Hpl.out] at this); have Ho10 := Lib.hid ho10; have Hg10 := Lib.hid hg10; have hz10 : w9.heap.size + 1 ≤ w10.heap.size := by { have := hg10.size; rwa [World.size_alloc] at this }; clear ho10 hg10) | (at_builtin; refine wpList_append_at rfl (.tmp 98) (.tmp 100) 30 rfl w7.heap.size 3 (.int .i64 0) 8 Tryd.underlying30 info3 rfl (.slice aU k cU) k ((ps.map (upI N)).map (Value.int .i64)) rfl (U10.out.alloc _) _ 1 [.int .i64 up] rfl (HasCells.one _ _ _ rfl) (by omega) (by omega) (by omega) (by simp; omega) ?_; intro a12 c12 w12 ho12 hg12 hat12; have Ls12 := Lib.hid (Ls9.out.more h7q Bag9.out Hlow.out (by rw [List.length_map, List.length_range]; exact Ho10.out) Hg10.out (by rw [List.length_map, Hpl.out]; exact ho12) hg12 hat12); clear ho12 hg12 hat12))
                  go_upto_region 35 with fail
                  rw [Hx1.out]
                  go_wp2
                  go_roundg (N - (k + 1))
                  case measure => go_light; omega
                  case rel => exact ⟨k + 1, gm1, x1, _, ps ++ [m], by omega, rfl, by go_num, rfl, rfl, Hg2.out, Hg1.out, by rw [HnA.out] at *; exact Hwd1.out, by rw [List.range_succ, List.map_append, List.map_append]; simpa [Hup.out] using Ls12.out, by rw [List.length_append, Hpl.out]; rfl, fun i hi => by
                    by_cases e : i = k
                    · subst e
                      rw [show (ps ++ [m]).getD i 0 = m by simp [List.getD, Hpl.out]]
                      exact ⟨Hpar.out, hmN⟩
                    · have h1 : (ps ++ [m]).getD i 0 = ps.getD i 0 := by simp [List.getD, List.getElem?_append_left (show i < ps.length by rw [Hpl.out]; omega)]
                      rw [h1]
                      exact Hps.out i (by omega)⟩
                · have hqp : (0 : Int) < (q : Int) := by omega
                  obtain ⟨hlow, hand⟩ := ctz_low hq (show Few q by unfold Few; omega)
                  have hu64 : IntKind.u64.wrap (q : Int) = (q : Int) := u64_nat (by omega)
                  have hw2 : IntKind.i64.wrap ((q : Int) - 1) = ((q - 1 : Nat) : Int) := by rw [show (q : Int) - 1 = ((q - 1 : Nat) : Int) by omega]; exact wrap_nat (by omega)
                  have hb7 := Hq.out.trans (Hb.out.mono Hq.out.size)
                  have Htz := Lib.hid (tz_any q (by omega) hq wr (TabAt.below (g := 1) HT7.out hb7))
                  generalize Lib.ctz 64 q = c at *
                  have hrc := Hbg.out.sub c hlow
                  have hcN := hrN c hrc
                  obtain ⟨k', hk', hkc⟩ := HO.out.all hcN
                  have hfc : f c = k' := by rw [← hkc]; exact Hat.out k' hk'
                  have TC := Lib.hid (fun (wx : World) (hbx : Below w7.heap.size w7 wx) => show wx.cell? ⟨w5.heap.size, c, none⟩ = some (.int .i64 (k' : Int)) from by
                    have tc := (Hr.out.of_block (hbx.block _ lw)).cell hcN
                    simpa only [rn, hfc] using tc)
                  have e1 := op_and (show Few q by unfold Few; omega) (show Few (q - 1) by unfold Few; omega)
                  have Hst := Lib.hid (Hbg.out.step HO.out Hvr.out hlow hk' hkc hand)
                  have Hq2 := Lib.hid (show land q (q - 1) < q from Nat.lt_of_le_of_ne Nat.and_le_left fun e => by
                    have := hand c
                    rw [e, hlow] at this
                    simp at this)
                  have hq14 : land q (q - 1) ≤ q := Nat.and_le_left
                  generalize land q (q - 1) = q1 at *
                  have hmin : min (m : Int) (k' : Int) = ((min m k' : Nat) : Int) := by omega
                  have Hmin := Lib.hid hmin
                  generalize hnA : A.length = nA at *
                  have HnA := Lib.hid hnA
                  have Hb7 := Lib.hid hb7
                  clear hlow hand hrc hfc hmin hb7 hnA hrN hkc
                  go_upto_region 28 with (go_at_call 30; refine Htz.out.mono ?_; rintro e w5 ⟨rfl, hw5⟩; rw [hw5]; clear hw5)
                  clear Htz
                  go_upto_region 29 with (at_builtin; refine wpList_append_has rfl (.tmp 78) (.tmp 80) 30 rfl wq.heap.size 3 (.int .i64 0) 8 Tryd.underlying30 info3 rfl (.slice aA nA cA) nA (nvals A) rfl (HoA.out.alloc _) _ 1 (nvals [c]) rfl (HasCells.one _ _ _ rfl) (by omega) (by omega) (by simp; omega) ?_; intro a9 c9 w9 ho9 hg9; have Ho9 := Lib.hid ho9; have hb9 := (Hb.out.alloc Hb.out.size (Obj.cells #[.int .i64 (c : Int)] 3)).grown hg9 (by simp; omega) (fun g e => (HoA.out.lt g e).1); have tc := TC.out _ (Hq.out.trans (hb9.mono Hq.out.size)); have Hb9 := Lib.hid hb9; clear ho9 hg9 hb9)
                  go_upto_region 26 with fail
                  rw [Hmin.out]
                  clear tc
                  go_wp2
                  go_roundg q1
                  case measure => exact Hq2.out
                  case rel => exact ⟨q1, min m k', A ++ [c], rfl, rfl, rfl, by rw [List.length_append, HnA.out, show nvals (A ++ [c]) = nvals A ++ nvals [c] by simp [nvals, ints]]; exact Ho9.out, Hst.out, Hb9.out⟩
            · obtain rfl : k = N := by omega
              have Hx := Lib.hid (Hwd.out.fin HW.out)
              have Hrd := Lib.hid Hls.out.read
              have H9 := Lib.hid (H7.out.below Hq.out)
              have b0 := H9.out.hz.cell (show 0 < 2 by omega)
              have b1 := H9.out.hz.cell (show 1 < 2 by omega)
              have d0 := H9.out.hz.frozen 0
              have d1 := H9.out.hz.frozen 1
              have hBl := H9.out.hz.lt
              have hl7 : w.heap.size + 1 < w7.heap.size := H7.out.hz.lt
              go_upto_region 37 with fail
              go_region
              all_goals
                obtain ⟨e0, e1, e2⟩ := H9.out.put (.int .i64 0) (.int .i64 0)
                obtain ⟨i1, i2⟩ := Hls.out.readPut (show w.heap.size + 1 < w7.heap.size from hl7) (.int .i64 0) (.int .i64 0)
                have I1 := Lib.hid i1; have I2 := Lib.hid i2
                clear i1 i2
                go_wp2
                exact bodyPost_ret (v := .tuple #[.int .i64 x, .slice aB k cB, .slice aU k cU, .agg #[.int .i64 0, .int .i64 0]]) (by simp [results, Tryd.results8, go_sem, e0, e1]) rfl ⟨0, 0, x, _, _, rfl, Hsm.out, e2.drew, Or.inr ⟨rfl, rfl, k, W, L, ps, rfl, hN, HO.out, HW.out, Hmin.out, Hx.out, Hpl.out, Hps.out, I1.out, I2.out⟩⟩
  · have q : (c != 0) = true := by simp [hc]
    have Hc := Lib.hid hc
    clear hc
    have b0 := H3.out.hz.cell (show 0 < 2 by omega)
    have b1 := H3.out.hz.cell (show 1 < 2 by omega)
    have d0 := H3.out.hz.frozen 0
    have d1 := H3.out.hz.frozen 1
    have hBl := H3.out.hz.lt
    go_wp2
    go_region
    all_goals
      obtain ⟨e0, e1, e2⟩ := H3.out.put (.int .i64 c) (.int .i64 a)
      go_wp2
      exact bodyPost_ret (v := .tuple #[.int .i64 0, .slice none 0 0, .slice none 0 0, .agg #[.int .i64 c, .int .i64 a]]) (by simp [results, Tryd.results8, go_sem, e0, e1]) rfl ⟨c, a, 0, _, _, rfl, Or.inl ⟨Hsp.out, Hc.out⟩, e2.drew, Or.inl ⟨Hc.out, rfl, rfl, rfl⟩⟩
end Go.Proofs.YtnmljgjegodkaaaDoor
