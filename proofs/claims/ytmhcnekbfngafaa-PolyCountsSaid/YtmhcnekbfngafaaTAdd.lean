/- (poly.table).add. -/
import Derived.Test.YtmhcnekbfngafaaTop
namespace Go.Proofs.Ytmhcnekbfngafaa
open Go Go.RowKit Go.Maps

theorem wrap_few {x : Int} (h0 : 0 ≤ x) (h : x ≤ 9000000000000000000) : IntKind.i64.wrap x = x := by
  simp [IntKind.wrap, IntKind.bits, IntKind.signed]; omega
theorem plain_inv (v : Value) (y : DataW Unit × List MemPlace) (h : plainElem Try.prog 3 v = some y) : ∃ c : Int, v = .int .i64 c := by
  obtain ⟨c, rfl, -, -⟩ := plainElem_int_inv Try.underlying3 h
  exact ⟨c, rfl⟩
theorem plain_val {c : Int} {y : DataW Unit × List MemPlace} (h : plainElem Try.prog 3 (.int .i64 c) = some y) : y.1 = .lit (.int .i64 c) := by
  obtain ⟨c', h1, h2, -⟩ := plainElem_int_inv Try.underlying3 h
  cases h1
  rw [h2]
/-- One entry is met. -/
theorem met_key {DU : DataW Unit} {Ku : Nat} {U : Nat → Nat → Int} (hU : Holds DU Ku U) {x : Int × Int} {c : Int} {kl : Lit} {y : DataW Unit × List MemPlace} (hkey : keyOf Try.prog 61 (pairV x.1 x.2) = some kl) (hhas : Maps.has DU kl = true)
    (hR : plainElem Try.prog 3 (.int .i64 c) = some y) (hat : ∀ zd, DU.atKey kl zd = y.1) : ∃ i j : Nat, i ≤ Ku ∧ j ≤ Ku ∧ KeyP i j kl ∧ x = ((i : Int), (j : Int)) ∧ c = U i j := by
  obtain ⟨i, j, hi, hj, hk⟩ := hU.keys kl hhas
  have e := pairKeyed.inj hkey hk
  simp only [pairV, Value.agg.injEq, Array.mk.injEq, List.cons.injEq, Value.int.injEq, true_and, and_true] at e
  have h1 := hU.at' i j kl hk
  rw [hat, plain_val hR] at h1
  simp only [DataW.lit.injEq, Lit.int.injEq, true_and] at h1
  exact ⟨i, j, hi, hj, hk, Prod.ext e.1 e.2, h1⟩

structure AddSt (w wr : World) (bt bu nt nu Ku K : Nat) (T U : Nat → Nat → Int) (dx dy : Nat) (DU : DataW Unit) (left : Lit → Bool) (cnt n : Nat) (D : DataW Unit) : Prop where
  rg : wr.ranges Try.prog 61 (plainElem Try.prog 3) bu w.heap.size nu DU left cnt
  has : ∀ l, left l = true → Maps.has DU l = true
  own : wr.ownsMap Try.prog 61 (plainElem Try.prog 3) bt n D
  num : n + cnt ≤ nt + nu
  holds : Holds D K (addF T U dx dy left)
  chg : Chg (· = bt) w wr

set_option maxHeartbeats 6400000 in
set_option maxRecDepth 100000 in
theorem tadd_any {dx dy bt nt Kt bu nu Ku K : Nat} {T U : Nat → Nat → Int} (w : World) (ht : TabIs w bt nt Kt T) (hu : TabIs w bu nu Ku U) (hne : bt ≠ bu) (hdx : dx ≤ 1) (hdy : dy ≤ 1) (hn : nt + nu ≤ 1000000) (hK1 : Kt ≤ K) (hK2 : Ku + 1 ≤ K) (hK : K ≤ 100)
    (hT : ∀ i j, 0 ≤ T i j ∧ T i j ≤ 1000000000) (hU : ∀ i j, 0 ≤ U i j ∧ U i j ≤ 1000000000) (hUf : ∀ i j, Ku < i ∨ Ku < j → U i j = 0) :
    Calls Try.prog 72 #[.map (some bt), .map (some bu), .int .i64 (dx : Int), .int .i64 (dy : Int)] w fun e w' => e = .returned (.tuple #[]) ∧ TabIs w' bt (nt + nu) K (addT T U dx dy) ∧ Chg (· = bt) w w' := by
  obtain ⟨D0, hown0, hh0⟩ := ht
  obtain ⟨DU, hownU, hhU⟩ := hu
  have hlt := hown0.lt
  have hltu := hownU.lt
  have hszU := hownU.size_le
  have HhU := Lib.hid hhU; have HT := Lib.hid hT; have HU := Lib.hid hU
  have Hstart := Lib.hid ((hh0.mono hK1).congr fun i j => (addF_start (dx := dx) (dy := dy) (T := T) hhU hUf (by omega) i j).symm)
  have Hown0 := Lib.hid hown0
  clear hh0 hhU hT hU hown0
  go_enter Try.func72, Try.ntmps72
  go_wp2_with (at_range; refine wpList_range_own _ rfl _ 75 rfl 61 3 pairKeyed Try.underlying75 _ bu nu DU rfl hownU ?_; intro w0 hrg0 hg0 hs0)
  go_frame
  go_loopw [8] (fun _ wr => ∃ (left : Lit → Bool) (cnt n : Nat) (D : DataW Unit), AddSt w wr bt bu nt nu Ku K T U dx dy DU left cnt n D) (fun _ wr => wr.rangeLeft bu w.heap.size)
  case atStart => exact ⟨_, _, nt, D0, hrg0, fun _ h => h, Hown0.out.kept hg0 (by simp), by omega, Hstart.out, ⟨hg0.os, hg0.tape, hg0.output, hg0.size, fun i hi _ => hg0.block i hi (by simp)⟩⟩
  case round =>
    obtain ⟨left, cnt, n, D, hst⟩ := hrel
    have Hst := Lib.hid hst
    have hrg := hst.rg
    clear hst
    go_wp2_with (first
      | (at_next; refine wpList_next_ranges _ rfl _ rfl 61 pairKeyed _ (fun x : Int × Int => pairV x.1 x.2) (Value.int .i64) (fun key kl h => pair_inv h) (fun v y h => plain_inv v y h) bu w.heap.size nu DU _ _ rfl hrg ?_ ?_)
      | go_in)
    · intro hc0 hl0
      go_wp2
      refine bodyPost_end (v := .tuple #[]) (by simp [results, Try.results72, go_sem]) rfl ?_
      exact ⟨rfl, ⟨D, Hst.out.own.mono (by have := Hst.out.num; omega), Hst.out.holds.congr fun i j => addF_end hl0 i j⟩, Hst.out.chg⟩
    · intro x1 x2 c kl y1 y2 w1 cnt1 hkey hlk hR hat hrg1 hlt1 hg1 hs1 hen
      obtain ⟨i, j, hi, hj, hkp, hx, hcU⟩ := met_key (x := (x1, x2)) (y := (y1, y2)) HhU.out hkey (Hst.out.has kl hlk) hR hat
      obtain ⟨rfl, rfl⟩ := Prod.mk.inj hx
      obtain ⟨l2, hl2⟩ := key_ex (i := i + dx) (j := j + dy) (by omega) (by omega)
      have hl2' : keyOf Try.prog 61 (pairV ((i : Int) + (dx : Int)) ((j : Int) + (dy : Int))) = some l2 := hl2
      have hcb := HU.out i j
      rw [← hcU] at hcb
      have hszr := Hst.out.chg.size
      have Hen := Lib.hid hen; have Hrg1 := Lib.hid hrg1; have Hkp := Lib.hid hkp; have HcU := Lib.hid hcU; have Hlt1 := Lib.hid hlt1; have Hg1 := Lib.hid hg1
      have hsz1 : w1.heap.size = wr.heap.size := hs1
      obtain ⟨wk, hwk⟩ : ∃ wk, wk = w1.alloc (.cells #[.int .i64 (i : Int), .int .i64 (j : Int)] 61) := ⟨_, rfl⟩
      have hown2 : wk.drew.ownsMap Try.prog 61 (plainElem Try.prog 3) bt n D := by
        rw [hwk]
        exact ((Hst.out.own.kept hg1 (fun e => by have := Option.some.inj e; omega)).alloc _).drew
      have cells := two_cells w1 (.int .i64 (i : Int)) (.int .i64 (j : Int)) 61
      rw [← hwk] at cells
      have hszk : wk.heap.size = w1.heap.size + 1 := by rw [hwk]; simp
      have hnum := Hst.out.num
      obtain ⟨v, ps, st, w3, e1, e2, e3, e4, hg3, hs3, hput⟩ := own_entry hown2 pairKeyed Try.underlying75 (show n < maxLen by unfold maxLen; omega) zero_run (plainElem_int Try.underlying3 (by decide)) hl2'
      obtain ⟨q, rfl⟩ := plain_inv v _ e2
      have hq : q = addF T U dx dy left (i + dx) (j + dy) := by
        have h1 := plain_val e2
        rw [Hst.out.holds.at' _ _ _ hl2] at h1
        simp only [DataW.lit.injEq, Lit.int.injEq, true_and] at h1
        exact h1.symm
      have hqb : 0 ≤ q ∧ q ≤ 2000000000 := by
        have h1 := HT.out (i + dx) (j + dy); have h2 := HU.out i j
        rw [hq]; unfold addF
        simp only [Nat.add_sub_cancel]
        split <;> omega
      obtain ⟨w4, e5, hown4, hg4, hs4⟩ := hput (.int .i64 (q + c)) (.lit (.int .i64 (q + c))) [] (plainElem_int Try.underlying3 (WalkArith.wf_i64 (by omega)))
      have b3 : w3.heap[w1.heap.size]? = wk.heap[w1.heap.size]? := hg3.block _ (by show _ < wk.heap.size; omega) (fun e => by have := Option.some.inj e; omega)
      have b4 : w4.heap[w1.heap.size]? = wk.heap[w1.heap.size]? := hg4.block _ (by show _ < wk.heap.size; omega) (fun e => by have := Option.some.inj e; omega)
      have c3 : w3.cell? ⟨w1.heap.size, 0, none⟩ = some (.int .i64 (i : Int)) ∧ w3.cell? ⟨w1.heap.size, 1, none⟩ = some (.int .i64 (j : Int)) := by
        exact ⟨(World.cell?_of_block b3).trans cells.1, (World.cell?_of_block b3).trans cells.2⟩
      have c4 : w4.cell? ⟨w1.heap.size, 0, none⟩ = some (.int .i64 (i : Int)) ∧ w4.cell? ⟨w1.heap.size, 1, none⟩ = some (.int .i64 (j : Int)) := by
        exact ⟨(World.cell?_of_block b4).trans cells.1, (World.cell?_of_block b4).trans cells.2⟩
      have hfin : AddSt w w4 bt bu nt nu Ku K T U dx dy DU (fun z => left z && !z.sameKey kl) cnt1 (n + 1) (D.put l2 (.lit (.int .i64 (q + c)))) := by
        have gk : w1.grownBy w4 (some bt) := by
          have h1 : w1.grownBy wk none := by rw [hwk]; exact World.grownBy_alloc _ _ _
          have h2 : w1.grownBy wk.drew none := ⟨h1.os, h1.tape, h1.output, h1.size, h1.block⟩
          exact (h2.but (some bt)).andThen hg4 (fun j e => Or.inr e)
        have hbr : bt ≠ w.heap.size := by omega
        refine ⟨Hrg1.out.kept gk (fun e => hne (Option.some.inj e).symm) (fun e => hbr (Option.some.inj e).symm), fun l hl => Hst.out.has l (by simp only [Bool.and_eq_true] at hl; exact hl.1), hown4, by omega, ?_, ?_⟩
        · refine (Hst.out.holds.put Hst.out.own.isMap hl2 (K' := K) (Nat.le_refl _) (by omega) (by omega) (q + c)).congr fun a b => ?_
          rw [hq, HcU.out]; exact addF_step Hkp.out hlk a b
        · have ch := Hst.out.chg
          exact ⟨gk.os.trans (Hg1.out.os.trans ch.os), gk.tape.trans (Hg1.out.tape.trans ch.tape), gk.output.trans (Hg1.out.output.trans ch.output), by have := gk.size; omega,
            fun i hi hs => (gk.block i (by omega) (fun e => hs (Option.some.inj e))).trans ((Hg1.out.block i (by omega) (fun e => by have := Option.some.inj e; omega)).trans (ch.block i hi hs))⟩
      have Hfin := Lib.hid hfin
      have Hc := Lib.hid (And.intro hq hqb)
      have Hb := Lib.hid (And.intro b3 b4)
      clear hfin hq b3 b4 hown2 hown4 hput hkey hR hat hg1 hg3 hg4 hrg1 hkp hx hl2 hl2' hen hcU
      have hen := Hen.out
      go_upto_region 3 with fail
      rw [← hwk]
      clear hwk
      rw [hs1] at cells c3 c4
      have x1 : IntKind.i64.wrap ((i : Int) + (dx : Int)) = (i : Int) + (dx : Int) := wrap_few (by omega) (by omega)
      have x2 : IntKind.i64.wrap ((j : Int) + (dy : Int)) = (j : Int) + (dy : Int) := wrap_few (by omega) (by omega)
      have x3 : IntKind.i64.wrap (q + c) = q + c := wrap_few (by omega) (by omega)
      unfold pairV at e1 e3 e4
      go_region_held3 (fun w' => w'.cell? ⟨wr.heap.size, 0, none⟩ = some (.int .i64 (i : Int)) ∧ w'.cell? ⟨wr.heap.size, 1, none⟩ = some (.int .i64 (j : Int))) (first | exact cells | exact c3 | exact c4) (fail)
      all_goals go_wp2
      all_goals go_roundw
      case rel => exact ⟨_, _, _, _, Hfin.out⟩
      case measure => rw [Hfin.out.rg.left_eq, Hst.out.rg.left_eq]; exact Hlt1.out
      case rel => exact ⟨_, _, _, _, Hfin.out⟩
      case measure => rw [Hfin.out.rg.left_eq, Hst.out.rg.left_eq]; exact Hlt1.out

end Go.Proofs.Ytmhcnekbfngafaa
