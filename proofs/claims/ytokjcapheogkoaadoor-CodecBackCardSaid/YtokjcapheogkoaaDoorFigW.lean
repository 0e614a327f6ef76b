/- arborref.figure: the walk. -/
import Derived.Test.YtokjcapheogkoaaDoorReadM
namespace Go.Proofs.YtokjcapheogkoaaDoor
open Go Go.RowKit

/-- A number that stands there, or none. -/
def FigPost (w : World) (b : List UInt8) (p : Nat) (e : Ending) (w' : World) : Prop :=
  w' = w ∧ ((¬ noNum b p ∧ e = .returned (.tuple #[.int .i64 (numV b p : Int), .int .i64 (numE b p : Int)])) ∨ (noNum b p ∧ e = .returned (.tuple #[.int .i64 0, .int .i64 (-1)])))

set_option maxHeartbeats 1600000 in
set_option maxRecDepth 100000 in
theorem figure_any (b : List UInt8) (p : Nat) (w : World) (hp : p ≤ b.length) (hl : b.length ≤ 20000) :
    Calls Tryd.prog 38 #[.string (bA b), .int .i64 (p : Int)] w (FigPost w b p) := by
  have hrun := rl_run b p
  obtain ⟨K, hK⟩ : ∃ K, K = rl b p := ⟨_, rfl⟩
  have hno : noNum b p ↔ BadRun b p K := by unfold noNum; rw [hK]
  have hv : numV b p = valN b p K := by unfold numV; rw [hK]
  have he : numE b p = p + K := by unfold numE; rw [hK]
  rw [← hK] at hrun
  have hix := fun i => bA_at b i
  have hsz := bA_size b
  have Hix := Lib.hid hix
  have Hrun := Lib.hid hrun
  have Hno := Lib.hid hno; have Hv := Lib.hid hv; have He := Lib.hid he
  have hKl : p + K ≤ b.length := by
    rcases Nat.eq_zero_or_pos K with e | e
    · omega
    · have := (hrun.dig (K - 1) (by omega)).1; omega
  clear hix hrun hno hv he hK
  unfold FigPost
  generalize bA b = s at *
  go_enter Tryd.func38, Tryd.ntmps38
  go_wp2
  go_loopg [6, 7] (K + 1) (fun g s6 s7 wr => ∃ q : Nat, q ≤ K ∧ g = K + 1 - q ∧ s6 = .int .i64 ((p + q : Nat) : Int) ∧ s7 = .int .i64 (valN b p (min q 4) : Int) ∧ w = wr)
  case atStart => exact ⟨0, by omega, by omega, rfl, rfl, rfl⟩
  case round =>
    obtain ⟨q, hqK, rfl, rfl, rfl, rfl⟩ := hrel
    have hV := valN_few (min q 4) fun j hj => (Hrun.out.dig j (by omega)).2
    have hp4 : (10 : Nat) ^ (min q 4) ≤ 10 ^ 4 := Nat.pow_le_pow_right (by omega) (by omega)
    have hVs : q < 4 → valN b p (min (q + 1) 4) = 10 * valN b p (min q 4) + (bt b (p + q) - 48) := fun h => by
      rw [show min (q + 1) 4 = q + 1 by omega, show min q 4 = q by omega]; rfl
    have hVt : ¬ q < 4 → valN b p (min (q + 1) 4) = valN b p (min q 4) := fun h => by
      rw [show min (q + 1) 4 = 4 by omega, show min q 4 = 4 by omega]
    have HVs := Lib.hid hVs
    have HVt := Lib.hid hVt
    have hv4 : valN b p (min q 4) ≤ 10000 := by omega
    have hdig : p + q < b.length → (q < K ↔ digB (bt b (p + q))) := fun hl => ⟨fun e => (Hrun.out.dig q e).2, fun hd => by
      rcases Nat.lt_or_ge q K with e | e
      · exact e
      · obtain rfl : q = K := by omega
        exact absurd hd (Hrun.out.stop hl)⟩
    have hend : ¬ p + q < b.length → q = K := fun hl => by
      rcases Nat.lt_or_ge q K with e | e
      · exact absurd (Hrun.out.dig q e).1 hl
      · omega
    obtain ⟨n, hn⟩ : ∃ n, n = valN b p (min q 4) := ⟨_, rfl⟩
    obtain ⟨i, hi⟩ : ∃ i, i = p + q := ⟨_, rfl⟩
    have hix := Hix.out i
    have hx256 := bt_lt b i
    obtain ⟨x, hx⟩ : ∃ x, x = bt b i := ⟨_, rfl⟩
    rw [← hx] at hix hx256
    rw [← hn] at hv4 HVs HVt ⊢
    rw [← hi] at hdig hend HVs ⊢
    rw [← hx] at hdig HVs
    have Hi := Lib.hid hi
    have Hn := Lib.hid hn
    have hiq : q = i - p := by omega
    have hpi : p ≤ i := by omega
    have hil : i ≤ b.length := by omega
    unfold digB at hdig
    have Hix2 := Lib.hid hix
    have Hd := Lib.hid hdig; have Hend := Lib.hid hend
    clear hV hp4 hVs hVt hdig hend hn hi hx hix
    by_cases h1 : i < b.length
    · have hix := Hix2.out h1
      have i1 : (i : Int) < (b.length : Int) := by omega
      by_cases h2 : 48 ≤ x
      · have i2 : (48 : Int) ≤ (x : Int) := by omega
        by_cases h3 : x ≤ 57
        · have i3 : (x : Int) ≤ 57 := by omega
          have hlt : q < K := (Hd.out h1).2 ⟨h2, h3⟩
          have Hlt := Lib.hid hlt
          by_cases h4 : i < p + 4
          · have i4 : (i : Int) < (p : Int) + 4 := by omega
            obtain ⟨D, hD⟩ : ∃ D, D = x - 48 := ⟨_, rfl⟩
            have HD := Lib.hid hD
            have HV2 := Lib.hid (HVs.out (by omega))
            have e1 : 10 * (n : Int) + (x : Int) - 48 = 10 * (n : Int) + (D : Int) := by omega
            have hD9 : D ≤ 9 := by omega
            clear hD hlt hiq
            go_wp2
            go_roundg (K + 1 - (q + 1))
            case measure => have := Hi.out; have := Hlt.out; go_light; omega
            case rel => exact ⟨q + 1, by have := Hlt.out; omega, rfl, by rw [show p + (q + 1) = i + 1 by have := Hi.out; omega]; go_num, by rw [HV2.out, ← HD.out]; go_num, rfl⟩
          · have i4 : decide ((i : Int) < (p : Int) + 4) = false := decide_eq_false (by omega)
            have HV2 := Lib.hid (HVt.out (by omega))
            clear hlt hiq
            go_wp2
            go_roundg (K + 1 - (q + 1))
            case measure => have := Hi.out; have := Hlt.out; go_light; omega
            case rel => exact ⟨q + 1, by have := Hlt.out; omega, rfl, by rw [show p + (q + 1) = i + 1 by have := Hi.out; omega]; go_num, by rw [HV2.out], rfl⟩
        · have i3 : decide ((x : Int) ≤ 57) = false := decide_eq_false (by omega)
          have hlt : ¬ q < K := fun h => by have := ((Hd.out h1).1 h); omega
          have HqK : Hid (q = K) := Lib.hid (by omega)
          clear hlt hiq
          have hfive : (K = 0 ∧ i = p) ∨ (3 < K ∧ p + 3 < i) ∨ (1 < K ∧ K ≤ 3 ∧ i = p + K ∧ bt b p = 48) ∨ (K = 1 ∧ i = p + 1) ∨ (1 < K ∧ K ≤ 3 ∧ i = p + K ∧ bt b p ≠ 48) := by
            have := HqK.out
            have := Hi.out
            omega
          have hpl : 0 < K → p < b.length := fun h => (Hrun.out.dig 0 h).1
          rcases hfive with ⟨k1, k2⟩ | ⟨k1, k2⟩ | ⟨k1, k2, k3, k4⟩ | ⟨k1, k2⟩ | ⟨k1, k2, k3, k4⟩
          · have t1 : ((i : Int) == (p : Int)) = true := by simp [k2]
            have Hbad := Lib.hid (Hno.out.2 (Or.inl k1))
            clear k1 k2 hpl
            go_wp2
            refine bodyPost_ret (v := .tuple #[.int .i64 0, .int .i64 (-1)]) (by simp [results, Tryd.results38, go_sem]) rfl ?_
            exact ⟨rfl, Or.inr ⟨Hbad.out, rfl⟩⟩
          · have t1 : ((i : Int) == (p : Int)) = false := by simp; omega
            have t2 : (p : Int) + 3 < (i : Int) := by omega
            have Hbad := Lib.hid (Hno.out.2 (Or.inr (Or.inl k1)))
            clear k1 k2 hpl
            go_wp2
            refine bodyPost_ret (v := .tuple #[.int .i64 0, .int .i64 (-1)]) (by simp [results, Tryd.results38, go_sem]) rfl ?_
            exact ⟨rfl, Or.inr ⟨Hbad.out, rfl⟩⟩
          · have t1 : ((i : Int) == (p : Int)) = false := by simp; omega
            have t2 : decide ((p : Int) + 3 < (i : Int)) = false := decide_eq_false (by omega)
            have t3 : (p : Int) + 1 < (i : Int) := by omega
            have hixp := Hix.out p (hpl (by omega))
            rw [k4] at hixp
            have Hbad := Lib.hid (Hno.out.2 (Or.inr (Or.inr ⟨k1, k4⟩)))
            clear k1 k2 k3 k4 hpl
            go_wp2
            refine bodyPost_ret (v := .tuple #[.int .i64 0, .int .i64 (-1)]) (by simp [results, Tryd.results38, go_sem]) rfl ?_
            exact ⟨rfl, Or.inr ⟨Hbad.out, rfl⟩⟩
          · have t1 : ((i : Int) == (p : Int)) = false := by simp; omega
            have t2 : decide ((p : Int) + 3 < (i : Int)) = false := decide_eq_false (by omega)
            have t3 : decide ((p : Int) + 1 < (i : Int)) = false := decide_eq_false (by omega)
            have hixp := Hix.out p (hpl (by omega))
            have Hok := Lib.hid (show ¬ noNum b p from fun h => by have := Hno.out.1 h; unfold BadRun at this; omega)
            have Hres := Lib.hid (show numV b p = n ∧ numE b p = i by have := HqK.out; have := Hi.out; exact ⟨by rw [Hv.out, Hn.out, show min q 4 = K by omega], by rw [He.out]; omega⟩)
            generalize bt b p = y at *
            clear k1 k2 hpl
            by_cases hy : y = 48
            · have t4 : ((y : Int) == 48) = true := by simp [hy]
              clear hy
              go_wp2
              refine bodyPost_ret (v := .tuple #[.int .i64 (n : Int), .int .i64 (i : Int)]) (by simp [results, Tryd.results38, go_sem]) rfl ?_
              exact ⟨rfl, Or.inl ⟨Hok.out, by rw [Hres.out.1, Hres.out.2]⟩⟩
            · have t4 : ((y : Int) == 48) = false := by simp; omega
              clear hy
              go_wp2
              refine bodyPost_ret (v := .tuple #[.int .i64 (n : Int), .int .i64 (i : Int)]) (by simp [results, Tryd.results38, go_sem]) rfl ?_
              exact ⟨rfl, Or.inl ⟨Hok.out, by rw [Hres.out.1, Hres.out.2]⟩⟩
          · have t1 : ((i : Int) == (p : Int)) = false := by simp; omega
            have t2 : decide ((p : Int) + 3 < (i : Int)) = false := decide_eq_false (by omega)
            have t3 : (p : Int) + 1 < (i : Int) := by omega
            have hixp := Hix.out p (hpl (by omega))
            have t4 : (((bt b p : Nat) : Int) == 48) = false := by simp; omega
            have Hok := Lib.hid (show ¬ noNum b p from fun h => by have := Hno.out.1 h; unfold BadRun at this; omega)
            have Hres := Lib.hid (show numV b p = n ∧ numE b p = i by have := HqK.out; have := Hi.out; exact ⟨by rw [Hv.out, Hn.out, show min q 4 = K by omega], by rw [He.out]; omega⟩)
            generalize bt b p = y at *
            clear k1 k2 k3 k4 hpl
            go_wp2
            refine bodyPost_ret (v := .tuple #[.int .i64 (n : Int), .int .i64 (i : Int)]) (by simp [results, Tryd.results38, go_sem]) rfl ?_
            exact ⟨rfl, Or.inl ⟨Hok.out, by rw [Hres.out.1, Hres.out.2]⟩⟩
      · have i2 : decide ((48 : Int) ≤ (x : Int)) = false := decide_eq_false (by omega)
        have hlt : ¬ q < K := fun h => by have := ((Hd.out h1).1 h); omega
        have HqK : Hid (q = K) := Lib.hid (by omega)
        clear hlt hiq
        have hfive : (K = 0 ∧ i = p) ∨ (3 < K ∧ p + 3 < i) ∨ (1 < K ∧ K ≤ 3 ∧ i = p + K ∧ bt b p = 48) ∨ (K = 1 ∧ i = p + 1) ∨ (1 < K ∧ K ≤ 3 ∧ i = p + K ∧ bt b p ≠ 48) := by
          have := HqK.out
          have := Hi.out
          omega
        have hpl : 0 < K → p < b.length := fun h => (Hrun.out.dig 0 h).1
        rcases hfive with ⟨k1, k2⟩ | ⟨k1, k2⟩ | ⟨k1, k2, k3, k4⟩ | ⟨k1, k2⟩ | ⟨k1, k2, k3, k4⟩
        · have t1 : ((i : Int) == (p : Int)) = true := by simp [k2]
          have Hbad := Lib.hid (Hno.out.2 (Or.inl k1))
          clear k1 k2 hpl
          go_wp2
          refine bodyPost_ret (v := .tuple #[.int .i64 0, .int .i64 (-1)]) (by simp [results, Tryd.results38, go_sem]) rfl ?_
          exact ⟨rfl, Or.inr ⟨Hbad.out, rfl⟩⟩
        · have t1 : ((i : Int) == (p : Int)) = false := by simp; omega
          have t2 : (p : Int) + 3 < (i : Int) := by omega
          have Hbad := Lib.hid (Hno.out.2 (Or.inr (Or.inl k1)))
          clear k1 k2 hpl
          go_wp2
          refine bodyPost_ret (v := .tuple #[.int .i64 0, .int .i64 (-1)]) (by simp [results, Tryd.results38, go_sem]) rfl ?_
          exact ⟨rfl, Or.inr ⟨Hbad.out, rfl⟩⟩
        · have t1 : ((i : Int) == (p : Int)) = false := by simp; omega
          have t2 : decide ((p : Int) + 3 < (i : Int)) = false := decide_eq_false (by omega)
          have t3 : (p : Int) + 1 < (i : Int) := by omega
          have hixp := Hix.out p (hpl (by omega))
          rw [k4] at hixp
          have Hbad := Lib.hid (Hno.out.2 (Or.inr (Or.inr ⟨k1, k4⟩)))
          clear k1 k2 k3 k4 hpl
          go_wp2
          refine bodyPost_ret (v := .tuple #[.int .i64 0, .int .i64 (-1)]) (by simp [results, Tryd.results38, go_sem]) rfl ?_
          exact ⟨rfl, Or.inr ⟨Hbad.out, rfl⟩⟩
        · have t1 : ((i : Int) == (p : Int)) = false := by simp; omega
          have t2 : decide ((p : Int) + 3 < (i : Int)) = false := decide_eq_false (by omega)
          have t3 : decide ((p : Int) + 1 < (i : Int)) = false := decide_eq_false (by omega)
          have hixp := Hix.out p (hpl (by omega))
          have Hok := Lib.hid (show ¬ noNum b p from fun h => by have := Hno.out.1 h; unfold BadRun at this; omega)
          have Hres := Lib.hid (show numV b p = n ∧ numE b p = i by have := HqK.out; have := Hi.out; exact ⟨by rw [Hv.out, Hn.out, show min q 4 = K by omega], by rw [He.out]; omega⟩)
          generalize bt b p = y at *
          clear k1 k2 hpl
          by_cases hy : y = 48
          · have t4 : ((y : Int) == 48) = true := by simp [hy]
            clear hy
            go_wp2
            refine bodyPost_ret (v := .tuple #[.int .i64 (n : Int), .int .i64 (i : Int)]) (by simp [results, Tryd.results38, go_sem]) rfl ?_
            exact ⟨rfl, Or.inl ⟨Hok.out, by rw [Hres.out.1, Hres.out.2]⟩⟩
          · have t4 : ((y : Int) == 48) = false := by simp; omega
            clear hy
            go_wp2
            refine bodyPost_ret (v := .tuple #[.int .i64 (n : Int), .int .i64 (i : Int)]) (by simp [results, Tryd.results38, go_sem]) rfl ?_
            exact ⟨rfl, Or.inl ⟨Hok.out, by rw [Hres.out.1, Hres.out.2]⟩⟩
        · have t1 : ((i : Int) == (p : Int)) = false := by simp; omega
          have t2 : decide ((p : Int) + 3 < (i : Int)) = false := decide_eq_false (by omega)
          have t3 : (p : Int) + 1 < (i : Int) := by omega
          have hixp := Hix.out p (hpl (by omega))
          have t4 : (((bt b p : Nat) : Int) == 48) = false := by simp; omega
          have Hok := Lib.hid (show ¬ noNum b p from fun h => by have := Hno.out.1 h; unfold BadRun at this; omega)
          have Hres := Lib.hid (show numV b p = n ∧ numE b p = i by have := HqK.out; have := Hi.out; exact ⟨by rw [Hv.out, Hn.out, show min q 4 = K by omega], by rw [He.out]; omega⟩)
          generalize bt b p = y at *
          clear k1 k2 k3 k4 hpl
          go_wp2
          refine bodyPost_ret (v := .tuple #[.int .i64 (n : Int), .int .i64 (i : Int)]) (by simp [results, Tryd.results38, go_sem]) rfl ?_
          exact ⟨rfl, Or.inl ⟨Hok.out, by rw [Hres.out.1, Hres.out.2]⟩⟩
    · have i1 : decide ((i : Int) < (b.length : Int)) = false := decide_eq_false (by omega)
      have HqK : Hid (q = K) := Lib.hid (Hend.out h1)
      clear hiq
      have hfive : (K = 0 ∧ i = p) ∨ (3 < K ∧ p + 3 < i) ∨ (1 < K ∧ K ≤ 3 ∧ i = p + K ∧ bt b p = 48) ∨ (K = 1 ∧ i = p + 1) ∨ (1 < K ∧ K ≤ 3 ∧ i = p + K ∧ bt b p ≠ 48) := by
        have := HqK.out
        have := Hi.out
        omega
      have hpl : 0 < K → p < b.length := fun h => (Hrun.out.dig 0 h).1
      rcases hfive with ⟨k1, k2⟩ | ⟨k1, k2⟩ | ⟨k1, k2, k3, k4⟩ | ⟨k1, k2⟩ | ⟨k1, k2, k3, k4⟩
      · have t1 : ((i : Int) == (p : Int)) = true := by simp [k2]
        have Hbad := Lib.hid (Hno.out.2 (Or.inl k1))
        clear k1 k2 hpl
        go_wp2
        refine bodyPost_ret (v := .tuple #[.int .i64 0, .int .i64 (-1)]) (by simp [results, Tryd.results38, go_sem]) rfl ?_
        exact ⟨rfl, Or.inr ⟨Hbad.out, rfl⟩⟩
      · have t1 : ((i : Int) == (p : Int)) = false := by simp; omega
        have t2 : (p : Int) + 3 < (i : Int) := by omega
        have Hbad := Lib.hid (Hno.out.2 (Or.inr (Or.inl k1)))
        clear k1 k2 hpl
        go_wp2
        refine bodyPost_ret (v := .tuple #[.int .i64 0, .int .i64 (-1)]) (by simp [results, Tryd.results38, go_sem]) rfl ?_
        exact ⟨rfl, Or.inr ⟨Hbad.out, rfl⟩⟩
      · have t1 : ((i : Int) == (p : Int)) = false := by simp; omega
        have t2 : decide ((p : Int) + 3 < (i : Int)) = false := decide_eq_false (by omega)
        have t3 : (p : Int) + 1 < (i : Int) := by omega
        have hixp := Hix.out p (hpl (by omega))
        rw [k4] at hixp
        have Hbad := Lib.hid (Hno.out.2 (Or.inr (Or.inr ⟨k1, k4⟩)))
        clear k1 k2 k3 k4 hpl
        go_wp2
        refine bodyPost_ret (v := .tuple #[.int .i64 0, .int .i64 (-1)]) (by simp [results, Tryd.results38, go_sem]) rfl ?_
        exact ⟨rfl, Or.inr ⟨Hbad.out, rfl⟩⟩
      · have t1 : ((i : Int) == (p : Int)) = false := by simp; omega
        have t2 : decide ((p : Int) + 3 < (i : Int)) = false := decide_eq_false (by omega)
        have t3 : decide ((p : Int) + 1 < (i : Int)) = false := decide_eq_false (by omega)
        have hixp := Hix.out p (hpl (by omega))
        have Hok := Lib.hid (show ¬ noNum b p from fun h => by have := Hno.out.1 h; unfold BadRun at this; omega)
        have Hres := Lib.hid (show numV b p = n ∧ numE b p = i by have := HqK.out; have := Hi.out; exact ⟨by rw [Hv.out, Hn.out, show min q 4 = K by omega], by rw [He.out]; omega⟩)
        generalize bt b p = y at *
        clear k1 k2 hpl
        by_cases hy : y = 48
        · have t4 : ((y : Int) == 48) = true := by simp [hy]
          clear hy
          go_wp2
          refine bodyPost_ret (v := .tuple #[.int .i64 (n : Int), .int .i64 (i : Int)]) (by simp [results, Tryd.results38, go_sem]) rfl ?_
          exact ⟨rfl, Or.inl ⟨Hok.out, by rw [Hres.out.1, Hres.out.2]⟩⟩
        · have t4 : ((y : Int) == 48) = false := by simp; omega
          clear hy
          go_wp2
          refine bodyPost_ret (v := .tuple #[.int .i64 (n : Int), .int .i64 (i : Int)]) (by simp [results, Tryd.results38, go_sem]) rfl ?_
          exact ⟨rfl, Or.inl ⟨Hok.out, by rw [Hres.out.1, Hres.out.2]⟩⟩
      · have t1 : ((i : Int) == (p : Int)) = false := by simp; omega
        have t2 : decide ((p : Int) + 3 < (i : Int)) = false := decide_eq_false (by omega)
        have t3 : (p : Int) + 1 < (i : Int) := by omega
        have hixp := Hix.out p (hpl (by omega))
        have t4 : (((bt b p : Nat) : Int) == 48) = false := by simp; omega
        have Hok := Lib.hid (show ¬ noNum b p from fun h => by have := Hno.out.1 h; unfold BadRun at this; omega)
        have Hres := Lib.hid (show numV b p = n ∧ numE b p = i by have := HqK.out; have := Hi.out; exact ⟨by rw [Hv.out, Hn.out, show min q 4 = K by omega], by rw [He.out]; omega⟩)
        generalize bt b p = y at *
        clear k1 k2 k3 k4 hpl
        go_wp2
        refine bodyPost_ret (v := .tuple #[.int .i64 (n : Int), .int .i64 (i : Int)]) (by simp [results, Tryd.results38, go_sem]) rfl ?_
        exact ⟨rfl, Or.inl ⟨Hok.out, by rw [Hres.out.1, Hres.out.2]⟩⟩

end Go.Proofs.YtokjcapheogkoaaDoor
