/- codec.reader: fail, want, number. -/
import Derived.Test.YtokjcapheogkoaaDoorReadP
import Derived.Test.YtokjcapheogkoaaDoorCodM
import Derived.Deep.LoopGhost
import Derived.Deep.Light
import Derived.StillTailTactics
namespace Go.Proofs.YtokjcapheogkoaaDoor
open Go Go.RowKit

/-- A reader: its text, and where it stands. -/
def RAt (w : World) (r : Nat) (b : ByteArray) (p : Nat) : Prop := w.rowIs r 67 2 (fun i => if i = 0 then .string b else .int .i64 (p : Int))
theorem RAt.facts {w : World} {r : Nat} {b : ByteArray} {p : Nat} (h : RAt w r b p) : w.cell? ⟨r, 0, none⟩ = some (.string b) ∧ w.cell? ⟨r, 1, none⟩ = some (.int .i64 (p : Int)) ∧ w.frozen? ⟨r, 1, none⟩ = false ∧ r < w.heap.size :=
  ⟨by rw [h.cell (show 0 < 2 by omega)]; rfl, by rw [h.cell (show 1 < 2 by omega)]; rfl, h.frozen 1, h.lt⟩
theorem RAt.put {w : World} {r : Nat} {b : ByteArray} {p : Nat} (h : RAt w r b p) (q : Nat) : RAt (w.setCell ⟨r, 1, none⟩ (.int .i64 (q : Int))) r b q :=
  (h.set 1 _).congr fun i hi => by
    match i, hi with
    | 0, _ => rfl
    | 1, _ => rfl
theorem RAt.below {w w' : World} {r : Nat} {b : ByteArray} {p : Nat} (h : RAt w r b p) (hb : Below w.heap.size w w') : RAt w' r b p := h.of_block (hb.block _ h.lt)
/-- What is thrown. -/
abbrev Thrown (c a : Int) (e : Ending) : Prop := e = .panicked [{ v := .iface 64 (.agg #[.int .i64 c, .int .i64 a]), recovered := false }]

theorem cofault_any (c a : Int) (w : World) :
    Calls Tryd.prog 30 #[.int .i64 c, .int .i64 a] w fun e w' => e = .returned (.agg #[.int .i64 c, .int .i64 a]) ∧ w.alloc (.cells #[.int .i64 c, .int .i64 a] 27) = w' := by
  go_enter Tryd.func30, Tryd.ntmps30
  go_wp2
  exact bodyPost_ret (v := .agg #[.int .i64 c, .int .i64 a]) (by simp [results, Tryd.results30, go_sem]) rfl ⟨rfl, rfl⟩

set_option maxHeartbeats 1000000 in
set_option maxRecDepth 100000 in
theorem fail_any (v : Value) (c a : Int) (w : World) :
    Calls Tryd.prog 36 #[v, .int .i64 c, .int .i64 a] w fun e w' => Thrown c a e ∧ Below w.heap.size w w' := by
  go_enter Tryd.func36, Tryd.ntmps36
  go_wp2_with (go_at_call 30; refine (cofault_any c a _).mono ?_; rintro e w1 ⟨rfl, rfl⟩)
  exact ⟨rfl, rfl, below1 _ _⟩

theorem bA_at (b : List UInt8) (i : Nat) (hi : i < b.length) (W : World) : (Instr.index 9 (.string (bA b)) (.int .i64 (i : Int))).run Tryd.prog W = .ok (.int .u8 (bt b i : Nat)) W := by
  have h : 0 ≤ (i : Int) ∧ (i : Int) < (bA b).size := by rw [bA_size]; omega
  rw [run_index_string W 9 (bA b) .i64 (i : Int) Tryd.underlying9, dif_pos h]
  congr 3
  show ((b.toArray)[(i : Int).toNat]'_).toNat = _
  simp [bt, List.getD, hi]
/-- One byte that must stand there. -/
def WantPost (w : World) (r : Nat) (b : List UInt8) (p c : Nat) (e : Ending) (w' : World) : Prop :=
  Chg (· = r) w w' ∧ ((hasB b p c ∧ e = .returned (.tuple #[]) ∧ RAt w' r (bA b) (p + 1)) ∨ (¬ hasB b p c ∧ Thrown 1 p e))

theorem RAt.drewN {w : World} {r : Nat} {b : ByteArray} {p : Nat} (h : RAt w r b p) (n : Nat) : RAt (w.drewN n) r b p := h
set_option maxHeartbeats 1000000 in
set_option maxRecDepth 100000 in
theorem want_any (r : Nat) (b : List UInt8) (p c : Nat) (w : World) (h : RAt w r (bA b) p) (hp : p ≤ b.length) (hl : b.length ≤ 20000) :
    Calls Tryd.prog 35 #[.pointer (some ⟨r, 0, none⟩), .int .u8 (c : Int)] w (WantPost w r b p c) := by
  obtain ⟨c0, c1, fz, hr⟩ := h.facts
  have H := Lib.hid h
  have hix := bA_at b p
  have hsz := bA_size b
  have Hix := Lib.hid hix
  unfold WantPost
  generalize bA b = s at *
  clear h hix
  go_enter Tryd.func35, Tryd.ntmps35
  by_cases hpl : p < b.length
  · have hix := Hix.out hpl
    have g1 : ((p : Int) == (b.length : Int)) = false := by simp; omega
    generalize hx : bt b p = x at *
    by_cases hc : x = c
    · have g2 : ((x : Int) != (c : Int)) = false := by simp [hc]
      have Hh := Lib.hid (show hasB b p c from ⟨hpl, hx.trans hc⟩)
      clear hx hc
      go_wp2
      go_quiet (fail)
      go_wp2
      refine bodyPost_end (v := .tuple #[]) (by simp [results, Tryd.results35, go_sem]) rfl ?_
      exact ⟨((Chg.refl (· = r) _).drewN _).setCell (p := ⟨r, 1, none⟩) (fun _ => rfl) _, Or.inl ⟨Hh.out, rfl, (H.out.drewN _).put (p + 1)⟩⟩
    · have g2 : ((x : Int) != (c : Int)) = true := by simp; omega
      have Hh := Lib.hid (show ¬ hasB b p c from fun h => hc (hx.symm.trans h.2))
      clear hx hc
      go_wp2
      go_quiet (fail)
      go_wp2_with fail
      refine (fail_any _ 1 p _).mono ?_
      rintro e w1 ⟨rfl, hb1⟩
      exact ⟨rfl, (((Chg.refl _ _).drewN _).trans (Chg.ofBelow hb1)), Or.inr ⟨Hh.out, rfl⟩⟩
  · have g1 : ((p : Int) == (b.length : Int)) = true := by simp; omega
    have Hh := Lib.hid (show ¬ hasB b p c from fun h => hpl h.1)
    clear hpl
    go_wp2
    go_quiet (fail)
    go_wp2_with fail
    refine (fail_any _ 1 p _).mono ?_
    rintro e w1 ⟨rfl, hb1⟩
    exact ⟨rfl, (((Chg.refl _ _).drewN _).trans (Chg.ofBelow hb1)), Or.inr ⟨Hh.out, rfl⟩⟩

/-- A number that must stand there. -/
def NumPost (w : World) (r : Nat) (b : List UInt8) (p : Nat) (e : Ending) (w' : World) : Prop :=
  Chg (· = r) w w' ∧ ((¬ noNum b p ∧ e = .returned (.int .i64 (numV b p : Int)) ∧ RAt w' r (bA b) (numE b p)) ∨ (noNum b p ∧ Thrown 1 p e))

set_option maxHeartbeats 1600000 in
set_option maxRecDepth 100000 in
theorem number_any (r : Nat) (b : List UInt8) (p : Nat) (w : World) (h : RAt w r (bA b) p) (hp : p ≤ b.length) (hl : b.length ≤ 20000) :
    Calls Tryd.prog 34 #[.pointer (some ⟨r, 0, none⟩)] w (NumPost w r b p) := by
  have hrun := rl_run b p
  obtain ⟨K, hK⟩ : ∃ K, K = rl b p := ⟨_, rfl⟩
  have hno : noNum b p ↔ BadRun b p K := by unfold noNum; rw [hK]
  have hv : numV b p = valN b p K := by unfold numV; rw [hK]
  have he : numE b p = p + K := by unfold numE; rw [hK]
  rw [← hK] at hrun
  obtain ⟨c0, c1, fz, hr⟩ := h.facts
  have H := Lib.hid h
  have hix := fun i => bA_at b i
  have hsz := bA_size b
  have Hix := Lib.hid hix
  have Hrun := Lib.hid hrun
  have Hno := Lib.hid hno; have Hv := Lib.hid hv; have He := Lib.hid he
  clear hix hrun hno hv he hK
  unfold NumPost
  generalize bA b = s at *
  clear h
  go_enter Tryd.func34, Tryd.ntmps34
  go_wp2
  clear c0 c1 fz
  go_loopg [4] 4 (fun g s4 wr => ∃ q : Nat, q ≤ 4 ∧ q ≤ K ∧ g = 4 - q ∧ s4 = .int .i64 (valN b p q : Int) ∧ RAt wr r s (p + q) ∧ Chg (· = r) w wr)
  case atStart => exact ⟨0, by omega, by omega, rfl, rfl, H.out, Chg.refl _ _⟩
  case round =>
    obtain ⟨q, hq, hqK, rfl, rfl, hR, hC⟩ := hrel
    obtain ⟨c0, c1, fz, hrr⟩ := hR.facts
    have hV := valN_few q fun j hj => (Hrun.out.dig j (by omega)).2
    have hp4 : (10 : Nat) ^ q ≤ 10 ^ 4 := Nat.pow_le_pow_right (by omega) hq
    have hVs : valN b p (q + 1) = 10 * valN b p q + (bt b (p + q) - 48) := rfl
    have HR := Lib.hid hR; have HC := Lib.hid hC; have HVs := Lib.hid hVs
    have hv4 : valN b p q ≤ 10000 := by omega
    have HV : Hid (q = K → valN b p q = valN b p K) := Lib.hid fun e => by rw [e]
    have hdig : p + q < b.length → (q < K ↔ digB (bt b (p + q))) := fun hl => ⟨fun e => (Hrun.out.dig q e).2, fun hd => by
      rcases Nat.lt_or_ge q K with e | e
      · exact e
      · obtain rfl : q = K := by omega
        exact absurd hd (Hrun.out.stop hl)⟩
    have hend : ¬ p + q < b.length → q = K := fun hl => by
      rcases Nat.lt_or_ge q K with e | e
      · exact absurd (Hrun.out.dig q e).1 hl
      · omega
    obtain ⟨n, hn⟩ : ∃ n, n = valN b p q := ⟨_, rfl⟩
    obtain ⟨at_, hat⟩ : ∃ at_, at_ = p + q := ⟨_, rfl⟩
    have hix := Hix.out at_
    have hx256 := bt_lt b at_
    obtain ⟨x, hx⟩ : ∃ x, x = bt b at_ := ⟨_, rfl⟩
    rw [← hx] at hix hx256
    rw [← hn] at hv4 HV HVs ⊢
    rw [← hat] at c1 HR hdig hend HVs
    rw [← hx] at hdig HVs
    have Hat := Lib.hid hat
    have Hn := Lib.hid hn
    have hat4 : at_ ≤ p + 4 := by omega
    have hpat : p ≤ at_ := by omega
    have hatq : q = at_ - p := by omega
    unfold digB at hdig
    have Hix2 := Lib.hid hix
    have Hd := Lib.hid hdig; have Hend := Lib.hid hend
    clear hR hC hV hp4 hVs hdig hend hn hat hx hix
    by_cases h1 : at_ < b.length
    · have hix := Hix2.out h1
      by_cases h2 : 48 ≤ x
      · by_cases h3 : x ≤ 57
        · by_cases h4 : at_ < p + 4
          · have i1 : (at_ : Int) < (b.length : Int) := by omega
            have i2 : (48 : Int) ≤ (x : Int) := by omega
            have i3 : (x : Int) ≤ 57 := by omega
            have i4 : (at_ : Int) < (p : Int) + 4 := by omega
            obtain ⟨D, hD⟩ : ∃ D, D = x - 48 := ⟨_, rfl⟩
            have e1 : (x : Int) - 48 = (D : Int) := by omega
            have e2 : IntKind.u8.wrap (D : Int) = (D : Int) := u8_wrap (by omega)
            have hD9 : D ≤ 9 := by omega
            have hlt : q < K := (Hd.out h1).2 ⟨h2, h3⟩
            have Hlt := Lib.hid hlt
            have HD := Lib.hid hD
            clear hD hlt hatq
            go_wp2
            go_quiet (fail)
            go_wp2
            go_quiet (fail)
            go_wp2
            go_roundg (4 - (q + 1))
            case measure => have := Hat.out; have := Hlt.out; go_light; omega
            case rel => exact ⟨q + 1, by have := Hat.out; omega, by have := Hlt.out; omega, rfl, by rw [HVs.out, ← HD.out]; go_num, by rw [show p + (q + 1) = at_ + 1 by have := Hat.out; omega]; exact (HR.out.drewN _).put (at_ + 1), (HC.out.drewN _).setCell (p := ⟨r, 1, none⟩) (fun _ => rfl) _⟩
          · have i1 : (at_ : Int) < (b.length : Int) := by omega
            have i2 : (48 : Int) ≤ (x : Int) := by omega
            have i3 : (x : Int) ≤ 57 := by omega
            have i4 : decide ((at_ : Int) < (p : Int) + 4) = false := decide_eq_false (by omega)
            have hlt : q < K := (Hd.out h1).2 ⟨h2, h3⟩
            have hq4 : q = K ∨ (q = 4 ∧ 3 < K) := Or.inr (by omega)
            have Hq4 := Lib.hid hq4
            clear hlt hq4 hatq
            go_wp2
            go_quiet (fail)
            go_upto_region 5 with fail
            have hfive : (K = 0 ∧ at_ = p) ∨ (3 < K ∧ at_ = p + 4) ∨ (1 < K ∧ K ≤ 3 ∧ at_ = p + K ∧ bt b p = 48) ∨ (K = 1 ∧ at_ = p + 1) ∨ (1 < K ∧ K ≤ 3 ∧ at_ = p + K ∧ bt b p ≠ 48) := by
              have := Hq4.out
              have := Hat.out
              omega
            have hpl : 0 < K → p < b.length := fun h => (Hrun.out.dig 0 h).1
            rcases hfive with ⟨k1, k2⟩ | ⟨k1, k2⟩ | ⟨k1, k2, k3, k4⟩ | ⟨k1, k2⟩ | ⟨k1, k2, k3, k4⟩
            · have t1 : ((at_ : Int) == (p : Int)) = true := by simp [k2]
              have Hbad := Lib.hid (Hno.out.2 (Or.inl k1))
              clear k1 k2 hpl
              go_wp2_with fail
              refine (fail_any _ 1 p _).mono ?_
              rintro e w1 ⟨rfl, hb1⟩
              exact ⟨rfl, ((HC.out.drewN _).trans (Chg.ofBelow hb1)), Or.inr ⟨Hbad.out, rfl⟩⟩
            · have t1 : ((at_ : Int) == (p : Int)) = false := by simp; omega
              have t2 : (p : Int) + 3 < (at_ : Int) := by omega
              have Hbad := Lib.hid (Hno.out.2 (Or.inr (Or.inl k1)))
              clear k1 k2 hpl
              go_wp2_with fail
              refine (fail_any _ 1 p _).mono ?_
              rintro e w1 ⟨rfl, hb1⟩
              exact ⟨rfl, ((HC.out.drewN _).trans (Chg.ofBelow hb1)), Or.inr ⟨Hbad.out, rfl⟩⟩
            · have t1 : ((at_ : Int) == (p : Int)) = false := by simp; omega
              have t2 : decide ((p : Int) + 3 < (at_ : Int)) = false := decide_eq_false (by omega)
              have t3 : (p : Int) + 1 < (at_ : Int) := by omega
              have hixp := Hix.out p (hpl (by omega))
              rw [k4] at hixp
              have Hbad := Lib.hid (Hno.out.2 (Or.inr (Or.inr ⟨k1, k4⟩)))
              clear k1 k2 k3 k4 hpl
              go_wp2_with fail
              refine (fail_any _ 1 p _).mono ?_
              rintro e w1 ⟨rfl, hb1⟩
              exact ⟨rfl, ((HC.out.drewN _).trans (Chg.ofBelow hb1)), Or.inr ⟨Hbad.out, rfl⟩⟩
            · have t1 : ((at_ : Int) == (p : Int)) = false := by simp; omega
              have t2 : decide ((p : Int) + 3 < (at_ : Int)) = false := decide_eq_false (by omega)
              have t3 : decide ((p : Int) + 1 < (at_ : Int)) = false := decide_eq_false (by omega)
              have Hok := Lib.hid (show ¬ noNum b p from fun h => by have := Hno.out.1 h; unfold BadRun at this; omega)
              have Hres := Lib.hid (show numV b p = n ∧ numE b p = at_ by have := Hq4.out; have := Hat.out; exact ⟨by rw [Hv.out, Hn.out, show q = K by omega], by rw [He.out]; omega⟩)
              clear k1 k2 hpl
              go_wp2
              refine bodyPost_ret (v := .int .i64 (n : Int)) (by simp [results, Tryd.results34, go_sem]) rfl ?_
              exact ⟨(HC.out.drewN _), Or.inl ⟨Hok.out, by rw [Hres.out.1], by rw [Hres.out.2]; exact HR.out.drewN _⟩⟩
            · have t1 : ((at_ : Int) == (p : Int)) = false := by simp; omega
              have t2 : decide ((p : Int) + 3 < (at_ : Int)) = false := decide_eq_false (by omega)
              have t3 : (p : Int) + 1 < (at_ : Int) := by omega
              have hixp := Hix.out p (hpl (by omega))
              have t4 : (((bt b p : Nat) : Int) == 48) = false := by simp; omega
              have Hok := Lib.hid (show ¬ noNum b p from fun h => by have := Hno.out.1 h; unfold BadRun at this; omega)
              have Hres := Lib.hid (show numV b p = n ∧ numE b p = at_ by have := Hq4.out; have := Hat.out; exact ⟨by rw [Hv.out, Hn.out, show q = K by omega], by rw [He.out]; omega⟩)
              generalize bt b p = y at *
              clear k1 k2 k3 k4 hpl
              go_wp2
              refine bodyPost_ret (v := .int .i64 (n : Int)) (by simp [results, Tryd.results34, go_sem]) rfl ?_
              exact ⟨(HC.out.drewN _), Or.inl ⟨Hok.out, by rw [Hres.out.1], by rw [Hres.out.2]; exact HR.out.drewN _⟩⟩
        · have i1 : (at_ : Int) < (b.length : Int) := by omega
          have i2 : (48 : Int) ≤ (x : Int) := by omega
          have i3 : decide ((x : Int) ≤ 57) = false := decide_eq_false (by omega)
          have hlt : ¬ q < K := fun h => by have := ((Hd.out h1).1 h); omega
          have hq4 : q = K ∨ (q = 4 ∧ 3 < K) := Or.inl (by omega)
          have Hq4 := Lib.hid hq4
          clear hlt hq4 hatq
          go_wp2
          go_quiet (fail)
          go_upto_region 5 with fail
          have hfive : (K = 0 ∧ at_ = p) ∨ (3 < K ∧ at_ = p + 4) ∨ (1 < K ∧ K ≤ 3 ∧ at_ = p + K ∧ bt b p = 48) ∨ (K = 1 ∧ at_ = p + 1) ∨ (1 < K ∧ K ≤ 3 ∧ at_ = p + K ∧ bt b p ≠ 48) := by
            have := Hq4.out
            have := Hat.out
            omega
          have hpl : 0 < K → p < b.length := fun h => (Hrun.out.dig 0 h).1
          rcases hfive with ⟨k1, k2⟩ | ⟨k1, k2⟩ | ⟨k1, k2, k3, k4⟩ | ⟨k1, k2⟩ | ⟨k1, k2, k3, k4⟩
          · have t1 : ((at_ : Int) == (p : Int)) = true := by simp [k2]
            have Hbad := Lib.hid (Hno.out.2 (Or.inl k1))
            clear k1 k2 hpl
            go_wp2_with fail
            refine (fail_any _ 1 p _).mono ?_
            rintro e w1 ⟨rfl, hb1⟩
            exact ⟨rfl, ((HC.out.drewN _).trans (Chg.ofBelow hb1)), Or.inr ⟨Hbad.out, rfl⟩⟩
          · have t1 : ((at_ : Int) == (p : Int)) = false := by simp; omega
            have t2 : (p : Int) + 3 < (at_ : Int) := by omega
            have Hbad := Lib.hid (Hno.out.2 (Or.inr (Or.inl k1)))
            clear k1 k2 hpl
            go_wp2_with fail
            refine (fail_any _ 1 p _).mono ?_
            rintro e w1 ⟨rfl, hb1⟩
            exact ⟨rfl, ((HC.out.drewN _).trans (Chg.ofBelow hb1)), Or.inr ⟨Hbad.out, rfl⟩⟩
          · have t1 : ((at_ : Int) == (p : Int)) = false := by simp; omega
            have t2 : decide ((p : Int) + 3 < (at_ : Int)) = false := decide_eq_false (by omega)
            have t3 : (p : Int) + 1 < (at_ : Int) := by omega
            have hixp := Hix.out p (hpl (by omega))
            rw [k4] at hixp
            have Hbad := Lib.hid (Hno.out.2 (Or.inr (Or.inr ⟨k1, k4⟩)))
            clear k1 k2 k3 k4 hpl
            go_wp2_with fail
            refine (fail_any _ 1 p _).mono ?_
            rintro e w1 ⟨rfl, hb1⟩
            exact ⟨rfl, ((HC.out.drewN _).trans (Chg.ofBelow hb1)), Or.inr ⟨Hbad.out, rfl⟩⟩
          · have t1 : ((at_ : Int) == (p : Int)) = false := by simp; omega
            have t2 : decide ((p : Int) + 3 < (at_ : Int)) = false := decide_eq_false (by omega)
            have t3 : decide ((p : Int) + 1 < (at_ : Int)) = false := decide_eq_false (by omega)
            have Hok := Lib.hid (show ¬ noNum b p from fun h => by have := Hno.out.1 h; unfold BadRun at this; omega)
            have Hres := Lib.hid (show numV b p = n ∧ numE b p = at_ by have := Hq4.out; have := Hat.out; exact ⟨by rw [Hv.out, Hn.out, show q = K by omega], by rw [He.out]; omega⟩)
            clear k1 k2 hpl
            go_wp2
            refine bodyPost_ret (v := .int .i64 (n : Int)) (by simp [results, Tryd.results34, go_sem]) rfl ?_
            exact ⟨(HC.out.drewN _), Or.inl ⟨Hok.out, by rw [Hres.out.1], by rw [Hres.out.2]; exact HR.out.drewN _⟩⟩
          · have t1 : ((at_ : Int) == (p : Int)) = false := by simp; omega
            have t2 : decide ((p : Int) + 3 < (at_ : Int)) = false := decide_eq_false (by omega)
            have t3 : (p : Int) + 1 < (at_ : Int) := by omega
            have hixp := Hix.out p (hpl (by omega))
            have t4 : (((bt b p : Nat) : Int) == 48) = false := by simp; omega
            have Hok := Lib.hid (show ¬ noNum b p from fun h => by have := Hno.out.1 h; unfold BadRun at this; omega)
            have Hres := Lib.hid (show numV b p = n ∧ numE b p = at_ by have := Hq4.out; have := Hat.out; exact ⟨by rw [Hv.out, Hn.out, show q = K by omega], by rw [He.out]; omega⟩)
            generalize bt b p = y at *
            clear k1 k2 k3 k4 hpl
            go_wp2
            refine bodyPost_ret (v := .int .i64 (n : Int)) (by simp [results, Tryd.results34, go_sem]) rfl ?_
            exact ⟨(HC.out.drewN _), Or.inl ⟨Hok.out, by rw [Hres.out.1], by rw [Hres.out.2]; exact HR.out.drewN _⟩⟩
      · have i1 : (at_ : Int) < (b.length : Int) := by omega
        have i2 : decide ((48 : Int) ≤ (x : Int)) = false := decide_eq_false (by omega)
        have hlt : ¬ q < K := fun h => by have := ((Hd.out h1).1 h); omega
        have hq4 : q = K ∨ (q = 4 ∧ 3 < K) := Or.inl (by omega)
        have Hq4 := Lib.hid hq4
        clear hlt hq4 hatq
        go_wp2
        go_quiet (fail)
        go_upto_region 5 with fail
        have hfive : (K = 0 ∧ at_ = p) ∨ (3 < K ∧ at_ = p + 4) ∨ (1 < K ∧ K ≤ 3 ∧ at_ = p + K ∧ bt b p = 48) ∨ (K = 1 ∧ at_ = p + 1) ∨ (1 < K ∧ K ≤ 3 ∧ at_ = p + K ∧ bt b p ≠ 48) := by
          have := Hq4.out
          have := Hat.out
          omega
        have hpl : 0 < K → p < b.length := fun h => (Hrun.out.dig 0 h).1
        rcases hfive with ⟨k1, k2⟩ | ⟨k1, k2⟩ | ⟨k1, k2, k3, k4⟩ | ⟨k1, k2⟩ | ⟨k1, k2, k3, k4⟩
        · have t1 : ((at_ : Int) == (p : Int)) = true := by simp [k2]
          have Hbad := Lib.hid (Hno.out.2 (Or.inl k1))
          clear k1 k2 hpl
          go_wp2_with fail
          refine (fail_any _ 1 p _).mono ?_
          rintro e w1 ⟨rfl, hb1⟩
          exact ⟨rfl, ((HC.out.drewN _).trans (Chg.ofBelow hb1)), Or.inr ⟨Hbad.out, rfl⟩⟩
        · have t1 : ((at_ : Int) == (p : Int)) = false := by simp; omega
          have t2 : (p : Int) + 3 < (at_ : Int) := by omega
          have Hbad := Lib.hid (Hno.out.2 (Or.inr (Or.inl k1)))
          clear k1 k2 hpl
          go_wp2_with fail
          refine (fail_any _ 1 p _).mono ?_
          rintro e w1 ⟨rfl, hb1⟩
          exact ⟨rfl, ((HC.out.drewN _).trans (Chg.ofBelow hb1)), Or.inr ⟨Hbad.out, rfl⟩⟩
        · have t1 : ((at_ : Int) == (p : Int)) = false := by simp; omega
          have t2 : decide ((p : Int) + 3 < (at_ : Int)) = false := decide_eq_false (by omega)
          have t3 : (p : Int) + 1 < (at_ : Int) := by omega
          have hixp := Hix.out p (hpl (by omega))
          rw [k4] at hixp
          have Hbad := Lib.hid (Hno.out.2 (Or.inr (Or.inr ⟨k1, k4⟩)))
          clear k1 k2 k3 k4 hpl
          go_wp2_with fail
          refine (fail_any _ 1 p _).mono ?_
          rintro e w1 ⟨rfl, hb1⟩
          exact ⟨rfl, ((HC.out.drewN _).trans (Chg.ofBelow hb1)), Or.inr ⟨Hbad.out, rfl⟩⟩
        · have t1 : ((at_ : Int) == (p : Int)) = false := by simp; omega
          have t2 : decide ((p : Int) + 3 < (at_ : Int)) = false := decide_eq_false (by omega)
          have t3 : decide ((p : Int) + 1 < (at_ : Int)) = false := decide_eq_false (by omega)
          have Hok := Lib.hid (show ¬ noNum b p from fun h => by have := Hno.out.1 h; unfold BadRun at this; omega)
          have Hres := Lib.hid (show numV b p = n ∧ numE b p = at_ by have := Hq4.out; have := Hat.out; exact ⟨by rw [Hv.out, Hn.out, show q = K by omega], by rw [He.out]; omega⟩)
          clear k1 k2 hpl
          go_wp2
          refine bodyPost_ret (v := .int .i64 (n : Int)) (by simp [results, Tryd.results34, go_sem]) rfl ?_
          exact ⟨(HC.out.drewN _), Or.inl ⟨Hok.out, by rw [Hres.out.1], by rw [Hres.out.2]; exact HR.out.drewN _⟩⟩
        · have t1 : ((at_ : Int) == (p : Int)) = false := by simp; omega
          have t2 : decide ((p : Int) + 3 < (at_ : Int)) = false := decide_eq_false (by omega)
          have t3 : (p : Int) + 1 < (at_ : Int) := by omega
          have hixp := Hix.out p (hpl (by omega))
          have t4 : (((bt b p : Nat) : Int) == 48) = false := by simp; omega
          have Hok := Lib.hid (show ¬ noNum b p from fun h => by have := Hno.out.1 h; unfold BadRun at this; omega)
          have Hres := Lib.hid (show numV b p = n ∧ numE b p = at_ by have := Hq4.out; have := Hat.out; exact ⟨by rw [Hv.out, Hn.out, show q = K by omega], by rw [He.out]; omega⟩)
          generalize bt b p = y at *
          clear k1 k2 k3 k4 hpl
          go_wp2
          refine bodyPost_ret (v := .int .i64 (n : Int)) (by simp [results, Tryd.results34, go_sem]) rfl ?_
          exact ⟨(HC.out.drewN _), Or.inl ⟨Hok.out, by rw [Hres.out.1], by rw [Hres.out.2]; exact HR.out.drewN _⟩⟩
    · have i1 : decide ((at_ : Int) < (b.length : Int)) = false := decide_eq_false (by omega)
      have Hq4 : Hid (q = K ∨ (q = 4 ∧ 3 < K)) := Lib.hid (Or.inl (Hend.out h1))
      clear hatq
      go_wp2
      go_quiet (fail)
      go_upto_region 5 with fail
      have hfive : (K = 0 ∧ at_ = p) ∨ (3 < K ∧ at_ = p + 4) ∨ (1 < K ∧ K ≤ 3 ∧ at_ = p + K ∧ bt b p = 48) ∨ (K = 1 ∧ at_ = p + 1) ∨ (1 < K ∧ K ≤ 3 ∧ at_ = p + K ∧ bt b p ≠ 48) := by
        have := Hq4.out
        have := Hat.out
        omega
      have hpl : 0 < K → p < b.length := fun h => (Hrun.out.dig 0 h).1
      rcases hfive with ⟨k1, k2⟩ | ⟨k1, k2⟩ | ⟨k1, k2, k3, k4⟩ | ⟨k1, k2⟩ | ⟨k1, k2, k3, k4⟩
      · have t1 : ((at_ : Int) == (p : Int)) = true := by simp [k2]
        have Hbad := Lib.hid (Hno.out.2 (Or.inl k1))
        clear k1 k2 hpl
        go_wp2_with fail
        refine (fail_any _ 1 p _).mono ?_
        rintro e w1 ⟨rfl, hb1⟩
        exact ⟨rfl, ((HC.out.drewN _).trans (Chg.ofBelow hb1)), Or.inr ⟨Hbad.out, rfl⟩⟩
      · have t1 : ((at_ : Int) == (p : Int)) = false := by simp; omega
        have t2 : (p : Int) + 3 < (at_ : Int) := by omega
        have Hbad := Lib.hid (Hno.out.2 (Or.inr (Or.inl k1)))
        clear k1 k2 hpl
        go_wp2_with fail
        refine (fail_any _ 1 p _).mono ?_
        rintro e w1 ⟨rfl, hb1⟩
        exact ⟨rfl, ((HC.out.drewN _).trans (Chg.ofBelow hb1)), Or.inr ⟨Hbad.out, rfl⟩⟩
      · have t1 : ((at_ : Int) == (p : Int)) = false := by simp; omega
        have t2 : decide ((p : Int) + 3 < (at_ : Int)) = false := decide_eq_false (by omega)
        have t3 : (p : Int) + 1 < (at_ : Int) := by omega
        have hixp := Hix.out p (hpl (by omega))
        rw [k4] at hixp
        have Hbad := Lib.hid (Hno.out.2 (Or.inr (Or.inr ⟨k1, k4⟩)))
        clear k1 k2 k3 k4 hpl
        go_wp2_with fail
        refine (fail_any _ 1 p _).mono ?_
        rintro e w1 ⟨rfl, hb1⟩
        exact ⟨rfl, ((HC.out.drewN _).trans (Chg.ofBelow hb1)), Or.inr ⟨Hbad.out, rfl⟩⟩
      · have t1 : ((at_ : Int) == (p : Int)) = false := by simp; omega
        have t2 : decide ((p : Int) + 3 < (at_ : Int)) = false := decide_eq_false (by omega)
        have t3 : decide ((p : Int) + 1 < (at_ : Int)) = false := decide_eq_false (by omega)
        have Hok := Lib.hid (show ¬ noNum b p from fun h => by have := Hno.out.1 h; unfold BadRun at this; omega)
        have Hres := Lib.hid (show numV b p = n ∧ numE b p = at_ by have := Hq4.out; have := Hat.out; exact ⟨by rw [Hv.out, Hn.out, show q = K by omega], by rw [He.out]; omega⟩)
        clear k1 k2 hpl
        go_wp2
        refine bodyPost_ret (v := .int .i64 (n : Int)) (by simp [results, Tryd.results34, go_sem]) rfl ?_
        exact ⟨(HC.out.drewN _), Or.inl ⟨Hok.out, by rw [Hres.out.1], by rw [Hres.out.2]; exact HR.out.drewN _⟩⟩
      · have t1 : ((at_ : Int) == (p : Int)) = false := by simp; omega
        have t2 : decide ((p : Int) + 3 < (at_ : Int)) = false := decide_eq_false (by omega)
        have t3 : (p : Int) + 1 < (at_ : Int) := by omega
        have hixp := Hix.out p (hpl (by omega))
        have t4 : (((bt b p : Nat) : Int) == 48) = false := by simp; omega
        have Hok := Lib.hid (show ¬ noNum b p from fun h => by have := Hno.out.1 h; unfold BadRun at this; omega)
        have Hres := Lib.hid (show numV b p = n ∧ numE b p = at_ by have := Hq4.out; have := Hat.out; exact ⟨by rw [Hv.out, Hn.out, show q = K by omega], by rw [He.out]; omega⟩)
        generalize bt b p = y at *
        clear k1 k2 k3 k4 hpl
        go_wp2
        refine bodyPost_ret (v := .int .i64 (n : Int)) (by simp [results, Tryd.results34, go_sem]) rfl ?_
        exact ⟨(HC.out.drewN _), Or.inl ⟨Hok.out, by rw [Hres.out.1], by rw [Hres.out.2]; exact HR.out.drewN _⟩⟩

end Go.Proofs.YtokjcapheogkoaaDoor
