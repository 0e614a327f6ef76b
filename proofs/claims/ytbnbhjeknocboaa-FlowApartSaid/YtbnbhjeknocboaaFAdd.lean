/- (*flow.pipes).add: a pipe there and back. -/
import Derived.Test.YtbnbhjeknocboaaPC
import Derived.BigRegion
import Derived.Deep.RegionLaw
namespace Go.Proofs.Ytbnbhjeknocboaa
open Go.RowKit

theorem PB.keeps {w w' : World} {base bP bA N : Nat} {V : Nat → Value} {X : Nat → List Nat} (h : PB w base bP bA N V X) {r : Nat} (hr : r < N + 2) (hg : w.grownBy w' (V r).ownBlock) :
    w'.rowIs bP 66 3 (fun i => if i = 0 then V 0 else if i = 1 then V 1 else .slice (some ⟨bA, 0, none⟩) N N) ∧ w'.rowIs bA 25 N (fun v => V (v + 2)) :=
  ⟨h.rP.of_block (hg.block _ h.rP.lt fun e => by have := h.ge hr e.symm; have := h.lt; omega), h.rA.of_block (hg.block _ h.rA.lt fun e => by have := h.ge hr e.symm; have := h.lt; omega)⟩
theorem PB.drew {w : World} {base bP bA N : Nat} {V : Nat → Value} {X : Nat → List Nat} (h : PB w base bP bA N V X) : PB w.drew base bP bA N V X := h.below (Below.refl _ _).drew

/-- The cells of interest. -/
structure PC (w : World) (bP bA u N n0 nu : Nat) (a0 au : Option Addr) (c0 cu : Nat) : Prop where
  p0 : w.cell? ⟨bP, 0, none⟩ = some (.slice a0 n0 c0)
  p2 : w.cell? ⟨bP, 2, none⟩ = some (.slice (some ⟨bA, 0, none⟩) N N)
  t1 : w.cell? ⟨bA, u, none⟩ = some (.slice au nu cu)
  f1 : w.frozen? ⟨bA, u, none⟩ = false
  lP : bP < w.heap.size
  lA : bA < w.heap.size
theorem PB.pc {w' : World} {bP bA N : Nat} {V : Nat → Value} (h : w'.rowIs bP 66 3 (fun i => if i = 0 then V 0 else if i = 1 then V 1 else .slice (some ⟨bA, 0, none⟩) N N) ∧ w'.rowIs bA 25 N (fun v => V (v + 2))) {u n0 nu : Nat} {a0 au : Option Addr} {c0 cu : Nat} (hu : u < N) (e0 : V 0 = .slice a0 n0 c0) (eu : V (u + 2) = .slice au nu cu) : PC w' bP bA u N n0 nu a0 au c0 cu where
  p0 := by rw [h.1.cell (show 0 < 3 by omega)]; simp only [if_true]; rw [e0]
  p2 := by rw [h.1.cell (show 2 < 3 by omega)]; rfl
  t1 := by rw [h.2.cell hu, eu]
  f1 := h.2.frozen u
  lP := h.1.lt
  lA := h.2.lt

/-- What may turn: the pipes' own rows. -/
def VTurns (bP bA N : Nat) (V : Nat → Value) (k : Nat) : Prop := k = bP ∨ k = bA ∨ ∃ r, r < N + 2 ∧ (V r).ownBlock = some k
/-- Pipes have grown; rows lie where they lay, or in new blocks. -/
def ACut (w : World) (base bP bA N : Nat) (V : Nat → Value) (X : Nat → List Nat) (wx : World) : Prop :=
  ∃ V', PB wx base bP bA N V' X ∧ (∀ r k, r < N + 2 → k < w.heap.size → (V' r).ownBlock = some k → (V r).ownBlock = some k) ∧ Chg (VTurns bP bA N V) w wx
section
variable {w w0 w1 w' : World} {base bP bA N : Nat} {V V1 : Nat → Value} {X X1 : Nat → List Nat}
theorem ACut.pre (hb : Below w0.heap.size w0 w) (h : ACut w base bP bA N V X w') : ACut w0 base bP bA N V X w' := by
  obtain ⟨V', h1, h2, h3⟩ := h
  exact ⟨V', h1, fun r k hr hk => h2 r k hr (Nat.lt_of_lt_of_le hk hb.size), (Chg.ofBelow hb).trans h3⟩
theorem ACut.step (h2 : ∀ r k, r < N + 2 → k < w.heap.size → (V1 r).ownBlock = some k → (V r).ownBlock = some k) (h3 : Chg (VTurns bP bA N V) w w1) (k : ACut w1 base bP bA N V1 X1 w') : ACut w base bP bA N V X1 w' := by
  obtain ⟨V2, k1, k2, k3⟩ := k
  refine ⟨V2, k1, fun r i hr hi e => h2 r i hr hi (k2 r i hr (Nat.lt_of_lt_of_le hi h3.size) e), ?_⟩
  refine ⟨k3.os.trans h3.os, k3.tape.trans h3.tape, k3.output.trans h3.output, Nat.le_trans h3.size k3.size, fun i hi hs => (k3.block i (Nat.lt_of_lt_of_le hi h3.size) (fun ht => hs ?_)).trans (h3.block i hi hs)⟩
  rcases ht with e | e | ⟨r, hr, e⟩
  · exact Or.inl e
  · exact Or.inr (Or.inl e)
  · exact Or.inr (Or.inr ⟨r, hr, h2 r i hr hi e⟩)
theorem ACut.below (h : ACut w base bP bA N V X w') (hp : PB w base bP bA N V X1) {B : Nat} (hB : B ≤ w.heap.size) (hBP : B ≤ bP) (hBA : B ≤ bA) : Below B w w' := by
  obtain ⟨V', -, -, h3⟩ := h
  refine h3.toBelow hB fun k hk hs => ?_
  have := hp.lt
  rcases hs with e | e | ⟨r, hr, e⟩
  · omega
  · omega
  · have := hp.ge hr e; omega
theorem PB.acutA (h : PB w base bP bA N V X) {u : Nat} (hu : u < N) {v' : Value} {m : List Nat} (ho : w'.ownsRow base 3 1 v' ((X (u + 2)).length + m.length) ((ints (X (u + 2))).map (Value.int .i64) ++ (ints m).map (Value.int .i64))) (hg : w.grownBy w' (V (u + 2)).ownBlock) (hat : v'.ownBlock = (V (u + 2)).ownBlock ∨ v'.ownBlock = some w.heap.size) :
    ACut w base bP bA N V (upX X (u + 2) m) (w'.setCell ⟨bA, u, none⟩ v') := by
  have hg0 : Chg (VTurns bP bA N V) w w' := ⟨hg.os, hg.tape, hg.output, hg.size, fun k hk hs => hg.block k hk fun e => hs (Or.inr (Or.inr ⟨u + 2, by omega, e.symm⟩))⟩
  refine ⟨_, (h.appA hu ho hg hat).1, fun r k _ hk e => ?_, hg0.setCell (fun _ => Or.inr (Or.inl rfl)) _⟩
  by_cases e1 : r = u + 2
  · subst e1
    simp only [if_true] at e
    rcases hat with e2 | e2
    · rw [← e2]; exact e
    · rw [e2] at e; cases e; exact absurd hk (Nat.lt_irrefl _)
  · simpa only [if_neg e1] using e
theorem PB.acutP (h : PB w base bP bA N V X) {r : Nat} (hr : r < 2) {v' : Value} {m : List Nat} (ho : w'.ownsRow base 3 1 v' ((X r).length + m.length) ((ints (X r)).map (Value.int .i64) ++ (ints m).map (Value.int .i64))) (hg : w.grownBy w' (V r).ownBlock) (hat : v'.ownBlock = (V r).ownBlock ∨ v'.ownBlock = some w.heap.size) :
    ACut w base bP bA N V (upX X r m) (w'.setCell ⟨bP, r, none⟩ v') := by
  have hg0 : Chg (VTurns bP bA N V) w w' := ⟨hg.os, hg.tape, hg.output, hg.size, fun k hk hs => hg.block k hk fun e => hs (Or.inr (Or.inr ⟨r, by omega, e.symm⟩))⟩
  refine ⟨_, (h.appP hr ho hg hat).1, fun q k _ hk e => ?_, hg0.setCell (fun _ => Or.inl rfl) _⟩
  by_cases e1 : q = r
  · subst e1
    simp only [if_true] at e
    rcases hat with e2 | e2
    · rw [← e2]; exact e
    · rw [e2] at e; cases e; exact absurd hk (Nat.lt_irrefl _)
  · simpa only [if_neg e1] using e
end

set_option maxHeartbeats 6400000 in
set_option maxRecDepth 100000 in
theorem fadd_any (base bP bA N u v c : Nat) (V : Nat → Value) (X : Nat → List Nat) (w : World) (hu : u < N) (hv : v < N) (hN : N ≤ 1000) (hX : ∀ r, r < N + 2 → (X r).length ≤ 10000) (h : PB w base bP bA N V X) :
    Calls Try.prog 53 #[.pointer (some ⟨bP, 0, none⟩), .int .i64 (u : Int), .int .i64 (v : Int), .int .i64 (c : Int)] w fun e w' => e = .returned (.tuple #[]) ∧ ACut w base bP bA N V (addX X u v c) w' := by
  have H := Lib.hid h
  obtain ⟨a0, c0, e0⟩ := h.form (show 0 < N + 2 by omega)
  obtain ⟨au, cu, eu⟩ := h.form (show u + 2 < N + 2 by omega)
  have E0 := Lib.hid e0; have Eu := Lib.hid eu
  have g := PB.pc ⟨h.rP, h.rA⟩ hu e0 eu
  have p0 := g.p0; have p2 := g.p2; have t1 := g.t1; have f1 := g.f1; have lP := g.lP; have lA := g.lA
  have hl0 := hX 0 (by omega)
  have hlu := hX (u + 2) (by omega)
  have hneP : bP ≠ bA := h.ne
  have hneA : bA ≠ bP := Ne.symm h.ne
  have hltP : bP < base := h.lt.1
  have hsz : base ≤ w.heap.size := h.sz
  have HX := Lib.hid hX
  clear h e0 eu g hX
  go_enter Try.func53, Try.ntmps53
  go_upto_region 0 with fail
  go_cut [] from 8 to 27 (fun wx => ACut w base bP bA N V (upX X (u + 2) [(X 0).length]) wx)
  case first =>
    go_region_law (refine step_append_at rfl _ _ 25 rfl base 3 (.int .i64 0) 8 Try.underlying25 info3 rfl (V (u + 2)) (X (u + 2)).length _ Eu.out.symm ((H.out.drew.alloc _).owns (by omega)) _ 1 ((ints [(X 0).length]).map (Value.int .i64)) rfl (HasCells.one _ _ _ rfl) (by omega) (by omega) (by omega) (H.out.drew.alloc _).sz ?_; intro a2 c2 w2 ho2 hg2 hat2; have K2 := PB.pc ((H.out.drew.alloc _).keeps (by omega) hg2) hu E0.out Eu.out; have G2 := Lib.hid ((H.out.drew.alloc _).acutA (m := [(X 0).length]) hu ho2 hg2 hat2); have q0 := K2.p0; have q2 := K2.p2; have q1 := K2.t1; have qf := K2.f1; have qP := K2.lP; have qA := K2.lA; clear ho2 hg2 hat2 K2)
    all_goals
      go_wp2
      go_meet
      exact G2.out.pre ((Below.refl _ _).drew.alloc (Nat.le_refl _) _)
  case rest =>
  obtain ⟨V1, g3, o3, k3⟩ := hcut
  obtain ⟨w3, rfl⟩ : ∃ w3 : World, w3 = wc := ⟨_, rfl⟩
  have K3 := Lib.hid k3; have O3 := Lib.hid o3
  clear k3 o3 p0 p2 t1 f1 lP lA H E0 Eu
  have hx0 : (upX X (u + 2) [(X 0).length] 0).length = (X 0).length := by simp [upX]
  have hxv : (upX X (u + 2) [(X 0).length] (v + 2)).length ≤ 10001 := by
    have := HX.out (v + 2) (by omega)
    have := HX.out (u + 2) (by omega)
    unfold upX
    split <;> simp <;> omega
  have hx1 : (upX X (u + 2) [(X 0).length] 1).length = (X 1).length := by simp [upX]
  have Hx1 := Lib.hid (show ∀ q, addX X u v c q = upX (upX (upX (upX X (u + 2) [(X 0).length]) (v + 2) [(upX X (u + 2) [(X 0).length] 0).length + 1]) 0 [v, u]) 1 [c, 0] q from fun q => by unfold addX; rw [hx0])
  have hl1 : (upX X (u + 2) [(X 0).length] 0).length ≤ 10000 := by omega
  have hl2 : (upX X (u + 2) [(X 0).length] 1).length ≤ 10000 := by have := HX.out 1 (by omega); omega
  clear hx0 hx1
  generalize upX X (u + 2) [(X 0).length] = X1 at *
  have H := Lib.hid g3
  obtain ⟨a0', c0', e0⟩ := g3.form (show 0 < N + 2 by omega)
  obtain ⟨av, cv, ev⟩ := g3.form (show v + 2 < N + 2 by omega)
  have E0 := Lib.hid e0; have Ev := Lib.hid ev
  have g := PB.pc ⟨g3.rP, g3.rA⟩ hv e0 ev
  have p0 := g.p0; have p2 := g.p2; have t1 := g.t1; have f1 := g.f1; have lP := g.lP; have lA := g.lA
  have hwr : IntKind.i64.wrap (((X1 0).length : Int) + 1) = (((X1 0).length + 1 : Nat) : Int) := wrap_nat (n := (X1 0).length + 1) (by omega)
  have hsz3 : base ≤ w3.heap.size := g3.sz
  clear g g3 e0 ev
  go_upto_region 1 with fail
  go_cut [] from 28 to 48 (fun wx => ACut w3 base bP bA N V1 (upX X1 (v + 2) [(X1 0).length + 1]) wx)
  case first =>
    go_region_law (refine step_append_at rfl _ _ 25 rfl base 3 (.int .i64 0) 8 Try.underlying25 info3 rfl (V1 (v + 2)) (X1 (v + 2)).length _ Ev.out.symm ((H.out.drew.alloc _).owns (by omega)) _ 1 ((ints [(X1 0).length + 1]).map (Value.int .i64)) rfl (HasCells.one _ _ _ rfl) (by omega) (by omega) (by omega) (H.out.drew.alloc _).sz ?_; intro a4 c4 w4 ho4 hg4 hat4; have K2 := PB.pc ((H.out.drew.alloc _).keeps (by omega) hg4) hv E0.out Ev.out; have G2 := Lib.hid ((H.out.drew.alloc _).acutA (m := [(X1 0).length + 1]) hv ho4 hg4 hat4); have q0 := K2.p0; have q2 := K2.p2; have q1 := K2.t1; have qf := K2.f1; have qP := K2.lP; have qA := K2.lA; clear ho4 hg4 hat4 K2)
    all_goals
      go_wp2
      go_meet
      exact G2.out.pre ((Below.refl _ _).drew.alloc (Nat.le_refl _) _)
  case rest =>
  obtain ⟨V2, g3, o4, k4⟩ := ACut.step O3.out K3.out hcut
  obtain ⟨w5, rfl⟩ : ∃ w5 : World, w5 = wc := ⟨_, rfl⟩
  have K4 := Lib.hid k4; have O4 := Lib.hid o4
  clear k4 o4 O3 hcut p0 p2 t1 f1 lP lA H E0 Ev hwr K3
  have hy0 : (upX X1 (v + 2) [(X1 0).length + 1] 0).length ≤ 10001 := by simp [upX]; omega
  have hy1 : (upX X1 (v + 2) [(X1 0).length + 1] 1).length ≤ 10001 := by
    simp [upX]; omega
  have Hx2 := Lib.hid (show ∀ q, addX X u v c q = upX (upX (upX X1 (v + 2) [(X1 0).length + 1]) 0 [v, u]) 1 [c, 0] q from Hx1.out)
  clear Hx1
  generalize upX X1 (v + 2) [(X1 0).length + 1] = X2 at *
  have H := Lib.hid g3
  obtain ⟨a0'', c0'', e0⟩ := g3.form (show 0 < N + 2 by omega)
  have E0 := Lib.hid e0
  have p0 := g3.rP.cell (show 0 < 3 by omega)
  have f0 := g3.rP.frozen 0
  simp only [if_true] at p0
  rw [e0] at p0
  have lP := g3.rP.lt
  have hsz5 : base ≤ w5.heap.size := g3.sz
  clear g3 e0
  go_upto_region 3 with (at_builtin; refine wpList_append_at rfl (.tmp 53) (.tmp 56) 25 rfl base 3 (.int .i64 0) 8 Try.underlying25 info3 rfl (V2 0) (X2 0).length _ E0.out.symm ((H.out.alloc _).owns (by omega)) _ 2 ((ints [v, u]).map (Value.int .i64)) rfl (HasCells.two _ _ _ _ rfl rfl) (by omega) (by omega) (by omega) (H.out.alloc _).sz ?_; intro a6 c6 w6 ho hg hat; have hkeep := (H.out.alloc _).keeps (show 0 < N + 2 by omega) hg; have p0 := hkeep.1.cell (show 0 < 3 by omega); have f0 := hkeep.1.frozen 0; have lP := hkeep.1.lt; have G2 := Lib.hid ((H.out.alloc _).acutP (m := [v, u]) (show 0 < 2 by omega) ho hg hat); clear ho hg hat hkeep)
  obtain ⟨V3, g3, o6, k6⟩ := ACut.step O4.out K4.out (G2.out.pre ((Below.refl _ _).alloc (Nat.le_refl _) _))
  have K6 := Lib.hid k6; have O6 := Lib.hid o6
  clear k6 o6 O4
  clear G2 p0 f0 lP H E0 K4
  generalize w6.setCell ⟨bP, 0, none⟩ (.slice a6 ((X2 0).length + 2) c6) = w7 at *
  have hz1 : (upX X2 0 [v, u] 1).length ≤ 10001 := by simp [upX]; omega
  have Hx3 := Lib.hid (show ∀ q, addX X u v c q = upX (upX X2 0 [v, u]) 1 [c, 0] q from Hx2.out)
  clear Hx2
  generalize upX X2 0 [v, u] = X3 at *
  have H := Lib.hid g3
  obtain ⟨b0, d0, e0⟩ := g3.form (show 1 < N + 2 by omega)
  have E0 := Lib.hid e0
  have p0 := g3.rP.cell (show 1 < 3 by omega)
  have f0 := g3.rP.frozen 1
  simp only [if_true, if_false, show ¬ (1 : Nat) = 0 by omega] at p0
  rw [e0] at p0
  have lP := g3.rP.lt
  have hsz7 : base ≤ w7.heap.size := g3.sz
  clear g3 e0
  go_wp2_with (at_builtin; refine wpList_append_at rfl (.tmp 64) (.tmp 66) 25 rfl base 3 (.int .i64 0) 8 Try.underlying25 info3 rfl (V3 1) (X3 1).length _ E0.out.symm ((H.out.alloc _).owns (by omega)) _ 2 ((ints [c, 0]).map (Value.int .i64)) rfl (HasCells.two _ _ _ _ rfl rfl) (by omega) (by omega) (by omega) (H.out.alloc _).sz ?_; intro a8 c8 w8 ho hg hat; have hkeep := (H.out.alloc _).keeps (show 1 < N + 2 by omega) hg; have p0 := hkeep.1.cell (show 1 < 3 by omega); have f0 := hkeep.1.frozen 1; have lP := hkeep.1.lt; have G2 := Lib.hid ((H.out.alloc _).acutP (m := [c, 0]) (show 1 < 2 by omega) ho hg hat); clear ho hg hat hkeep)
  exact bodyPost_end (v := .tuple #[]) (by simp [results, Try.results53, go_sem]) rfl ⟨rfl, ACut.step O6.out K6.out (by rw [show addX X u v c = upX X3 1 [c, 0] from funext Hx3.out]; exact G2.out.pre ((Below.refl _ _).alloc (Nat.le_refl _) _))⟩

end Go.Proofs.Ytbnbhjeknocboaa
