/- (*flow.pipes).most. -/
import Derived.Test.YtbnbhjeknocboaaFPush
import Derived.Test.YtbnbhjeknocboaaPA
namespace Go.Proofs.Ytbnbhjeknocboaa
open Go.RowKit

theorem Chg.next {S T : Nat → Prop} {a b c : World} (h : Chg S a b) (k : Chg T b c) (hT : ∀ i, i < a.heap.size → T i → S i) : Chg S a c :=
  ⟨k.os.trans h.os, k.tape.trans h.tape, k.output.trans h.output, Nat.le_trans h.size k.size, fun i hi hs => (k.block i (Nat.lt_of_lt_of_le hi h.size) (fun ht => hs (hT i hi ht))).trans (h.block i hi hs)⟩

/-- All that can be sent has been sent. -/
def MostPost (base bP bA N M : Nat) (V : Nat → Value) (X0 : Nat → List Nat) (s t : Nat) (w : World) (e : Ending) (w' : World) : Prop :=
  ∃ (sum : Nat) (X : Nat → List Nat) (lev : Nat → Int), e = .returned (.int .i64 (sum : Int)) ∧ PB w' base bP bA N V X ∧ Sent N M s t X0 X sum ∧ LevOk N X s lev ∧ lev t < 0 ∧ Chg (fun k => (V 1).ownBlock = some k) w w'

set_option maxHeartbeats 6400000 in
set_option maxRecDepth 100000 in
theorem fmost_any (base bP bA N M s t : Nat) (V : Nat → Value) (X0 : Nat → List Nat) (w : World) (hs : s < N) (ht : t < N) (hst : s ≠ t) (hX : NetOk N M X0) (hc : ∀ i, i < M → leftX X0 i + leftX X0 (i ^^^ 1) ≤ 1000000) (h : PB w base bP bA N V X0) :
    Calls Try.prog 44 #[.pointer (some ⟨bP, 0, none⟩), .int .i64 (s : Int), .int .i64 (t : Int)] w (MostPost base bP bA N M V X0 s t w) := by
  have H := Lib.hid h; have HX := Lib.hid hX; have Hst := Lib.hid hst; have HC := Lib.hid hc
  have hN := hX.small.1
  have hM := hX.small.2
  clear h hX hst hc
  go_enter Try.func44, Try.ntmps44
  go_wp2
  go_loopg [7] (M * 1000000) (fun g s7 wr => ∃ (sum : Nat) (X : Nat → List Nat), g + sum = M * 1000000 ∧ s7 = .int .i64 (sum : Int) ∧ PB wr base bP bA N V X ∧ Sent N M s t X0 X sum ∧ Chg (fun k => (V 1).ownBlock = some k) w wr)
  case atStart => exact ⟨0, X0, by omega, rfl, H.out, Sent.start HX.out, Chg.refl _ _⟩
  case round =>
    obtain ⟨sum, X, hg, rfl, hp, hsent, hch⟩ := hrel
    have Hg := Lib.hid hg; have Hp := Lib.hid hp; have Hsent := Lib.hid hsent; have Hch := Lib.hid hch
    clear hg hp hsent hch
    go_upto_region 3 with (go_at_call 54; refine (flevels_any base bP bA N M s V X _ hs Hsent.out.ok Hp.out).mono ?_; rintro e w1 ⟨lev, b, rfl, hb, hr, hlv, hbw⟩; have Hr := Lib.hid hr; have Hlv := Lib.hid hlv; have Hbw := Lib.hid hbw; have hbl := hr.lt; have hsz1 := hbw.size; clear hlv hbw)
    have ct := hr.cell ht
    simp only [ri] at ct
    clear hr
    by_cases hlt : lev t < 0
    · have Hlt := Lib.hid hlt
      go_wp2
      exact bodyPost_ret (v := .int .i64 (sum : Int)) (by simp [results, Try.results44, go_sem]) rfl ⟨sum, X, lev, rfl, Hp.out.below Hbw.out, Hsent.out, Hlv.out, Hlt.out, Hch.out.trans (Chg.ofBelow Hbw.out)⟩
    · have hp1 := Hp.out.below Hbw.out
      have p2 := hp1.rP.cell (show 2 < 3 by omega)
      simp only [show ¬ (2 : Nat) = 0 by omega, show ¬ (2 : Nat) = 1 by omega, if_false] at p2
      have lP := hp1.rP.lt
      have hmk := run_make_row' (P := Try.prog) 25 3 (.int .i64 0) 8 Try.underlying25 info3 rfl .i64 .i64 N (by omega) (by omega)
      have Hp1 := Lib.hid hp1
      clear hp1
      have hlt0 : 0 ≤ lev t := by omega
      have hltp : 0 < lev t := by
        have := Hst.out
        have := Hlv.out.zero t ht
        omega
      obtain ⟨u0, i0, hu0, hi0, -⟩ := Hlv.out.pred t ht hltp
      have hMp := (Hsent.out.ok.at_lt u0 hu0 i0 hi0).1
      obtain ⟨gL, cL, eL, hgL1, hgL2, -⟩ := Hp.out.look (show 1 < N + 2 by omega) (by rw [Hsent.out.ok.leftL]; omega)
      have hLies : Lies base bP bA N V wr.heap.size b w1.heap.size gL := ⟨Hp.out.rP.lt, Hp.out.rA.lt, fun r hr g e => ((Hp.out.owns hr).lt g e).2, by rw [eL]; rfl, hb, hsz1, by omega⟩
      have hEnv : PuEnv (w1.alloc (.cells (madeCells #[Value.int .i64 0] N) 3)) base bP bA N V b w1.heap.size X lev (fun _ => 0) := ⟨Hp1.out.alloc _, Hr.out.alloc _, (World.rowIs_made w1 (.int .i64 0) N 3).congr fun _ _ => rfl⟩
      have hChg : Chg (fun k => (V 1).ownBlock = some k) w (w1.alloc (.cells (madeCells #[Value.int .i64 0] N) 3)) := (Hch.out.trans (Chg.ofBelow Hbw.out)).alloc _
      have hVL : (V 1).ownBlock = some gL := by rw [eL]; rfl
      have hwsz : w.heap.size ≤ w1.heap.size := Nat.le_trans Hch.out.size hsz1
      have HL2 := Lib.hid (show ∃ S, Lies base bP bA N V S b w1.heap.size gL from ⟨_, hLies⟩); have HEnv := Lib.hid hEnv; have HChg := Lib.hid hChg; have HVL := Lib.hid hVL; have Hlt0 := Lib.hid hlt0
      clear hLies hEnv hChg hVL hlt0 hltp eL hgL1 hgL2 hi0 hu0
      go_wp2
      clear p2 hmk lP ct hlt
      generalize w1.alloc (.cells (madeCells #[Value.int .i64 0] N) 3) = w2 at *
      go_loopg [7] gk (fun g s7 wr => ∃ (sum' : Nat) (X' : Nat → List Nat) (nx' : Nat → Nat), g + sum' = M * 1000000 ∧ s7 = .int .i64 (sum' : Int) ∧ PuEnv wr base bP bA N V b w1.heap.size X' lev nx' ∧ Sent N M s t X0 X' sum' ∧ Chg (fun k => (V 1).ownBlock = some k) w wr ∧ (∀ u, u < N → nx' u ≤ (X' (u + 2)).length) ∧ sum ≤ sum' ∧ (sum' = sum → X' = X ∧ nx' = fun _ => 0))
      case atStart => exact ⟨sum, X, _, Hg.out, rfl, HEnv.out, Hsent.out, HChg.out, fun _ _ => Nat.zero_le _, Nat.le_refl _, fun _ => ⟨rfl, rfl⟩⟩
      case round =>
        obtain ⟨sum', X', nx', hg', rfl, henv, hs', hc', hle, hss, heq⟩ := hrel
        have Hg' := Lib.hid hg'; have Henv := Lib.hid henv; have Hs' := Lib.hid hs'; have Hc' := Lib.hid hc'; have Hle := Lib.hid hle; have Hss := Lib.hid hss; have Heq := Lib.hid heq
        clear hg' henv hs' hc' hle hss heq
        obtain ⟨S, hL⟩ := HL2.out
        have Hask := Lib.hid (show PuAsk base bP bA N M S b w1.heap.size gL V X' lev t from ⟨hL, Hs'.out.ok, fun v hv => Hlv.out.rng v hv, fun i hi => by rw [Hs'.out.sums i hi]; have := HC.out i hi; omega, ht⟩)
        have hbnd := Hs'.out.bound HX.out HC.out Hst.out
        clear hL
        go_upto_region 7 with (go_at_call 55; refine (fpush_any base bP bA N M S b w1.heap.size gL V X' lev t Hask.out N s 4611686018427387904 nx' _ (by rw [Hlv.out.src]; omega) hs (by rw [Hlv.out.src]; omega) (by omega) (by omega) Hle.out Henv.out).mono ?_; rintro e w5 ⟨n, X5, nx5, rfl, h5, hc5, hle5, hlow5, hr5⟩; have H5 := Lib.hid h5; have Hc5 := Lib.hid (Hc'.out.next hc5 (fun i hi hT => by rcases hT with rfl | rfl; exact HVL.out; omega)); have Hle5 := Lib.hid hle5; have Hr5 := Lib.hid hr5; clear h5 hc5 hle5 hlow5 hr5)
        have Hbnd := Lib.hid hbnd
        by_cases hn : n = 0
        · subst hn
          have hgt : sum < sum' := by
            rcases Nat.lt_or_ge sum sum' with h | h
            · exact h
            · have e : sum' = sum := by have := Hss.out; omega
              obtain ⟨e1, e2⟩ := Heq.out e
              rcases Hr5.out with ⟨-, -, -, h3⟩ | ⟨h1, -⟩
              · rw [e1, e2] at h3
                obtain ⟨d1, d2⟩ := h3 (Dead.start N X lev t)
                exact absurd rfl (d1.shut Hlv.out d2 Hst.out (lev t).toNat t ht (by have := Hlt0.out; omega)).1
              · omega
          have Hgt := Lib.hid hgt
          have hX5 : X5 = X' := by
            rcases Hr5.out with ⟨-, h1, -⟩ | ⟨h1, -⟩
            · exact h1
            · omega
          have HX5 := Lib.hid hX5
          clear hgt hX5 hbnd
          go_wp2
          go_roundg (M * 1000000 - sum')
          case measure => have h1 := Hg.out; have h2 := Hgt.out; have h3 := Hbnd.out; go_light; omega
          case rel => exact ⟨sum', X', by have := Hbnd.out; omega, rfl, by have := H5.out.pb; rwa [HX5.out] at this, Hs'.out, Hc5.out⟩
        · obtain ⟨hp0, ha⟩ : 0 < n ∧ Aug N M lev t s n X' X5 := by
            rcases Hr5.out with ⟨h1, -⟩ | ⟨h1, -, h2⟩
            · exact absurd h1 hn
            · exact ⟨h1, h2⟩
          have hs5 := Hs'.out.more ha
          have hb5 := hs5.bound HX.out HC.out Hst.out
          have hw : IntKind.i64.wrap ((sum' : Int) + (n : Int)) = ((sum' + n : Nat) : Int) := wrap_nat (n := sum' + n) (by omega)
          have q0 : ((n : Int) == 0) = false := by simp; omega
          have Hs5 := Lib.hid hs5; have Hb5 := Lib.hid hb5; have Ha := Lib.hid ha
          clear hs5 hb5 ha hbnd
          go_wp2
          go_roundg (M * 1000000 - (sum' + n))
          case measure => have h1 := Hg'.out; have h3 := Hb5.out; go_light; omega
          case rel => exact ⟨sum' + n, X5, nx5, by have := Hb5.out; omega, rfl, H5.out, Hs5.out, Hc5.out, fun u hu => by rw [Ha.out.same (u + 2) (by omega)]; exact Hle5.out u hu, by have := Hss.out; omega, fun e => by have := Hss.out; omega⟩

end Go.Proofs.Ytbnbhjeknocboaa
