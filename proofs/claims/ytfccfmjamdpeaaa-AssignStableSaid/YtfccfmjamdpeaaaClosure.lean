/- The function literal inside arborlaw.AssignStable: it leaves 'ok' true. -/
import Derived.Test.YtfccfmjamdpeaaaOrders
import Derived.StillTailTactics
namespace Go.Proofs.Ytfccfmjamdpeaaa
open Go.RowKit

theorem below_setSame {w : World} {b : Nat} {v : Value} {t : TypeId} (h : w.heap[b]? = some (.cells #[v] t (0, 0))) : Below w.heap.size w (w.setCell ⟨b, 0, none⟩ v) :=
  ⟨rfl, rfl, rfl, by simp [World.setCell], fun k hk => by
    by_cases e : k = b
    · subst e; rw [one_setCell h, h]
    · exact Below.heap_setCell w _ _ k e⟩

theorem rank_still {k : Nat} (l : List Int) (s : Value) (v : Int) (w : World) (h : IsInts w s l) (e : idx l v = k) :
    Calls Try.prog 44 #[s, .int .i64 v] w fun e w' => e = .returned (.int .i64 k) ∧ w' = w := by
  subst e
  exact (rank_any l s v w h).mono fun _ _ ⟨h1, h2⟩ => ⟨h1, h2.symm⟩

/-- What the function literal finds. -/
structure StableEnv (ma mb : List (List Int)) (T : List Int) (sa sb st : Value) (A B N O R : Nat) (w : World) : Prop where
  ca : w.cell? ⟨A, 0, none⟩ = some sa
  cb : w.cell? ⟨B, 0, none⟩ = some sb
  cn : w.cell? ⟨N, 0, none⟩ = some (.int .i64 ma.length)
  ok : w.heap[O]? = some (.cells #[.bool true] 4 (0, 0))
  ct : w.cell? ⟨R, 0, none⟩ = some st
  ra : IsRows w sa ma
  rb : IsRows w sb mb
  rt : IsInts w st T

theorem StableEnv.below {ma mb : List (List Int)} {T : List Int} {sa sb st : Value} {A B N O R : Nat} {w w' : World} (h : StableEnv ma mb T sa sb st A B N O R w) (hb : Below w.heap.size w w') : StableEnv ma mb T sa sb st A B N O R w' :=
  ⟨below_cell hb h.ca, below_cell hb h.cb, below_cell hb h.cn, by rw [hb.block _ (lt_of_block h.ok)]; exact h.ok, below_cell hb h.ct, h.ra.below hb, h.rb.below hb, h.rt.below hb⟩

set_option maxHeartbeats 3200000 in
set_option maxRecDepth 100000 in
theorem closure_any {n : Nat} {ma mb : List (List Int)} {T l : List Int} {sa sb st s : Value} {A B N O R : Nat} {w : World} {M : Nat → Nat} (henv : StableEnv ma mb T sa sb st A B N O R w)
    (hn : n ≤ 100) (hla : ma.length = n) (hlb : mb.length = n) (hT : T = (List.range n).map fun i => ((M i : Nat) : Int))
    (best : ∀ M', Perm n M' → NoPair n (placeOf ma) (placeOf mb) M' → ∀ i, i < n → placeOf ma i (M i) ≤ placeOf ma i (M' i))
    (hs : IsInts w s l) (hl : l.length = n) (hp : Partial n l) :
    Calls Try.prog 43 #[s, .pointer (some ⟨A, 0, none⟩), .pointer (some ⟨B, 0, none⟩), .pointer (some ⟨N, 0, none⟩), .pointer (some ⟨O, 0, none⟩), .pointer (some ⟨R, 0, none⟩)] w fun e w' => e = .returned (.tuple #[]) ∧ Below w.heap.size w w' := by
  -- the candidate, as a function
  have hM' : ∀ i, i < n → l.getD i 0 = (((l.getD i 0).toNat : Nat) : Int) := fun i hi => by have := (hp.1 i (by omega)).1; omega
  have hP' : Perm n (fun i => (l.getD i 0).toNat) := by
    refine ⟨fun i hi => ?_, fun i j hi hj e => ?_⟩
    · have := hp.1 i (by omega); simp only; omega
    · have h1 := hp.1 i (by omega); have h2 := hp.1 j (by omega)
      simp only at e
      rcases Nat.lt_trichotomy i j with x | x | x
      · exact absurd (show l.getD i 0 = l.getD j 0 by omega) (hp.2 j i (by omega) x)
      · exact x
      · exact absurd (show l.getD j 0 = l.getD i 0 by omega) (hp.2 i j (by omega) x)
  have hTl : T.length = n := by rw [hT]; simp
  have hTM : ∀ i, i < n → T.getD i 0 = (M i : Int) := fun i hi => by rw [hT]; simp [List.getD, hi]
  clear hp hT
  have Henv := Lib.hid henv
  obtain ⟨ca, cb, cn, cok, ct, ra, rb, rt⟩ := henv
  have hs0 := hs
  have ra0 := ra; have rb0 := rb
  obtain ⟨a, cap, b, o, rfl, -, -, hadr, -, hcell⟩ := ra
  obtain ⟨a', cap', b', o', rfl, -, -, -, -, -⟩ := rb
  obtain ⟨a2, cap2, b2, o2, rfl, -, -, hadr2, -, hcell2⟩ := rt
  obtain ⟨a3, cap3, b3, o3, rfl, -, -, hadr3, -, hcell3⟩ := hs
  rw [hla] at ca cn ra0
  rw [hlb] at cb rb0
  rw [hTl] at ct
  rw [hl] at hs0 ⊢
  have Hs := Lib.hid hs0; have Ra := Lib.hid ra0; have Rb := Lib.hid rb0; have HM' := Lib.hid hM'; have HP' := Lib.hid hP'; have HTM := Lib.hid hTM; have Best := Lib.hid best
  clear hs0 ra0 rb0 hM' hP' hTM best
  go_enter Try.func43, Try.ntmps43
  go_wp2_with (go_at_call 41; refine (isStable_any n ma mb l _ _ _ _ _ Ra.out Rb.out Hs.out hn hla hlb hl HM'.out HP'.out).mono ?_; rintro e w1 ⟨hb1, c, rfl, hc⟩; have Hc := Lib.hid hc; clear hc; cases c)
  · go_end0
    exact ⟨rfl, hb1⟩
  · have hno := Hc.out.1 (by first | exact trivial | exact rfl)
    have hbest := Best.out _ HP'.out hno
    have Hbest := Lib.hid hbest
    clear hbest hno
    go_loopg [7] n (fun g s7 wr => ∃ i : Nat, i ≤ n ∧ g = n - i ∧ s7 = .int .i64 i ∧ Below w.heap.size w wr)
    case atStart => exact ⟨0, Nat.zero_le _, rfl, rfl, hb1⟩
    case round =>
      obtain ⟨i, hi, rfl, rfl, hb⟩ := hrel
      have Hb := Lib.hid hb
      have henv := Henv.out.below hb
      have ca := henv.ca
      have cn := henv.cn
      have cok := cell_of_one henv.ok
      have fok := free_of_one henv.ok
      have ct := henv.ct
      have hol := lt_of_block henv.ok
      have HO := Lib.hid henv.ok
      rw [hla] at ca cn
      rw [hTl] at ct
      clear henv
      by_cases hlt : i < n
      · obtain rfl := hadr (by omega)
        obtain rfl := hadr2 (by omega)
        obtain rfl := hadr3 (by omega)
        obtain ⟨x, Hx, xa, xcap, hcx, hx⟩ := rows_at hcell hb (show i < ma.length by omega)
        have hct := below_cell hb (hcell2 i (by omega))
        have hcl := below_cell hb (hcell3 i (by omega))
        rw [HTM.out i hlt] at hct
        rw [HM'.out i hlt] at hcl
        have hle := Hbest.out i hlt
        have e1 : placeOf ma i (M i) = idx x (M i) := by unfold placeOf; rw [Hx.out]
        have e2 : placeOf ma i ((l.getD i 0).toNat) = idx x ((l.getD i 0).toNat : Nat) := by unfold placeOf; rw [Hx.out]
        simp only [e1, e2] at hle
        generalize (l.getD i 0).toNat = mi' at hle hcl e2
        generalize M i = mi at hle hct e1
        generalize hr1 : idx x (mi : Int) = r1 at hle
        generalize hr2 : idx x (mi' : Int) = r2 at hle
        have hdle : decide ((r1 : Int) ≤ (r2 : Int)) = true := by simp; omega
        have Hr1 := Lib.hid hr1; have Hr2 := Lib.hid hr2; have Hxx := Lib.hid hx
        clear e1 e2 hr1 hr2 hx hb hcell hcell2 hcell3 hadr hadr2 hadr3 hb1
        go_wp2_with fail
        refine wp_region_still_tail 22 (by kernel_rfl) (by kernel_rfl) ?_
        simp only [List.take_succ_cons, List.take_zero, List.drop_succ_cons, List.drop_zero]
        repeat (first
          | still_step
          | still_call (rank_still _ _ _ _ (IsInts.drewN Hxx.out 1) Hr1.out)
          | still_call (rank_still _ _ _ _ (IsInts.drewN Hxx.out 1) Hr2.out))
        refine wpStill_nil ?_
        have hb2 : Below w.heap.size w wr.drew := Hb.out.drew
        have hok2 : wr.drew.heap[O]? = some (.cells #[.bool true] 4 (0, 0)) := HO.out
        change wpList _ _ _ _ _ wr.drew
        generalize wr.drew = w5 at hb2 hok2 ⊢
        clear cok fok hol
        have cok := cell_of_one hok2
        have fok := free_of_one hok2
        have hol := lt_of_block hok2
        have hfin := hb2.trans ((below_setSame hok2).mono hb2.size)
        have Hfin := Lib.hid hfin
        clear hfin hb2 hok2
        go_wp2
        go_roundg (n - (i + 1))
        case measure => go_light; omega
        case rel => exact ⟨i + 1, by omega, rfl, by go_num, Hfin.out⟩
      · clear hcell hcell2 hcell3
        go_wp2
        go_end0
        exact ⟨rfl, hb⟩

end Go.Proofs.Ytfccfmjamdpeaaa
