/- arborref.IsStable. -/
import Derived.Test.YtfccfmjamdpeaaaLikes
namespace Go.Proofs.Ytfccfmjamdpeaaa
open Go.RowKit

/-- Two who would rather have each other. -/
def BadPair (ma mb : List (List Int)) (M : Nat → Nat) (i k : Nat) : Prop := placeOf ma i (M k) < placeOf ma i (M i) ∧ placeOf mb (M k) i < placeOf mb (M k) k

theorem noPair_of {n : Nat} {ma mb : List (List Int)} {M : Nat → Nat} (h : ∀ i, i < n → ∀ k, k < n → ¬ BadPair ma mb M i k) : NoPair n (placeOf ma) (placeOf mb) M := fun i k hi hk h1 h2 => h i hi k hk ⟨h1, h2⟩
theorem not_noPair {n : Nat} {ma mb : List (List Int)} {M : Nat → Nat} {i k : Nat} (hi : i < n) (hk : k < n) (h : BadPair ma mb M i k) : ¬ NoPair n (placeOf ma) (placeOf mb) M := fun hh => hh i k hi hk h.1 h.2

set_option maxHeartbeats 3200000 in
set_option maxRecDepth 100000 in
theorem isStable_any (n : Nat) (ma mb : List (List Int)) (l : List Int) (M : Nat → Nat) (s t u : Value) (w : World) (h : IsRows w s ma) (h' : IsRows w t mb) (h'' : IsInts w u l)
    (hn : n ≤ 100) (hla : ma.length = n) (hlb : mb.length = n) (hl : l.length = n) (hM : ∀ i, i < n → l.getD i 0 = (M i : Int)) (hP : Perm n M) :
    Calls Try.prog 41 #[s, t, u] w fun e w' => Below w.heap.size w w' ∧ ∃ c, e = .returned (.bool c) ∧ (c = true ↔ NoPair n (placeOf ma) (placeOf mb) M) := by
  obtain ⟨a, cap, b, o, rfl, -, -, hadr, -, hcell⟩ := h
  obtain ⟨a', cap', b', o', rfl, -, -, hadr', -, hcell'⟩ := h'
  have hu := h''
  obtain ⟨a2, cap2, b2, o2, rfl, -, -, hadr2, -, hcell2⟩ := h''
  have hmk := run_make_row' (P := Try.prog) 51 3 (.int .i64 0) 8 Try.underlying51 info3 rfl .i64 .i64 n (by omega) (by omega)
  have HM := Lib.hid hM; have HP := Lib.hid hP
  clear hM hP hu
  have h1 := World.rowIs_made w (.int .i64 0) n 3
  have hbl : Below w.heap.size w (w.alloc (Obj.cells (madeCells #[.int .i64 0] n) 3)) := below1 _ _
  have Hrow := Lib.hid h1; have Hbl := Lib.hid hbl
  clear h1 hbl
  rw [hla, hlb, hl]
  go_enter Try.func41, Try.ntmps41
  go_wp2
  clear hmk
  generalize w.alloc (Obj.cells (madeCells #[Value.int .i64 0] n) 3) = w1 at *
  generalize hB : w.heap.size = B at *
  go_loopg [8] n (fun g s8 wr => ∃ k : Nat, k ≤ n ∧ g = n - k ∧ s8 = .int .i64 k ∧ Below B w wr ∧ ∃ f : Nat → Int, wr.rowIs B 3 n (ri f) ∧ ∀ i, i < k → f (M i) = i)
  case atStart => exact ⟨0, Nat.zero_le _, rfl, rfl, Hbl.out, fun _ => 0, Hrow.out, fun _ h => absurd h (Nat.not_lt_zero _)⟩
  case round =>
    obtain ⟨k, hk, rfl, rfl, hb, f, hrow, hf⟩ := hrel
    have Hf := Lib.hid hf; clear hf
    have hbl := hrow.lt
    by_cases hlt : k < n
    · obtain rfl := hadr2 (by omega)
      have hc2 := hb.cell (p := ⟨b2, o2 + k, none⟩) (by have := World.block_lt_of_cell? _ _ (hcell2 k (by omega)); omega)
      rw [hcell2 k (by omega), HM.out k (by omega)] at hc2
      have hMk := HP.out.1 k (by omega)
      generalize hmk : M k = mk at hc2 hMk
      have cs := hrow.cell (show mk < n by omega)
      have zs := hrow.frozen mk
      simp only [ri] at cs
      have fin1 := row_set_ri hrow mk (k : Int)
      have fin2 := hb.setCell (p := ⟨B, mk, none⟩) (Nat.le_refl _) (.int .i64 (k : Int))
      have Fin1 := Lib.hid fin1; have Fin2 := Lib.hid fin2; have Hmk := Lib.hid hmk
      clear fin1 fin2 hb hrow hcell hcell' hcell2 hadr hadr' hadr2 hmk
      go_wp2
      go_roundg (n - (k + 1))
      case measure => go_light; omega
      case rel => exact ⟨k + 1, by omega, rfl, by go_num, Fin2.out, _, Fin1.out, fun i hi => by
        by_cases e : i = k
        · subst e; simp [Hmk.out]
        · have : M i ≠ mk := fun e2 => e (HP.out.2 i k (by omega) (by omega) (by rw [e2, Hmk.out]))
          simp only [this, if_false]
          exact Hf.out i (by omega)⟩
    · obtain rfl : n = k := by omega
      have hof : ∀ j, j < n → ∃ i, i < n ∧ M i = j ∧ f j = i := fun j hj => by
        obtain ⟨i, hi, e⟩ := HP.out.surj j hj
        exact ⟨i, hi, e, by rw [← e]; exact Hf.out i (by omega)⟩
      have Hof := Lib.hid hof
      clear hof Hf
      go_wp2
      obtain ⟨w2, rfl⟩ : ∃ w2 : World, w2 = wr := ⟨_, rfl⟩
      have Hb := Lib.hid hb; have Hrow2 := Lib.hid hrow
      clear hb hrow Hrow Hbl
      go_loopg [9] n (fun g s9 wr => ∃ i : Nat, i ≤ n ∧ g = n - i ∧ s9 = .int .i64 i ∧ Drew w2 wr ∧ ∀ i', i' < i → ∀ k, k < n → ¬ BadPair ma mb M i' k)
      case atStart => exact ⟨0, Nat.zero_le _, rfl, rfl, Drew.refl _, fun _ h => absurd h (Nat.not_lt_zero _)⟩
      case round =>
        obtain ⟨i, hi, rfl, rfl, hd, hno⟩ := hrel
        have Hno := Lib.hid hno; clear hno
        by_cases hlti : i < n
        · obtain rfl := hadr (by omega)
          have Hd0 := Lib.hid hd
          clear hd
          go_wp2
          obtain ⟨w3, rfl⟩ : ∃ w3 : World, w3 = wr := ⟨_, rfl⟩
          go_loopg [10] n (fun g s10 wr => ∃ j : Nat, j ≤ n ∧ g = n - j ∧ s10 = .int .i64 j ∧ Drew w3 wr ∧ ∀ j', j' < j → ∀ k, k < n → M k = j' → ¬ BadPair ma mb M i k)
          case atStart => exact ⟨0, Nat.zero_le _, rfl, rfl, Drew.refl _, fun _ h => absurd h (Nat.not_lt_zero _)⟩
          case round =>
            obtain ⟨j, hj, rfl, rfl, hd, hnoj⟩ := hrel
            have Hnoj := Lib.hid hnoj; clear hnoj
            by_cases hltj : j < n
            · obtain rfl := hadr' (by omega)
              obtain rfl := hadr2 (by omega)
              have hd2 := Hd0.out.trans hd
              have hbw : Below B w wr := Hb.out.trans (hd2.below)
              have hbw' : Below w.heap.size w wr := by rw [hB]; exact hbw
              have hrow := Hrow2.out.of_block (w' := wr) (by obtain ⟨_, rfl⟩ := hd2; rfl)
              obtain ⟨x, Hx, xa, xcap, hcx, hx⟩ := rows_at hcell hbw' (show i < ma.length by omega)
              obtain ⟨y, Hy, ya, ycap, hcy, hy⟩ := rows_at hcell' hbw' (show j < mb.length by omega)
              have hcm := below_cell hbw' (hcell2 i (by omega))
              rw [HM.out i (by omega)] at hcm
              obtain ⟨k, hk, hMk, hfk⟩ := Hof.out j (by omega)
              have hcf := hrow.cell (show j < n by omega)
              simp only [ri] at hcf
              rw [hfk] at hcf
              have hpa1 : placeOf ma i j = idx x j := by unfold placeOf; rw [Hx.out]
              have hpa2 : placeOf ma i (M i) = idx x (M i) := by unfold placeOf; rw [Hx.out]
              have hpb1 : placeOf mb j i = idx y i := by unfold placeOf; rw [Hy.out]
              have hpb2 : placeOf mb j k = idx y k := by unfold placeOf; rw [Hy.out]
              have hbp : BadPair ma mb M i k ↔ idx x j < idx x (M i) ∧ idx y i < idx y k := by unfold BadPair; rw [hMk, hpa1, hpa2, hpb1, hpb2]
              have Hbp := Lib.hid hbp; have HMk := Lib.hid hMk; have Hd2 := Lib.hid hd2
              generalize hr1 : idx x j = r1 at *
              generalize hr2 : idx x (M i) = r2 at *
              generalize hr3 : idx y i = r3 at *
              generalize hr4 : idx y k = r4 at *
              have Hr1 := Lib.hid hr1; have Hr2 := Lib.hid hr2; have Hr3 := Lib.hid hr3; have Hr4 := Lib.hid hr4
              generalize M i = mi at *
              have Hxx := Lib.hid hx; have Hyy := Lib.hid hy; have Hd := Lib.hid hd; have Hrow3 := Lib.hid hrow
              clear hbp hMk hr1 hr2 hr3 hr4 hpa1 hpa2 hpb1 hpb2 hfk hbw hbw' hd hd2 hrow hx hy hcell hcell' hcell2 hadr hadr' hadr2
              by_cases h12 : r1 < r2
              · have hd12 : decide ((r1 : Int) < (r2 : Int)) = true := by simp; omega
                by_cases h34 : r3 < r4
                · have hd34 : decide ((r3 : Int) < (r4 : Int)) = true := by simp; omega
                  go_wp2
                  go_quiet ((go_at_call 44; first | exact Calls.quiet_of (rank_is _ _ _ _ (Hxx.out.drewN _) Hr1.out) | exact Calls.quiet_of (rank_is _ _ _ _ (Hxx.out.drewN _) Hr2.out) | exact Calls.quiet_of (rank_is _ _ _ _ (Hyy.out.drewN _) Hr3.out) | exact Calls.quiet_of (rank_is _ _ _ _ (Hyy.out.drewN _) Hr4.out)))
                  go_wp2
                  go_ret
                  refine ⟨?_, false, rfl, (fun h => by cases h), fun h => absurd h (not_noPair (by omega) hk (Hbp.out.2 ⟨h12, h34⟩))⟩
                  rw [hB]; exact Hb.out.trans ((Hd2.out.add _).below)
                · have hd34 : decide ((r3 : Int) < (r4 : Int)) = false := by simp; omega
                  go_wp2
                  go_quiet ((go_at_call 44; first | exact Calls.quiet_of (rank_is _ _ _ _ (Hxx.out.drewN _) Hr1.out) | exact Calls.quiet_of (rank_is _ _ _ _ (Hxx.out.drewN _) Hr2.out) | exact Calls.quiet_of (rank_is _ _ _ _ (Hyy.out.drewN _) Hr3.out) | exact Calls.quiet_of (rank_is _ _ _ _ (Hyy.out.drewN _) Hr4.out)))
                  go_wp2
                  go_roundg (n - (j + 1))
                  case measure => go_light; omega
                  case rel => exact ⟨j + 1, by omega, rfl, by go_num, Hd.out.add _, fun j' hj' k' hk' e => by
                    by_cases e2 : j' = j
                    · obtain rfl : k' = k := HP.out.2 _ _ hk' hk (by rw [e, e2, HMk.out])
                      exact fun hb => h34 (Hbp.out.1 hb).2
                    · exact Hnoj.out j' (by omega) k' hk' e⟩
              · have hd12 : decide ((r1 : Int) < (r2 : Int)) = false := by simp; omega
                go_wp2
                go_quiet ((go_at_call 44; first | exact Calls.quiet_of (rank_is _ _ _ _ (Hxx.out.drewN _) Hr1.out) | exact Calls.quiet_of (rank_is _ _ _ _ (Hxx.out.drewN _) Hr2.out)))
                go_wp2
                go_roundg (n - (j + 1))
                case measure => go_light; omega
                case rel => exact ⟨j + 1, by omega, rfl, by go_num, Hd.out.add _, fun j' hj' k' hk' e => by
                  by_cases e2 : j' = j
                  · obtain rfl : k' = k := HP.out.2 _ _ hk' hk (by rw [e, e2, HMk.out])
                    exact fun hb => h12 (Hbp.out.1 hb).1
                  · exact Hnoj.out j' (by omega) k' hk' e⟩
            · have Hd := Lib.hid hd
              clear hd hcell hcell' hcell2
              go_wp2
              go_roundg (n - (i + 1))
              case measure => go_light; omega
              case rel => exact ⟨i + 1, by omega, rfl, by go_num, Hd0.out.trans Hd.out, fun i' hi' k hk => by
                by_cases e : i' = i
                · subst e; exact Hnoj.out (M k) (by have := HP.out.1 k hk; omega) k hk rfl
                · exact Hno.out i' (by omega) k hk⟩
        · clear hcell hcell' hcell2
          go_wp2
          go_ret
          refine ⟨?_, true, rfl, fun _ => noPair_of fun i' hi' k hk => Hno.out i' (by omega) k hk, fun _ => rfl⟩
          rw [hB]; exact Hb.out.trans hd.below

end Go.Proofs.Ytfccfmjamdpeaaa
