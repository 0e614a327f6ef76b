/- (*flow.pipes).follow: along arcs with flow, one by one. -/
import Derived.Test.YtbnbhjeknocboaaPD
import Derived.Test.YtbnbhjeknocboaaFMost
namespace Go.Proofs.Ytbnbhjeknocboaa
open Go.RowKit

/-- A way has been followed. -/
def FollowPost (l : List (Int × Int × Int)) (s t bF : Nat) (F0 : Nat → Nat) (Inv : (Nat → Nat) → Nat → Prop) (w : World) (e : Ending) (w' : World) : Prop :=
  ∃ (v : Value) (F : Nat → Nat) (P K : List Nat), e = .returned v ∧ w'.ownsRow w.heap.size 3 1 v P.length ((ints P).map (Value.int .i64)) ∧ Trail l l.length s t F0 F P K ∧ P.getD K.length 0 = t ∧ Inv F t ∧
    w'.rowIs bF 3 l.length (rn F) ∧ Chg (fun q => q = bF) w w' ∧ P.length ≤ 1000000001

theorem Chg.grown {S : Nat → Prop} {a b c : World} {base : Nat} {e : TypeId} {size : Nat} {v : Value} {n : Nat} {xs : List Value} (h : Chg S a b) (hg : b.grownBy c v.ownBlock) (ho : b.ownsRow base e size v n xs) (hb : a.heap.size ≤ base) : Chg S a c :=
  ⟨hg.os.trans h.os, hg.tape.trans h.tape, hg.output.trans h.output, Nat.le_trans h.size hg.size, fun k hk hs => (hg.block k (Nat.lt_of_lt_of_le hk h.size) (fun e => by have := (ho.lt k e.symm).1; omega)).trans (h.block k hk hs)⟩

/-- Pipe i leads on from v. -/
def GoodP (F : Nat → Nat) (i : Nat) : Prop := i % 2 = 0 ∧ 0 < F (i / 2)

set_option maxHeartbeats 6400000 in
set_option maxRecDepth 100000 in
theorem follow_any (l : List (Int × Int × Int)) (base bP bA bF NN s t : Nat) (V : Nat → Value) (X : Nat → List Nat) (F0 : Nat → Nat) (Inv : (Nat → Nat) → Nat → Prop) (w : World) (hX : NetOk NN (2 * l.length) X) (hsame : ∀ q, q ≠ 1 → X q = netX l q) (hm : l.length ≤ 5000)
    (h : PB w base bP bA NN V X) (hF : w.rowIs bF 3 l.length (rn F0)) (hbF : bF ≠ bP ∧ bF ≠ bA ∧ ∀ r, r < NN + 2 → (V r).ownBlock ≠ some bF) (hall : allF F0 l.length ≤ 1000000000) (ht : t < NN)
    (hfl : ∀ F v, Inv F v → v < NN ∧ ∀ k, k < l.length → F k ≤ 1000000) (hon : ∀ F v, Inv F v → v ≠ t → ∃ k, k < l.length ∧ fromL l k = v ∧ 0 < F k)
    (hstep : ∀ F v k, Inv F v → v ≠ t → k < l.length → fromL l k = v → 0 < F k → Inv (lessF F k) (toL l k)) (hI0 : Inv F0 s) :
    Calls Try.prog 46 #[.pointer (some ⟨bP, 0, none⟩), .int .i64 (s : Int), .int .i64 (t : Int), .slice (some ⟨bF, 0, none⟩) l.length l.length] w (FollowPost l s t bF F0 Inv w) := by
  have H := Lib.hid h; have HX := Lib.hid hX; have Hsame := Lib.hid hsame; have HF := Lib.hid hF; have Hon := Lib.hid hon; have Hstep := Lib.hid hstep; have Hfl := Lib.hid hfl; have HI0 := Lib.hid hI0; have HO := Lib.hid hbF.2.2
  have hNN := hX.small.1
  have hbP := hbF.1
  have hbA := hbF.2.1
  have hbFl := hF.lt
  clear h hX hsame hF hbF hon hstep hfl hI0
  go_enter Try.func46, Try.ntmps46
  have hown0 := World.ownsRow_lit (base := w.heap.size) (e := 3) (size := 1) w #[Value.int .i64 (s : Int)] 1 (Nat.le_refl _) (by unfold maxLen; omega) rfl
  have Hown0 := Lib.hid hown0
  have HF1 := Lib.hid (HF.out.alloc (Obj.cells #[Value.int .i64 (s : Int)] 3))
  have Hc1 := Lib.hid ((Chg.refl (fun q => q = bF) w).alloc (Obj.cells #[Value.int .i64 (s : Int)] 3))
  clear hown0
  go_wp2
  generalize w.alloc (Obj.cells #[Value.int .i64 (s : Int)] 3) = w1 at *
  go_loopg [9, 10] (allF F0 l.length) (fun g s9 s10 wr => ∃ (F : Nat → Nat) (P K : List Nat), allF F l.length = g ∧ allF F l.length + K.length = allF F0 l.length ∧ s10 = .int .i64 (P.getD K.length 0 : Nat) ∧ wr.ownsRow w.heap.size 3 1 s9 P.length ((ints P).map (Value.int .i64)) ∧ Trail l l.length s t F0 F P K ∧ Inv F (P.getD K.length 0) ∧ wr.rowIs bF 3 l.length (rn F) ∧ Chg (fun q => q = bF) w wr)
  case atStart => exact ⟨F0, [s], [], rfl, rfl, rfl, Hown0.out, Trail.start, HI0.out, HF1.out, Hc1.out⟩
  case round =>
    obtain ⟨F, P, K, rfl, htot, rfl, hown, htr, hinv, hrow, hch⟩ := hrel
    have Hown := Lib.hid hown; have Htr := Lib.hid htr; have Hinv := Lib.hid hinv; have Hrow := Lib.hid hrow; have Hch := Lib.hid hch
    obtain ⟨a0, c0, rfl⟩ := ownsRow_form hown
    have hPl0 : P.length ≤ 1000000001 := by have := htr.len; omega
    generalize hvv : P.getD K.length 0 = v at *
    have Hvv := Lib.hid hvv; have Htot := Lib.hid htot
    clear htot
    by_cases hvt : v = t
    · subst hvt
      clear hown htr hinv hrow hch hvv
      go_wp2
      exact bodyPost_ret (v := .slice a0 P.length c0) (by simp [results, Try.results46, go_sem]) rfl ⟨_, F, P, K, rfl, Hown.out, Htr.out, Hvv.out, Hinv.out, Hrow.out, Hch.out, hPl0⟩
    · obtain ⟨hvN, hsmall⟩ := Hfl.out F v hinv
      obtain ⟨kx, kx1, kx2, kx3⟩ := Hon.out F v hinv hvt
      have q0 : ((v : Int) != (t : Int)) = true := by simp; omega
      have Hvt := Lib.hid hvt; have Hsmall := Lib.hid hsmall
      have hxv : X (v + 2) = netX l (v + 2) := Hsame.out (v + 2) (by omega)
      have hkin : 2 * kx ∈ X (v + 2) := by
        rw [hxv]
        refine ((net_whole l).at_iff v (2 * kx)).2 ⟨by omega, ?_⟩
        show toX (netX l) ((2 * kx) ^^^ 1) = v
        rw [xor_one_even rfl, ((net_whole l).arc kx kx1).2.1]
        exact kx2
      have hxl := HX.out.at_len v hvN
      have hlen0 : 0 < (X (v + 2)).length := by
        rcases Nat.eq_zero_or_pos (X (v + 2)).length with e | e
        · rw [List.eq_nil_of_length_eq_zero e] at hkin; cases hkin
        · exact e
      have Hkin := Lib.hid (And.intro hkin (And.intro kx1 kx3))
      obtain ⟨gL, cL, eL, hg1, hg2, hlook⟩ := H.out.look (show v + 2 < NN + 2 by omega) hlen0
      have hgL : gL ≠ bF := fun e => HO.out (v + 2) (by omega) (by rw [eL, e]; rfl)
      have p2 := hch.cell (H.out.rP.cell (show 2 < 3 by omega)) (show ¬ bP = bF by omega)
      simp only [show ¬ (2 : Nat) = 0 by omega, show ¬ (2 : Nat) = 1 by omega, if_false] at p2
      have av := hch.cell (H.out.rA.cell hvN) (show ¬ bA = bF by omega)
      rw [eL] at av
      have Hlook := Lib.hid hlook; have Eat := Lib.hid (fun i (hi : i ∈ X (v + 2)) => HX.out.at_lt v hvN i hi)
      clear hown htr hinv hrow hch hvt hsmall hxv hkin kx1 kx2 kx3 eL hg1 hg2 hlook hvv
      go_wp2
      obtain ⟨w2, rfl⟩ : ∃ w2 : World, w2 = wr := ⟨_, rfl⟩
      clear p2 av
      go_loopg [27] (X (v + 2)).length (fun g s27 wx => ∃ j : Nat, j ≤ (X (v + 2)).length ∧ g = (X (v + 2)).length - j ∧ s27 = .int .i64 (j : Int) ∧ (∀ q, q < j → ¬ GoodP F ((X (v + 2)).getD q 0)) ∧ w2 = wx)
      case atStart => exact ⟨0, Nat.zero_le _, rfl, rfl, fun q hq => absurd hq (Nat.not_lt_zero _), rfl⟩
      case round =>
        obtain ⟨j, hj, rfl, rfl, hbad, rfl⟩ := hrel
        have Hbad := Lib.hid hbad
        clear hbad
        by_cases hjl : j < (X (v + 2)).length
        · have ci := Hch.out.cell (Hlook.out j hjl).1 (show ¬ gL = bF from hgL)
          have hmem : (X (v + 2)).getD j 0 ∈ X (v + 2) := by
            have e : (X (v + 2)).getD j 0 = (X (v + 2))[j] := by simp [List.getD, hjl]
            rw [e]; exact List.getElem_mem hjl
          obtain ⟨hi2, hiv⟩ := Eat.out _ hmem
          generalize hii : (X (v + 2)).getD j 0 = i at *
          have Hii := Lib.hid hii
          clear hii hmem
          have hk : i / 2 < l.length := by omega
          have cF := Hrow.out.cell hk
          have cFz := Hrow.out.frozen (i / 2)
          have cFl := Hrow.out.lt
          simp only [rn] at cF
          have hsm := Hsmall.out (i / 2) hk
          by_cases hev : i % 2 = 0
          · have q2 : ((i : Int) % 2 == 0) = true := by simp; omega
            by_cases hpos : 0 < F (i / 2)
            · have q3 : decide (0 < F (i / 2)) = true := decide_eq_true hpos
              have hX0 : ∀ q, toX X q = toX (netX l) q := fun q => by show (X 0).getD q 0 = _; rw [Hsame.out 0 (by omega)]
              have hi : i = 2 * (i / 2) := by omega
              have hfrom : fromL l (i / 2) = v := by
                rw [xor_one_even hi, hX0, ((net_whole l).arc (i / 2) hk).2.1] at hiv
                exact hiv
              have hto : toX X i = toL l (i / 2) := by
                rw [hX0]
                have := ((net_whole l).arc (i / 2) hk).1
                rw [← hi] at this
                exact this
              have hX0l : (X 0).length = 2 * l.length := HX.out.toL
              obtain ⟨g0, c1, e0, hg1, hg2, hlook0⟩ := H.out.look (show 0 < NN + 2 by omega) (by rw [hX0l]; omega)
              have hg0 : g0 ≠ bF := fun e => HO.out 0 (by omega) (by rw [e0, e]; rfl)
              have p0 := Hch.out.cell (H.out.rP.cell (show 0 < 3 by omega)) (show ¬ bP = bF by omega)
              simp only [if_true] at p0
              rw [e0, hX0l] at p0
              have ct := Hch.out.cell (hlook0 i (by rw [hX0l]; omega)).1 (show ¬ g0 = bF from hg0)
              rw [show (X 0).getD i 0 = toL l (i / 2) from hto] at ct
              have Hgo := Lib.hid (And.intro hfrom hpos)
              have Hm1 := Lib.hid (Htr.out.more hk (by rw [Hvv.out]; exact hfrom) hpos (by rw [Hvv.out]; exact Hvt.out))
              have Hi1 := Lib.hid (Hstep.out F v (i / 2) Hinv.out Hvt.out hk hfrom hpos)
              have Hall := Lib.hid (allF_less hpos l.length hk)
              have hw1 : IntKind.i64.wrap (((F (i / 2) : Nat) : Int) - 1) = ((F (i / 2) - 1 : Nat) : Int) := by
                rw [show ((F (i / 2) : Nat) : Int) - 1 = ((F (i / 2) - 1 : Nat) : Int) by omega]
                exact IntWalk.i64_in _ (by omega)
              have Hr1 := Lib.hid ((row_set_rn Hrow.out (i / 2) (F (i / 2) - 1)))
              have Ho1 := Lib.hid (ownsRow_setCell_below Hown.out (a := ⟨bF, i / 2, none⟩) hbFl (.int .i64 ((F (i / 2) - 1 : Nat) : Int)))
              have Hc2 := Lib.hid (Hch.out.setCell (p := ⟨bF, i / 2, none⟩) (fun _ => rfl) (.int .i64 ((F (i / 2) - 1 : Nat) : Int)))
              have hwz : w.heap.size ≤ w2.heap.size := Hch.out.size
              clear hX0 hi hfrom hto e0 hg1 hg2 hlook0 hpos hiv hev hX0l
              generalize htl : toL l (i / 2) = tl at *
              have Htl := Lib.hid htl
              clear htl
              go_wp2_with (at_builtin; go_loud (refine wpList_append_has rfl (.tmp 57) (.tmp 59) 25 rfl w.heap.size 3 (.int .i64 0) 8 Try.underlying25 info3 rfl _ P.length ((ints P).map (Value.int .i64)) rfl (Ho1.out.alloc _) _ 1 [.int .i64 (tl : Int)] rfl (HasCells.at _ _ _ rfl (by simp)) (by omega) (by omega) (by rw [World.size_alloc, size_setCell]; omega) ?_; intro a2 c2 w8 hown2 hg2); have Hown2 := Lib.hid hown2; have Hgr := Lib.hid ((Hc2.out.alloc (Obj.cells #[Value.int .i64 (tl : Int)] 3)).grown hg2 (Ho1.out.alloc _) (Nat.le_refl _)); have Hr2 := Lib.hid ((Hr1.out.alloc (Obj.cells #[Value.int .i64 (tl : Int)] 3)).of_block (hg2.block _ (by rw [World.size_alloc, size_setCell]; omega) (fun e => by have := ((Ho1.out.alloc (Obj.cells #[Value.int .i64 (tl : Int)] 3)).lt bF e.symm).1; omega))); clear hown2 hg2)
              go_roundg (allF (lessF F (i / 2)) l.length)
              case measure => have := Hall.out; go_light; omega
              case rel => exact ⟨lessF F (i / 2), P ++ [tl], K ++ [i / 2], rfl, by
                have := Hall.out
                have := Htot.out
                rw [List.length_append, List.length_singleton]
                omega, by
                have := Hm1.out.len
                rw [List.length_append, List.length_append, List.length_singleton, List.length_singleton] at this
                rw [List.length_append, List.length_singleton, show K.length + 1 = P.length by omega, getD_app_eq], by
                rw [List.length_append, ints_snoc, List.map_append]
                exact Hown2.out, Hm1.out, by
                have := Hm1.out.len
                rw [List.length_append, List.length_append, List.length_singleton, List.length_singleton] at this
                rw [List.length_append, List.length_singleton, show K.length + 1 = P.length by omega, getD_app_eq]
                exact Hi1.out, Hr2.out, Hgr.out⟩
            · have q3 : decide (0 < F (i / 2)) = false := decide_eq_false hpos
              have hno : ¬ GoodP F i := fun h => hpos h.2
              have Hno := Lib.hid hno
              clear hno
              go_wp2
              go_roundg ((X (v + 2)).length - (j + 1))
              case measure => go_light; omega
              case rel => exact ⟨j + 1, by omega, rfl, by go_num, fun q hq => by
                by_cases e : q = j
                · rw [e, Hii.out]; exact Hno.out
                · exact Hbad.out q (by omega), rfl⟩
          · have hno : ¬ GoodP F i := fun h => hev h.1
            have Hno := Lib.hid hno
            have q2 : ((i : Int) % 2 == 0) = false := by simp; omega
            clear hno
            go_wp2
            go_roundg ((X (v + 2)).length - (j + 1))
            case measure => go_light; omega
            case rel => exact ⟨j + 1, by omega, rfl, by go_num, fun q hq => by
              by_cases e : q = j
              · rw [e, Hii.out]; exact Hno.out
              · exact Hbad.out q (by omega), rfl⟩
        · exfalso
          obtain ⟨h1, h2, h3⟩ := Hkin.out
          obtain ⟨q, hq, he⟩ := List.getElem_of_mem h1
          refine Hbad.out q (by omega) ?_
          have e : (X (v + 2)).getD q 0 = 2 * kx := by simp [List.getD, hq, he]
          rw [e]
          exact ⟨by omega, by rw [show 2 * kx / 2 = kx by omega]; exact h3⟩

end Go.Proofs.Ytbnbhjeknocboaa
