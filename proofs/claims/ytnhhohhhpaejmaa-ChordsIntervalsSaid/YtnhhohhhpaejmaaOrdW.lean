/- chords.Order: DIRAC: an order in which each node is simple among those that are left, or a ring without a chord. -/
import Derived.Test.YtnhhohhhpaejmaaRnhW
import Derived.Test.YtnhhohhhpaejmaaPD
import Derived.Test.YtnhhohhhpaejmaaTable
import Derived.Test.YtnhhohhhpaejmaaPG
import Derived.Deep.CutBlock
import Derived.Deep.RegionHeld3
namespace Go.Proofs.Ytnhhohhhpaejmaa
open Go Go.RowKit

theorem good_symC {l : List (Int × Int)} {N : Nat} : ∀ i j, i < N → j < N → adj l i j = adj l j i := fun i j _ _ => adj_symm l i j
theorem good_irrC {l : List (Int × Int)} {N : Nat} (h : GoodGraph (N : Int) l) : ∀ i, i < N → adj l i i = false := fun i _ => adj_self (fun j hj => (h.fine j hj).2.1) i
theorem good_endsC {l : List (Int × Int)} {n : Int} (h : GoodGraph n l) : ∀ j, j < l.length → EndsOk n (l.getD j (0, 0)) ∧ (l.getD j (0, 0)).1 ≠ (l.getD j (0, 0)).2 := fun j hj => ⟨(h.fine j hj).1, (h.fine j hj).2.1⟩
theorem cnt_none : ∀ n, cnt (fun _ => false) n = 0
  | 0 => rfl
  | n + 1 => by rw [cnt, cnt_none n]; simp
theorem cnt_mem_le : ∀ (L : List Nat) (N : Nat), cnt (fun v => decide (v ∈ L)) N ≤ L.length
  | [], N => by simp [cnt_none]
  | a :: L, N => by
    have ih := cnt_mem_le L N
    rw [List.length_cons]
    by_cases h : a < N ∧ a ∉ L
    · have h1 := cnt_seen (I := fun v => decide (v ∈ L)) h.1 (by simpa using h.2)
      have e : (fun q => if q = a then true else decide (q ∈ L)) = fun v => decide (v ∈ a :: L) := by
        funext q; by_cases e : q = a <;> simp [e]
      rw [e] at h1; omega
    · have := cnt_mono (I := fun v => decide (v ∈ a :: L)) (J := fun v => decide (v ∈ L)) (n := N) fun k hk hm => by
        simp only [decide_eq_true_eq, List.mem_cons] at hm ⊢
        rcases hm with hm | hm
        · subst hm
          by_cases e : k ∈ L
          · exact e
          · exact absurd ⟨hk, e⟩ h
        · exact hm
      omega
theorem some_left {L : List Nat} {N : Nat} (h : L.length < N) : ∃ v, v < N ∧ decide (v ∈ L) = false := by
  by_cases e : ∃ v, v < N ∧ decide (v ∈ L) = false
  · exact e
  · exfalso
    have h1 := cnt_mem_le L N
    have h2 : cnt (fun _ => true) N ≤ cnt (fun v => decide (v ∈ L)) N := cnt_mono fun k hk _ => by
      cases hh : decide (k ∈ L) with
      | true => rfl
      | false => exact absurd ⟨k, hk, hh⟩ e
    have h3 : ∀ n, cnt (fun _ => true) n = n := fun n => by
      induction n with
      | zero => rfl
      | succ n ih => rw [cnt, ih]; simp
    rw [h3] at h2
    omega
/-- The node that is looked for. -/
def OrdV (N : Nat) (G : Nat → Nat → Bool) (X : Nat → Bool) (z : Int) : Prop := (z = -1 ∧ ∀ w, w < N → X w = false → ¬ SimpAt N G X w) ∨ ∃ v : Nat, z = (v : Int) ∧ v < N ∧ X v = false ∧ SimpAt N G X v
theorem simple_is {N : Nat} {G : Nat → Nat → Bool} {X : Nat → Bool} {gv : Value} {bX v : Nat} {w : World} (b : Bool) (hb : if b then SimpAt N G X v else ¬ SimpAt N G X v) (hN : N ≤ 100) (hv : v < N) (hsym : ∀ i j, i < N → j < N → G i j = G j i) (hg : HasGrid w gv N G) (hX : w.rowIs bX 4 N (rb X)) :
    Calls Try.prog 31 #[gv, .slice (some ⟨bX, 0, none⟩) N N, .int .i64 (v : Int)] w fun e w' => e = .returned (.bool b) ∧ w' = w :=
  (simple_any N G X gv bX v w hN hv hsym hg hX).mono fun e w' ⟨bb, he, hyes, hnot, hww⟩ => by
    refine ⟨?_, hww⟩
    cases b <;> cases bb
    · exact he
    · exact absurd (hyes rfl) hb
    · exact absurd hb (hnot rfl)
    · exact he
/-- What chords.Order answers. -/
def OrdPost (n : Int) (l : List (Int × Int)) (w : World) (e : Ending) (w' : World) : Prop :=
  ∃ c a o h, GraphSpec n l c a ∧ e = .returned (.tuple #[o, h, .agg #[.int .i64 c, .int .i64 a]]) ∧ Below w.heap.size w w' ∧
    ((c ≠ 0 ∧ o = .slice none 0 0 ∧ h = .slice none 0 0) ∨ (c = 0 ∧ ∃ N : Nat, n = (N : Int) ∧ GoodGraph n l ∧
      ((∃ L, PerfI N (adj l) L ∧ L.length = N ∧ h = .slice none 0 0 ∧ w'.ownsRow w.heap.size 3 1 o L.length (nvals L)) ∨
       (∃ m, HolR N (adj l) m ∧ o = .slice none 0 0 ∧ w'.ownsRow w.heap.size 3 1 h m.length (nvals m)))))

set_option maxHeartbeats 6400000 in
set_option maxRecDepth 100000 in
theorem order_chords (n : Int) (l : List (Int × Int)) (s : Value) (w : World) (h : IsEdges w s l) :
    Calls Try.prog 9 #[.agg #[.int .i64 n, s]] w (OrdPost n l w) := by
  obtain ⟨ad, cap, rfl⟩ := h.form
  have St := Lib.hid (WkG.start (n := n) h)
  clear h
  go_enter Try.func9, Try.ntmps9
  go_upto_region 1 with fail
  generalize (w.alloc (Obj.cells #[.int .i64 n, .slice ad l.length cap] 24)).alloc (Obj.cells #[.int .i64 0, .int .i64 0] 27) = w1 at *
  have cn := St.out.cn
  have cs := St.out.cs
  have hlS := St.out.r.lt
  go_upto_region 2 with (go_at_call 29; refine (gcheck_any l n _ _ St.out.he).mono ?_; rintro e w2 ⟨c, a, hR, rfl, hb2⟩; have hz2 := hb2.size; have hb3 := hb2.trans ((below1 w2 (Obj.cells #[.int .i64 c, .int .i64 a] 27)).mono hb2.size); have S2 := Lib.hid (St.out.below hb3); have HR := Lib.hid hR; have e01 := two_cells w2 (.int .i64 c) (.int .i64 a) 27; clear hR hb2)
  generalize w2.alloc (Obj.cells #[.int .i64 c, .int .i64 a] 27) = w3 at *
  obtain ⟨e0, e1⟩ := e01
  clear cn cs St
  have n1 : w.heap.size + 1 ≠ w2.heap.size := by omega
  generalize w2.heap.size = E at *
  by_cases hc : c = 0
  · subst hc
    obtain ⟨hg, rfl⟩ := HR.out.good
    obtain ⟨N, rfl⟩ := Int.eq_ofNat_of_zero_le hg.lo
    have hN : N ≤ 100 := by have := hg.hi; omega
    have Hg := Lib.hid hg
    have Hsym := Lib.hid (good_symC (l := l) (N := N))
    have Hirr := Lib.hid (good_irrC hg)
    clear hg
    have cn := S2.out.cn
    have cs := S2.out.cs
    go_upto_region 4 with fail
    clear e0 e1
    go_upto_region 5 with (go_at_call 30; refine (table_any l N _ _ S2.out.he hN (good_endsC Hg.out)).mono ?_; rintro e w5 ⟨tv, rfl, hgrid, hb5⟩; have S5 := Lib.hid (S2.out.below hb5); have Hgrid := Lib.hid (show HasGrid w5 tv N (adj l) from ⟨_, hgrid⟩); clear hgrid hb5)
    clear cn cs S2
    have cn := S5.out.cn
    have hmk := run_make_row' (P := Try.prog) 39 4 (.bool false) 1 Try.underlying39 info4 rfl .i64 .i64 N (by omega) (by omega)
    have hr6 := (World.rowIs_made w5 (.bool false) N 4).congr (g := rb fun v => decide (v ∈ ([] : List Nat))) fun _ _ => by simp [rb]
    have Hr6 := Lib.hid hr6
    have Hb6 := Lib.hid (below1 w5 (.cells (madeCells #[.bool false] N) 4))
    have hz6 : (w5.alloc (.cells (madeCells #[.bool false] N) 4)).heap.size = w5.heap.size + 1 := World.size_alloc _ _
    clear hr6
    go_upto_region 6 with fail
    clear hmk cn
    generalize w5.alloc (.cells (madeCells #[.bool false] N) 4) = w6 at *
    have hzS := S5.out.r.lt
    go_loopg [2] N (fun g s2 wr => ∃ L : List Nat, g + L.length = N ∧ PerfI N (adj l) L ∧ Below w5.heap.size w5 wr ∧ wr.rowIs w5.heap.size 4 N (rb fun v => decide (v ∈ L)) ∧ wr.ownsRow (w5.heap.size + 1) 3 1 s2 L.length (nvals L))
    case atStart => exact ⟨[], rfl, PerfI.nil, Hb6.out, Hr6.out, World.ownsRow_nil _ _ _ _⟩
    case round =>
      clear Hr6 Hb6
      obtain ⟨L, hgL, hL, hb, hrow, ho⟩ := hrel
      obtain ⟨aP, cP, rfl⟩ := ownsRow_form ho
      obtain ⟨k, hk⟩ : ∃ k, L.length = k := ⟨_, rfl⟩
      rw [hk] at ho hgL
      have Hl := Lib.hid hL; have Hb := Lib.hid hb; have Hrow := Lib.hid hrow; have Ho := Lib.hid ho
      have Sr := Lib.hid (S5.out.below hb)
      have HGr := Lib.hid (Hgrid.out.below hb)
      have hzr := hb.size
      have cn := Sr.out.cn
      clear hL hb hrow ho
      have Hk := Lib.hid hk
      rw [hk]
      clear hk
      obtain ⟨wo, rfl⟩ : ∃ wo : World, wo = wr := ⟨_, rfl⟩
      by_cases hlt : k < N
      · obtain ⟨X, hXe⟩ : ∃ X : Nat → Bool, X = fun v => decide (v ∈ L) := ⟨_, rfl⟩
        have HXe := Lib.hid hXe
        have HrX := Lib.hid (show wo.rowIs w5.heap.size 4 N (rb X) by rw [HXe.out]; exact Hrow.out)
        clear hXe
        go_upto_block 1 with fail
        go_upto_block 2 with fail
        go_cut [8, 9] from 28 to 43 (fun s8 s9 wx => ∃ z : Int, s8 = .int .i64 z ∧ OrdV N (adj l) X z ∧ wo = wx)
        case first =>
          go_wp2_with fail
          clear cn
          go_loopg [8, 28] N (fun g s8 s28 wr2 => ∃ j : Nat, j ≤ N ∧ g = N - j ∧ s8 = .int .i64 (-1) ∧ s28 = .int .i64 (j : Int) ∧ wo = wr2 ∧ ∀ q, q < j → X q = false → ¬ SimpAt N (adj l) X q)
          case atStart => exact ⟨0, Nat.zero_le _, rfl, rfl, rfl, rfl, fun q hq => absurd hq (Nat.not_lt_zero _)⟩
          case round =>
            obtain ⟨j, hj, rfl, rfl, rfl, rfl, hno⟩ := hrel
            have Hno := Lib.hid hno
            clear hno
            by_cases hjl : j < N
            · have cj := HrX.out.cell hjl
              simp only [rb] at cj
              cases hx : X j with
              | true =>
                rw [hx] at cj
                have Hx := Lib.hid hx
                clear hx
                go_wp2
                go_roundg (N - (j + 1))
                case measure => go_light; omega
                case rel => exact ⟨j + 1, by omega, rfl, rfl, by go_num, rfl, fun q hq hxq => by
                  by_cases e : q = j
                  · subst e; rw [Hx.out] at hxq; cases hxq
                  · exact Hno.out q (by omega) hxq⟩
              | false =>
                rw [hx] at cj
                have Hx := Lib.hid hx
                clear hx
                by_cases hs : SimpAt N (adj l) X j
                · have Hc2 := Lib.hid (simple_is true hs hN hjl Hsym.out HGr.out HrX.out)
                  have Hs := Lib.hid hs
                  clear hs
                  go_wp2_with (go_at_call 31; refine Hc2.out.mono ?_; rintro e w' ⟨rfl, hww⟩; rw [hww])
                  go_meet
                  exact ⟨(j : Int), rfl, .inr ⟨j, rfl, hjl, Hx.out, Hs.out⟩, rfl⟩
                · have Hc2 := Lib.hid (simple_is false hs hN hjl Hsym.out HGr.out HrX.out)
                  have Hs := Lib.hid hs
                  clear hs
                  go_wp2_with (go_at_call 31; refine Hc2.out.mono ?_; rintro e w' ⟨rfl, hww⟩; rw [hww])
                  go_roundg (N - (j + 1))
                  case measure => go_light; omega
                  case rel => exact ⟨j + 1, by omega, rfl, rfl, by go_num, rfl, fun q hq hxq => by
                    by_cases e : q = j
                    · subst e; exact Hs.out
                    · exact Hno.out q (by omega) hxq⟩
            · obtain rfl : j = N := by omega
              go_wp2
              go_meet
              exact ⟨-1, rfl, .inl ⟨rfl, Hno.out⟩, rfl⟩
        case rest =>
        obtain ⟨z, rfl, hv, rfl⟩ := hcut
        clear cn
        rcases hv with ⟨rfl, hno⟩ | ⟨v, rfl, hvN, hvX, hvS⟩
        · have Hno := Lib.hid hno
          clear hno
          obtain ⟨z0, z1, f0, f1, l0⟩ := row_facts Sr.out.r
          have Hcall := Lib.hid (fun n => rnh_any (wo.drewN n) hN Hsym.out Hirr.out (HGr.out.below (Below.drewN' (Below.refl _ _) n)) (HrX.out.of_block rfl))
          go_upto_region 15 with fail
          go_region_with (go_at_call 32; refine Calls.mono (Hcall.out _) ?_; rintro e w' ⟨rv, rfl, hbR, hcase⟩; have Hcase := Lib.hid hcase; have SR := Lib.hid (Sr.out.below (Below.trans (Below.drewN' (Below.refl _ _) _) hbR)); obtain ⟨y0, y1, k0, k1, m0⟩ := row_facts SR.out.r; clear hcase hbR)
          all_goals
            have Hp := Lib.hid (SR.out.put (.int .i64 0) (.int .i64 0))
            have HrR : ∃ m, HolR N (adj l) m ∧ w'.ownsRow wo.heap.size 3 1 rv m.length (nvals m) := by
              rcases Hcase.out with ⟨-, hh⟩ | ⟨m, h1, h2⟩
              · exfalso
                obtain ⟨q, hq, hqX⟩ := some_left (L := L) (N := N) (by rw [Hk.out]; exact hlt)
                obtain ⟨x, hx, hxX, hxs⟩ := dirac Hsym.out (cnt (fun u => !X u) N) X (Nat.le_refl _) hh ⟨q, hq, by rw [HXe.out]; exact hqX⟩
                exact Hno.out x hx hxX hxs
              · exact ⟨m, h2, h1⟩
            obtain ⟨m, hm, hom⟩ := HrR
            have hzo := Sr.out.r.lt
            have HoR := Lib.hid (ownsRow_low (b' := w.heap.size) ((hom.kept (grown_set w' (w.heap.size + 1) 0 (.int .i64 0)) (own_side hom hzo)).kept (grown_set _ (w.heap.size + 1) 1 (.int .i64 0)) (own_side hom hzo)) (by omega))
            have Hm := Lib.hid hm
            clear hom hm
            obtain ⟨p0, p1, p2⟩ := Hp.out
            go_wp2
            exact bodyPost_ret (v := .tuple #[.slice none 0 0, rv, .agg #[.int .i64 0, .int .i64 0]]) (by simp [results, Try.results9, go_sem, p0, p1]) rfl ⟨0, 0, _, _, HR.out, rfl, p2, .inr ⟨rfl, N, rfl, Hg.out, .inr ⟨m, Hm.out, rfl, HoR.out⟩⟩⟩
        · have hvL : v ∉ L := by
            rw [HXe.out] at hvX
            simpa using hvX
          have Hnx := Lib.hid (Hl.out.snoc hvN hvL (by rw [← HXe.out]; exact hvS))
          have hlen : (L ++ [v]).length = k + 1 := by rw [List.length_append, Hk.out]; rfl
          have cv := HrX.out.cell hvN
          have fv := HrX.out.frozen v
          have lv := HrX.out.lt
          simp only [rb] at cv
          rw [hvX] at cv
          have Hset := Lib.hid (show (wo.setCell ⟨w5.heap.size, v, none⟩ (.bool true)).rowIs w5.heap.size 4 N (rb fun u => decide (u ∈ L ++ [v])) from row_rb (row_set_rb Hrow.out v true) fun q _ => by
            by_cases e : q = v <;> simp [e])
          have hbs : Below w5.heap.size w5 (wo.setCell ⟨w5.heap.size, v, none⟩ (.bool true)) := Hb.out.setCell (p := ⟨w5.heap.size, v, none⟩) (Nat.le_refl _) _
          have hos := Ho.out.kept (grown_set wo w5.heap.size v (.bool true)) (own_side Ho.out (by omega))
          have hzs : (wo.setCell ⟨w5.heap.size, v, none⟩ (.bool true)).heap.size = wo.heap.size := size_setCell _ _ _
          have Hbs := Lib.hid hbs; have Hos := Lib.hid hos
          have hvS2 := Lib.hid hvS
          have Hlen := Lib.hid hlen
          have hz9 : w5.heap.size + 1 ≤ (wo.setCell ⟨w5.heap.size, v, none⟩ (.bool true)).heap.size := by omega
          clear hvX hvL hvS hbs hos hlen hzs
          go_upto_region 17 with fail
          clear cv fv
          generalize wo.setCell ⟨w5.heap.size, v, none⟩ (.bool true) = w8 at *
          have Hb9 := Lib.hid (below1 w8 (Obj.cells #[.int .i64 (v : Int)] 3))
          have Ho9 := Lib.hid (Hos.out.alloc (Obj.cells #[.int .i64 (v : Int)] 3))
          have Hr9 := Lib.hid (Hset.out.of_block (Hb9.out.block _ Hset.out.lt))
          have Hb10 := Lib.hid (Hbs.out.alloc Hbs.out.size (Obj.cells #[.int .i64 (v : Int)] 3))
          go_wp2_with (at_builtin; refine wpList_append_has rfl (.tmp 53) (.tmp 55) 29 rfl (w5.heap.size + 1) 3 (.int .i64 0) 8 Try.underlying29 info3 rfl (.slice aP k cP) k (nvals L) rfl Ho9.out _ 1 (nvals [v]) rfl (HasCells.one _ _ _ rfl) (by omega) (by omega) (by simp; omega) ?_; intro a8 c8 w10 ho8 hg8; have Hg8 := Lib.hid hg8; have Ho10 := Lib.hid ho8; clear ho8 hg8)
          go_roundg (N - (k + 1))
          case measure => go_light; omega
          case rel =>
            refine ⟨L ++ [v], by rw [Hlen.out]; omega, Hnx.out, Hb10.out.grown Hg8.out (by simp; omega) (fun g e => by have := (Ho9.out.lt g e).1; omega), ?_, ?_⟩
            · exact Hr9.out.of_block (Hg8.out.block _ Hr9.out.lt (fun e => by have := (Ho9.out.lt _ (by first | exact e | exact e.symm)).1; omega))
            · rw [Hlen.out]
              simpa [nvals, ints] using Ho10.out
      · obtain rfl : k = N := by omega
        obtain ⟨z0, z1, f0, f1, l0⟩ := row_facts Sr.out.r
        obtain ⟨p0, p1, p2⟩ := Sr.out.put (.int .i64 0) (.int .i64 0)
        have HoF := Lib.hid ((ownsRow_low (b' := w.heap.size) ((Ho.out.kept (grown_set wo (w.heap.size + 1) 0 (.int .i64 0)) (own_side Ho.out (by omega))).kept (grown_set _ (w.heap.size + 1) 1 (.int .i64 0)) (own_side Ho.out (by omega))) (by omega)))
        go_upto_region 18 with fail
        go_region
        all_goals
          go_wp2
          exact bodyPost_ret (v := .tuple #[.slice aP k cP, .slice none 0 0, .agg #[.int .i64 0, .int .i64 0]]) (by simp [results, Try.results9, go_sem, p0, p1]) rfl ⟨0, 0, _, _, HR.out, rfl, p2.drew, .inr ⟨rfl, k, rfl, Hg.out, .inl ⟨L, Hl.out, Hk.out, rfl, by rw [Hk.out]; exact HoF.out⟩⟩⟩
  · have q : (c != 0) = true := by simpa using hc
    obtain ⟨z0, z1, f0, f1, l0⟩ := row_facts S2.out.r
    obtain ⟨p0, p1, p2⟩ := S2.out.put (.int .i64 c) (.int .i64 a)
    have p3 : (w3.setCell ⟨w.heap.size + 1, 0, none⟩ (.int .i64 c)).cell? ⟨w.heap.size + 1, 0, none⟩ = some (.int .i64 c) := (S2.out.r.set 0 (.int .i64 c)).cell (show 0 < 2 by omega)
    have Hc := Lib.hid hc
    clear hc
    go_upto_region 3 with fail
    go_region
    all_goals
      go_wp2
      exact bodyPost_ret (v := .tuple #[.slice none 0 0, .slice none 0 0, .agg #[.int .i64 c, .int .i64 a]]) (by simp [results, Try.results9, go_sem, p0, p1, p3]) rfl ⟨c, a, _, _, HR.out, rfl, p2.drew, .inl ⟨Hc.out, rfl, rfl⟩⟩

end Go.Proofs.Ytnhhohhhpaejmaa
