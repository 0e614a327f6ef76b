/- assign.add: the walk: a row is added. -/
import Derived.Test.YtfccfmjamdpeaaaBase
import Derived.Test.YtfccfmjamdpeaaaAddMem
import Derived.Deep.DeepCutAuto
import Derived.Deep.LoopGhost
import Derived.Deep.Light
import Derived.BigRegion
import Derived.RegionTactic
namespace Go.Proofs.Ytfccfmjamdpeaaa
open Go.RowKit

/-- Entry (r, k) of a matrix, both counted from 1. -/
def ent (m : List (List Int)) (r k : Nat) : Int := (m.getD (r - 1) []).getD (k - 1) 0

/-- What add leaves. -/
def AddPost (n i : Nat) (c : Nat → Nat → Int) (u v r : Nat) (w : World) (e : Ending) (w' : World) : Prop :=
  ∃ U V R, e = .returned (.tuple #[]) ∧ Chg (fun k => k = u ∨ k = v ∨ k = r) w w' ∧ w'.rowIs u 3 (n + 1) (ri U) ∧ w'.rowIs v 3 (n + 1) (ri V) ∧ w'.rowIs r 3 (n + 1) (rn R) ∧ Pre n (i + 1) c U V R

set_option maxHeartbeats 1600000 in
set_option maxRecDepth 100000 in
theorem add_any (m : List (List Int)) (s : Value) (w00 w : World) (hm : IsRows w00 s m) (hbw : Below w00.heap.size w00 w) (n i : Nat) (hn : m.length = n) (hn1 : n ≤ 100) (hin : i ≤ n) (hrl : ∀ r, r < n → (m.getD r []).length = n) (hbd : Bnd n (ent m))
    (u v r : Nat) (hu0 : w00.heap.size ≤ u) (hv0 : w00.heap.size ≤ v) (hr0 : w00.heap.size ≤ r) (huv : u ≠ v) (hur : u ≠ r) (hvr : v ≠ r) (U V : Nat → Int) (R : Nat → Nat)
    (hu : w.rowIs u 3 (n + 1) (ri U)) (hv : w.rowIs v 3 (n + 1) (ri V)) (hr : w.rowIs r 3 (n + 1) (rn R)) (hp : Pre n i (ent m) U V R) :
    Calls Try.prog 84 #[s, .slice (some ⟨u, 0, none⟩) (n + 1) (n + 1), .slice (some ⟨v, 0, none⟩) (n + 1) (n + 1), .slice (some ⟨r, 0, none⟩) (n + 1) (n + 1), .int .i64 i] w (AddPost n i (ent m) u v r w) := by
  obtain ⟨a, cap, b, o, rfl, hcap, hmax, hadr, -, hcell⟩ := hm
  rw [hn]
  have Hn := Lib.hid hn; have Hrl := Lib.hid hrl; have Hbd := Lib.hid hbd; have Hp := Lib.hid hp
  have hi1 := hp.hi
  clear hn hrl hbd hp
  obtain rfl := hadr (by have := Hn.out; omega)
  clear hadr
  have hmk3 := run_make_row' (P := Try.prog) 51 3 (.int .i64 0) 8 Try.underlying51 info3 rfl .i64 .i64 (n + 1) (by omega) (by omega)
  have hmk4 := run_make_row' (P := Try.prog) 38 4 (.bool false) 1 Try.underlying38 info4 rfl .i64 .i64 (n + 1) (by omega) (by omega)
  have ec : ((n + 1 : Nat) : Int) = (n : Int) + 1 := by omega
  rw [ec] at hmk3 hmk4
  have lu := hu.lt
  have lv := hv.lt
  have lr := hr.lt
  have hz0 : w.frozen? ⟨r, 0, none⟩ = false := hr.frozen 0
  have hc0 : w.cell? ⟨r, 0, none⟩ = some (.int .i64 (R 0 : Int)) := hr.cell (by omega)
  clear ec
  go_enter Try.func84, Try.ntmps84
  go_wp2
  go_cut [11, 12] (fun s11 s12 wx => AddStart w n u v r U V (fun q => if q = 0 then i else R q) s11 s12 wx)
  case first =>
    go_region
    all_goals
      go_wp2
      go_meet
    case rel =>
      have hc1 : Chg (fun k => k = u ∨ k = v ∨ k = r) w (w.setCell ⟨r, 0, none⟩ (.int .i64 (i : Int))) := (Chg.refl _ _).setCell (fun _ => Or.inr (Or.inr rfl)) _
      have h := (AddStart.mk1 hc1 (hu.setOther hur _) (hv.setOther hvr _) (row_set_rn hr 0 i)).drew
      rw [size_setCell] at h
      exact h
    case rel =>
      have hc1 : Chg (fun k => k = u ∨ k = v ∨ k = r) w (w.setCell ⟨r, 0, none⟩ (.int .i64 (i : Int))) := (Chg.refl _ _).setCell (fun _ => Or.inr (Or.inr rfl)) _
      have h := (AddStart.mk2 hc1 (hu.setOther hur _) (hv.setOther hvr _) (row_set_rn hr 0 i)).drew
      rw [size_setCell] at h
      exact h
  case rest =>
    clear hmk3 hz0 hc0 hu hv hr
    obtain ⟨bb, bf, rfl, rfl, hbf, hb0, hf0, hchg, hu, hv, hr, hb, hf⟩ := hcut
    obtain ⟨d, h6⟩ := H6.begin hchg hb0 hf0 hbf huv hur hvr lu lv lr hu hv hr hb hf
    have hp1 : Pre n i (ent m) U V (fun q => if q = 0 then i else R q) := Hp.out.congr fun k a _ => by rw [if_neg (by omega)]
    have hR0 : (fun q => if q = 0 then i else R q) 0 = i := by simp
    generalize (fun q => if q = 0 then i else R q) = R1 at *
    have HR0 := Lib.hid hR0; have Hp1 := Lib.hid hp1; have H6a := Lib.hid h6
    clear hp1 hR0 h6 hb hf hu hv hr hchg Hp
    go_wp2
    clear hmk4
    generalize wc.heap.size = bs at *
    generalize wc.alloc (Obj.cells (madeCells #[Value.bool false] (n + 1)) 4) = w1 at *
    go_loopg [37] (n + 1) (fun g s37 wr => ∃ k : Nat, k ≤ n + 1 ∧ g = n + 1 - k ∧ s37 = .int .i64 k ∧ H6 w wr (n + 1) u v r bb bf bs U V (fun q => if q < k then far else 0) R1 (fun _ => 0) (fun _ => false))
    case atStart => exact ⟨0, Nat.zero_le _, rfl, rfl, by simpa using H6a.out⟩
    case round =>
      obtain ⟨k, hk, rfl, rfl, h6⟩ := hrel
      by_cases hlt : k < n + 1
      · have c1 := h6.cb hlt
        have c2 := h6.zb k
        rw [if_neg (by omega)] at c1
        have H6b := Lib.hid h6; clear h6
        go_wp2
        go_roundg (n + 1 - (k + 1))
        case measure => go_light; omega
        case rel => exact ⟨k + 1, by omega, rfl, by go_num, (H6b.out.setB d k _).congr (fun _ _ => rfl) (fun _ _ => rfl) (fun q _ => by
            by_cases e : q = k
            · subst e; rw [if_pos rfl, if_pos (by omega)]; rfl
            · rw [if_neg e]; by_cases e2 : q < k
              · rw [if_pos e2, if_pos (by omega)]
              · rw [if_neg e2, if_neg (by omega)]) (fun _ _ => rfl) (fun _ _ => rfl) (fun _ _ => rfl)⟩
      · have h6 := h6.congr (B' := fun _ => far) (fun _ _ => rfl) (fun _ _ => rfl) (fun q hq => by rw [if_pos (by omega)]) (fun _ _ => rfl) (fun _ _ => rfl) (fun _ _ => rfl)
        have H6b := Lib.hid h6; clear h6 H6a
        go_wp2
        go_loopg [15] (cntF (fun _ => false) (n + 1)) (fun g s15 wr => ∃ (U1 V1 B : Nat → Int) (F t : Nat → Nat) (s : Nat) (us : Nat → Bool) (j : Nat), s15 = .int .i64 j ∧ g = cntF us (n + 1) ∧ H6 w wr (n + 1) u v r bb bf bs U1 V1 B R1 F us ∧ Mid n i (ent m) U V R1 U1 V1 B F t s us j)
        case atStart => exact ⟨U, V, fun _ => far, fun _ => 0, fun _ => 0, 0, fun _ => false, 0, rfl, rfl, H6b.out, Mid.start Hp1.out hin (fun _ _ => Nat.zero_le _)⟩
        case round =>
          obtain ⟨U1, V1, B, F, t, s, us, j, rfl, hg, h6, hmid⟩ := hrel
          have Hg := Lib.hid hg; have Hmid := Lib.hid hmid
          have hjn := hmid.jn
          have cr := h6.cr (k := j) (by omega)
          by_cases hRj : R1 j = 0
          · have cr' : wr.cell? ⟨r, j, none⟩ = some (.int .i64 0) := by rw [cr, hRj]; rfl
            have hj0 : j ≠ 0 := fun e => by rw [e, HR0.out] at hRj; omega
            have H6c := Lib.hid h6; have HRj := Lib.hid hRj; have Hj0 := Lib.hid hj0
            clear hg h6 hmid hRj cr hj0
            go_wp2
            clear cr'
            go_loopg [15] s (fun g s15 wi => ∃ (Rc : Nat → Nat) (q : Nat), s15 = .int .i64 q ∧ g = (if us q then t q else s) ∧ (us q = true ∨ q = j) ∧ H6 w wi (n + 1) u v r bb bf bs U1 V1 B Rc F us ∧ Hole n i (ent m) U1 V1 R1 F t us Rc q)
            case atStart => exact ⟨R1, j, rfl, by rw [Hmid.out.uj]; rfl, Or.inr rfl, H6c.out, Hole.start Hp1.out HR0.out Hmid.out HRj.out⟩
            case round =>
              obtain ⟨Rc, q, rfl, hg, hq, h6, hh⟩ := hrel
              have hqn := hh.jn
              by_cases hq0 : q = 0
              · subst hq0
                have H6d := Lib.hid h6; have Hh := Lib.hid hh
                clear hg hq h6 hh
                go_wp2
                go_end0
                exact ⟨U1, V1, Rc, rfl, H6d.out.chg, H6d.out.hu, H6d.out.hv, H6d.out.hr, Hh.out.done Hp1.out hin Hbd.out HR0.out Hmid.out Hj0.out⟩
              · obtain ⟨st1, st2, st3, st4, st5⟩ := Hole.step Hp1.out HR0.out Hmid.out hh hq0 hq
                have cf := h6.cf (k := q) (by omega)
                have cr1 := h6.cr (k := F q) (by omega)
                have cr2 := h6.cr (k := q) (by omega)
                have zr := h6.zr q
                have fin := h6.setR d q (Rc (F q))
                have Fin := Lib.hid fin; have Hst := Lib.hid st1; have Hst2 := Lib.hid st2; have Hst4 := Lib.hid st4; have Hst5 := Lib.hid st5; have Hg2 := Lib.hid hg; have Hq := Lib.hid hq
                have cf2 : ∀ x, (wr.setCell ⟨r, q, none⟩ x).cell? ⟨bf, q, none⟩ = some (.int .i64 (F q : Int)) := fun x => by
                  rw [World.cell?_setCell_other _ _ _ _ (fun e => by have := congrArg Addr.block e; exact d.rf this)]; exact cf
                clear st1 st2 st4 st5 hg hq h6 hh fin
                generalize hfq : F q = fq at *
                generalize hrf : Rc fq = rf at *
                clear hrf
                have Hfq := Lib.hid hfq; clear hfq
                go_wp2
                go_roundg (t fq)
                case measure =>
                  have h1 := Hg2.out; have h4 := Hst4.out; have h5 := Hst5.out
                  cases hx : us q with
                  | true => rw [hx] at h1; have := h4 hx; simp only [if_true] at h1; omega
                  | false => rw [hx] at h1; simp only [Bool.false_eq_true, if_false] at h1; omega
                case rel => exact ⟨_, fq, rfl, by rw [Hst2.out]; rfl, Or.inl Hst2.out, Fin.out, Hst.out⟩
          · obtain ⟨rj, hrj⟩ : ∃ rj, R1 j = rj + 1 := ⟨R1 j - 1, by omega⟩
            obtain ⟨hr1, hr2⟩ := Mid.row Hp1.out hin HR0.out j hjn hRj
            rw [hrj] at hr1 hr2
            have cr' : wr.cell? ⟨r, j, none⟩ = some (.int .i64 ((rj : Int) + 1)) := by rw [cr, hrj]; rfl
            clear cr
            have cs := h6.cs (k := j) (by omega)
            have zs := h6.zs j
            rw [hmid.uj] at cs
            have H6c := Lib.hid h6; have HRj := Lib.hid hRj; have Hrj := Lib.hid hrj
            clear hg h6 hmid hRj hrj
            go_wp2
            have h6 := H6c.out.setS d j true
            have hl0 : Least (ent m) R1 U1 V1 B us j 1 far 0 := Or.inl ⟨rfl, rfl, fun q a b => by omega⟩
            clear cs zs
            go_loopg [16, 17, 18] n (fun g s16 s17 s18 wi => ∃ (k nx : Nat) (dd : Int), k ≤ n ∧ g = n - k ∧ s18 = .int .i64 ((k : Int) + 1) ∧ s16 = .int .i64 dd ∧ s17 = .int .i64 nx ∧ Least (ent m) R1 U1 V1 B us j (k + 1) dd nx ∧
              H6 w wi (n + 1) u v r bb bf bs U1 V1 (upto (k + 1) (best1 (ent m) R1 U1 V1 B us j) B) R1 (upto (k + 1) (from1 (ent m) R1 U1 V1 B F us j) F) (use us j))
            case atStart =>
              refine ⟨0, 0, far, Nat.zero_le _, rfl, rfl, rfl, rfl, hl0, h6.congr (fun _ _ => rfl) (fun _ _ => rfl) (fun q _ => ?_) (fun _ _ => rfl) (fun q _ => ?_) (fun _ _ => rfl)⟩
              · by_cases e : q = 0
                · subst e; unfold upto best1; rw [Hmid.out.use0]; rfl
                · rw [upto_ge (by omega)]
              · by_cases e : q = 0
                · subst e; unfold upto from1; rw [Hmid.out.use0]; rfl
                · rw [upto_ge (by omega)]
            case round =>
              obtain ⟨k, nx, dd, hk, rfl, rfl, rfl, rfl, hl, h6⟩ := hrel
              clear hl0
              by_cases hlt : k < n
              · have cs := h6.cs (k := k + 1) (by omega)
                cases hus : use us j (k + 1) with
                | true =>
                  rw [hus] at cs
                  have H6d := Lib.hid h6; have Hl := Lib.hid hl; have Hus := Lib.hid hus
                  clear h6 hl hus
                  go_wp2
                  go_roundg (n - (k + 1))
                  case measure => go_light; omega
                  case rel =>
                    exact ⟨k + 1, nx, dd, by omega, rfl, by go_num, rfl, rfl, Hl.out.skip Hus.out, H6d.out.congr (fun _ _ => rfl) (fun _ _ => rfl) (fun q _ => upto_same (by unfold best1; rw [Hus.out]; rfl)) (fun _ _ => rfl) (fun q _ => upto_same (by unfold from1; rw [Hus.out]; rfl)) (fun _ _ => rfl)⟩
                | false =>
                  rw [hus] at cs
                  have hbwi := hbw.trans (h6.below hbw.size hu0 hv0 hr0)
                  obtain ⟨x, Hx, ra, rcap, hc, hr⟩ := rows_at hcell hbwi (show rj < m.length by have := Hn.out; omega)
                  have hxl : x.length = n := by rw [← Hx.out]; exact Hrl.out rj (by omega)
                  obtain ⟨ra', rcap', rb, ro, he, hrc, hrm, hra, -, hrcell⟩ := id hr
                  simp only [Value.slice.injEq, true_and] at he
                  obtain ⟨rfl, rfl⟩ := he
                  obtain rfl := hra (by omega)
                  obtain ⟨z, Hz, hcz⟩ := ints_at hrcell (Below.refl _ _) (show k < x.length by omega)
                  have hez : ent m (rj + 1) (k + 1) = z := by unfold ent; rw [show rj + 1 - 1 = rj from rfl, show k + 1 - 1 = k from rfl, Hx.out]; exact Hz.out
                  obtain ⟨bd1, bd2, -⟩ := Hmid.out.bounds Hp1.out hin hn1 Hbd.out HR0.out
                  have bz := Hbd.out (rj + 1) (k + 1) (by omega) (by omega) (by omega) (by omega)
                  have bu := bd1 (rj + 1) (by omega) hr2
                  have bv := bd2 (k + 1) (by omega) (by omega)
                  have bcur := Hmid.out.cur_bd Hp1.out hin hn1 Hbd.out HR0.out HRj.out (k := k + 1) (by omega) (by omega)
                  have bbest := Hmid.out.best_bd Hp1.out hin hn1 Hbd.out HR0.out HRj.out (k := k + 1) (by omega) (by omega) hus
                  have hcur : cur (ent m) R1 U1 V1 j (k + 1) = z - U1 (rj + 1) - V1 (k + 1) := by unfold cur; rw [Hrj.out, hez]
                  have cu := h6.cu (k := rj + 1) (by omega)
                  have cv := h6.cv (k := k + 1) (by omega)
                  have cb := h6.cb (k := k + 1) (by omega)
                  have cf := h6.cf (k := k + 1) (by omega)
                  have zb := h6.zb (k + 1)
                  have crj := h6.cr (k := j) (by omega)
                  rw [Hrj.out] at crj
                  have crj' : wr.cell? ⟨r, j, none⟩ = some (.int .i64 ((rj : Int) + 1)) := crj
                  have ij : (j : Int) < (n : Int) + 1 := by omega
                  have ik : (k : Int) + 1 < (n : Int) + 1 := by omega
                  have irj : (rj : Int) + 1 < (n : Int) + 1 := by omega
                  clear crj
                  have zf := h6.zf (k + 1)
                  rw [upto_ge (Nat.le_refl _)] at cb cf
                  have hb1 : best1 (ent m) R1 U1 V1 B us j (k + 1) = if z - U1 (rj + 1) - V1 (k + 1) < B (k + 1) then z - U1 (rj + 1) - V1 (k + 1) else B (k + 1) := by unfold best1; rw [hus, hcur]; rfl
                  have hf1 : from1 (ent m) R1 U1 V1 B F us j (k + 1) = if z - U1 (rj + 1) - V1 (k + 1) < B (k + 1) then j else F (k + 1) := by unfold from1; rw [hus, hcur]; rfl
                  have hls := hl.step (by omega) hus (by unfold far; omega)
                  rw [hez] at bz
                  rw [hcur] at bcur
                  generalize U1 (rj + 1) = uu at *
                  generalize V1 (k + 1) = vv at *
                  generalize hbve : B (k + 1) = bv at *
                  generalize hfve : F (k + 1) = fv at *
                  have Hbv := Lib.hid hbve; have Hfv := Lib.hid hfve
                  clear hbve hfve
                  by_cases h1 : z - uu - vv < bv
                  · rw [if_pos h1] at hb1 hf1
                    rw [hb1] at hls bbest
                    have Hb1 := Lib.hid hb1; have Hf1 := Lib.hid hf1; have H6d := Lib.hid h6; have Hus := Lib.hid hus
                    have fin : ∀ q : Nat, H6 w (((wr.drewN q).setCell ⟨bb, k + 1, none⟩ (.int .i64 (z - uu - vv))).setCell ⟨bf, k + 1, none⟩ (.int .i64 (j : Int))) (n + 1) u v r bb bf bs U1 V1 (upto (k + 1 + 1) (best1 (ent m) R1 U1 V1 B us j) B) R1 (upto (k + 1 + 1) (from1 (ent m) R1 U1 V1 B F us j) F) (use us j) := fun q =>
                      (((H6d.out.drewN q).setB d (k + 1) _).setF d (k + 1) j).congr (fun _ _ => rfl) (fun _ _ => rfl) (fun q _ => by have e := upto_step (k := k + 1) (q := q) (f := best1 (ent m) R1 U1 V1 B us j) (g := B); rw [Hb1.out] at e; exact e) (fun _ _ => rfl) (fun q _ => by have e := upto_step (k := k + 1) (q := q) (f := from1 (ent m) R1 U1 V1 B F us j) (g := F); rw [Hf1.out] at e; exact e) (fun _ _ => rfl)
                    have Fin := Lib.hid fin
                    by_cases h2 : z - uu - vv < dd
                    · rw [if_pos h2, if_pos h2] at hls
                      have Hls := Lib.hid hls
                      clear hb1 hf1 h6 hus fin hls hl hrcell hrm hrc hra hbwi Hx Hz hez hcur
                      go_wp2
                      go_quiet (fail)
                      go_wp2
                      go_roundg (n - (k + 1))
                      case measure => go_light; omega
                      case rel =>
                        exact ⟨k + 1, k + 1, z - uu - vv, by omega, rfl, by go_num, rfl, rfl, Hls.out, Fin.out _⟩
                    · rw [if_neg h2, if_neg h2] at hls
                      have Hls := Lib.hid hls
                      clear hb1 hf1 h6 hus fin hls hl hrcell hrm hrc hra hbwi Hx Hz hez hcur
                      go_wp2
                      go_quiet (fail)
                      go_wp2
                      go_roundg (n - (k + 1))
                      case measure => go_light; omega
                      case rel =>
                        exact ⟨k + 1, nx, dd, by omega, rfl, by go_num, rfl, rfl, Hls.out, Fin.out _⟩
                  · rw [if_neg h1] at hb1 hf1
                    rw [hb1] at hls bbest
                    have Hb1 := Lib.hid hb1; have Hf1 := Lib.hid hf1; have H6d := Lib.hid h6; have Hus := Lib.hid hus
                    have fin : ∀ q : Nat, H6 w (wr.drewN q) (n + 1) u v r bb bf bs U1 V1 (upto (k + 1 + 1) (best1 (ent m) R1 U1 V1 B us j) B) R1 (upto (k + 1 + 1) (from1 (ent m) R1 U1 V1 B F us j) F) (use us j) := fun q =>
                      (H6d.out.drewN q).congr (fun _ _ => rfl) (fun _ _ => rfl) (fun q _ => upto_same (by rw [Hb1.out]; exact Hbv.out.symm)) (fun _ _ => rfl) (fun q _ => upto_same (by rw [Hf1.out]; exact Hfv.out.symm)) (fun _ _ => rfl)
                    have Fin := Lib.hid fin
                    by_cases h2 : bv < dd
                    · rw [if_pos h2, if_pos h2] at hls
                      have Hls := Lib.hid hls
                      clear hb1 hf1 h6 hus fin hls hl hrcell hrm hrc hra hbwi Hx Hz hez hcur
                      go_wp2
                      go_quiet (fail)
                      go_wp2
                      go_roundg (n - (k + 1))
                      case measure => go_light; omega
                      case rel =>
                        exact ⟨k + 1, k + 1, bv, by omega, rfl, by go_num, rfl, rfl, Hls.out, Fin.out _⟩
                    · rw [if_neg h2, if_neg h2] at hls
                      have Hls := Lib.hid hls
                      clear hb1 hf1 h6 hus fin hls hl hrcell hrm hrc hra hbwi Hx Hz hez hcur
                      go_wp2
                      go_quiet (fail)
                      go_wp2
                      go_roundg (n - (k + 1))
                      case measure => go_light; omega
                      case rel =>
                        exact ⟨k + 1, nx, dd, by omega, rfl, by go_num, rfl, rfl, Hls.out, Fin.out _⟩
              · obtain rfl : k = n := by omega
                obtain ⟨bl1, bl2, hx1, hx2⟩ := Hmid.out.least_bd Hp1.out hin hn1 Hbd.out HR0.out HRj.out hl
                have h6 := h6.congr (B' := best1 (ent m) R1 U1 V1 B us j) (F' := from1 (ent m) R1 U1 V1 B F us j) (fun _ _ => rfl) (fun _ _ => rfl) (fun q hq => upto_lt hq) (fun _ _ => rfl) (fun q hq => upto_lt hq) (fun _ _ => rfl)
                have H6d := Lib.hid h6; have Hl := Lib.hid hl
                clear h6 hl cr'
                go_wp2
                go_loopg [20] (k + 1) (fun g s20 wi => ∃ (q : Nat) (U2 V2 B2 : Nat → Int), q ≤ k + 1 ∧ g = k + 1 - q ∧ s20 = .int .i64 q ∧
                  H6 w wi (k + 1) u v r bb bf bs U2 V2 B2 R1 (from1 (ent m) R1 U1 V1 B F us j) (use us j) ∧ Moved k R1 U1 V1 (best1 (ent m) R1 U1 V1 B us j) (use us j) dd q U2 V2 B2)
                case atStart => exact ⟨0, U1, V1, _, Nat.zero_le _, rfl, rfl, H6d.out, Moved.start _ _ _ _ _ _ _⟩
                case round =>
                  obtain ⟨q, U2, V2, B2, hq, rfl, rfl, h6, hmv⟩ := hrel
                  by_cases hlt : q < k + 1
                  · have cs := h6.cs hlt
                    cases hus : use us j q with
                    | true =>
                      rw [hus] at cs
                      have hRq : R1 q ≠ 0 := by
                        rcases use_or hus with e | e
                        · rw [e]; exact HRj.out
                        · exact Hmid.out.uR q (by omega) e
                      obtain ⟨g1, g2⟩ := Mid.row Hp1.out hin HR0.out q (by omega) hRq
                      obtain ⟨m1, m2, m3⟩ := hmv.used hus (fun p hp1 hp2 e => by
                        have hRp : R1 p ≠ 0 := by rw [e]; exact hRq
                        have := Hp1.out.inj0 HR0.out (show p ≤ k by omega) (show q ≤ k by omega) e hRp
                        omega)
                      have cr := h6.cr hlt
                      have cu := h6.cu (k := R1 q) (by omega)
                      have cv := h6.cv hlt
                      have zu := h6.zu (R1 q)
                      have zv := h6.zv q
                      rw [m1] at cu
                      rw [m2] at cv
                      obtain ⟨bd1, bd2, bd3⟩ := Hmid.out.bounds Hp1.out hin hn1 Hbd.out HR0.out
                      have bu := bd1 (R1 q) g1 g2
                      have bv : -300000000 ≤ V1 q ∧ V1 q ≤ 300000000 := by
                        by_cases e : q = 0
                        · subst e; exact bd3
                        · have := bd2 q (by omega) (by omega); omega
                      have fin := ((h6.setU d (R1 q) (U1 (R1 q) + dd)).setV d q (V1 q - dd))
                      have Fin := Lib.hid fin; have Hm3 := Lib.hid m3
                      clear fin m1 m2 m3 hmv h6 hus bd1 bd2 bd3
                      generalize hrq : R1 q = rq at *
                      have Hrq := Lib.hid hrq; clear hrq
                      go_wp2
                      go_roundg (k + 1 - (q + 1))
                      case measure => go_light; omega
                      case rel => exact ⟨q + 1, _, _, B2, by omega, rfl, by go_num, Fin.out, Hm3.out⟩
                    | false =>
                      rw [hus] at cs
                      obtain ⟨m1, m2⟩ := hmv.unused hus
                      have q0 : 1 ≤ q := by
                        by_cases e : q = 0
                        · subst e; rw [Hmid.out.use0] at hus; cases hus
                        · omega
                      have cb := h6.cb hlt
                      have zb := h6.zb q
                      rw [m1] at cb
                      have bb1 := Hmid.out.best_bd Hp1.out hin hn1 Hbd.out HR0.out HRj.out q0 (by omega) hus
                      have fin := h6.setB d q (best1 (ent m) R1 U1 V1 B us j q - dd)
                      have Fin := Lib.hid fin; have Hm2 := Lib.hid m2
                      clear fin m1 m2 hmv h6 hus
                      generalize best1 (ent m) R1 U1 V1 B us j q = bq at *
                      go_wp2
                      go_roundg (k + 1 - (q + 1))
                      case measure => go_light; omega
                      case rel => exact ⟨q + 1, U2, V2, _, by omega, rfl, by go_num, Fin.out, Hm2.out⟩
                  · obtain rfl : q = k + 1 := by omega
                    have Hmv := Lib.hid hmv; have H6e := Lib.hid h6
                    clear hmv h6
                    go_wp2
                    go_roundg (cntF (use us j) (k + 1))
                    case measure =>
                      have := cntF_use Hmid.out.uj (show j < k + 1 by omega)
                      have := Hg.out
                      omega
                    case rel => exact ⟨U2, V2, B2, _, _, s + 1, use us j, nx, rfl, rfl, H6e.out, Hmid.out.step Hp1.out hin hn1 Hbd.out HR0.out HRj.out Hl.out Hmv.out⟩

end Go.Proofs.Ytfccfmjamdpeaaa
