/- chords.shortest: a shortest way by a search in breadth, and the way out of it. -/
import Derived.Test.YtnhhohhhpaejmaaSimW
import Derived.Test.YtnhhohhhpaejmaaPG
import Derived.Shelf.Abstract
import Derived.Deep.Draws
namespace Go.Proofs.Ytnhhohhhpaejmaa
open Go Go.RowKit

/-- The search under way, with the ways back. -/
structure ShoI (N : Nat) (G : Nat → Nat → Bool) (S : Nat → Bool) (b : Nat) (F P : Nat → Int) (Q : List Nat) : Prop where
  wf : WfI N (openG G S) b F Q
  pa : PaI N (openG G S) b F P
section
variable {N : Nat} {G : Nat → Nat → Bool} {S : Nat → Bool} {b : Nat} {F P : Nat → Int}
theorem ShoI.start (hb : b < N) : ShoI N G S b (fun v => if v = b then 0 else -1) (fun v => if v = b then (b : Int) else -1) [b] := ⟨WfI.start hb, PaI.start hb⟩
theorem ShoI.push {x y : Nat} {R : List Nat} (h : ShoI N G S b F P (x :: R)) (hb : b < N) (hy : y < N) (h0 : P y < 0) (hg : openG G S x y = true) :
    ShoI N G S b (fun q => if q = y then F x + 1 else F q) (fun q => if q = y then (x : Int) else P q) (x :: (R ++ [y])) := by
  have hx := h.wf.qs x (by simp)
  have hF := (h.pa.seen hy).1 h0
  exact ⟨h.wf.push hy hF hg, h.pa.push hx.1 hy hb h.wf.at' hF hx.2 hg⟩
theorem ShoI.pop {x : Nat} {R : List Nat} (h : ShoI N G S b F P (x :: R)) (hall : ∀ v, v < N → openG G S x v = true → 0 ≤ F v) : ShoI N G S b F P R := ⟨h.wf.pop hall, h.pa⟩
theorem ShoI.done (hb : b < N) (h : ShoI N G S b F P []) : ShoOk N G S b F P := ⟨hb, h.wf.done, h.pa⟩
theorem ShoI.seen {Q : List Nat} (h : ShoI N G S b F P Q) {v : Nat} (hv : v < N) (h0 : ¬ P v < 0) : 0 ≤ F v := by
  have := h.pa.seen hv
  omega
end
/-- What chords.shortest answers. -/
def ShoPost (N : Nat) (G : Nat → Nat → Bool) (S : Nat → Bool) (a b : Nat) (w : World) (e : Ending) (w' : World) : Prop :=
  ∃ F P v, e = .returned v ∧ ShoOk N G S b F P ∧ Below w.heap.size w w' ∧ ((F a < 0 ∧ v = .slice none 0 0) ∨ (0 ≤ F a ∧ w'.ownsRow w.heap.size 3 1 v ((F a).toNat + 1) (nvals (wayN P a ((F a).toNat + 1)))))

set_option maxHeartbeats 6400000 in
set_option maxRecDepth 100000 in
theorem shortest_any {N a b g : Nat} {G : Nat → Nat → Bool} {S : Nat → Bool} {gv : Value} (op : Nat → Bool) (lb : Array Value) (w : World) (hN : N ≤ 100) (ha : a < N) (hb : b < N) (hg : HasGrid w gv N G) (hS : ∀ u, S u = (decide (u ≠ a) && !op u))
    (eg : ∀ args w, (callFunc g args).run Try.prog w = .ok (.enter g args) w)
    (hp : ∀ u w', u < N → Below w.heap.size w w' → Calls Try.prog g (#[.int .i64 (u : Int)] ++ lb) w' fun e w'' => e = .returned (.bool (op u)) ∧ w'' = w') :
    Calls Try.prog 54 #[gv, .int .i64 (a : Int), .int .i64 (b : Int), .func (.func g) #[] lb] w (ShoPost N G S a b w) := by
  obtain ⟨Bg, ga, gc, gb, go', R, rfl, hgc, hga, hgrid⟩ := hg
  obtain rfl := (hga (by omega)).1
  have Hgr := Lib.hid hgrid; have HS := Lib.hid hS; have Hp := Lib.hid hp
  have hmk := run_make_row' (P := Try.prog) 29 3 (.int .i64 0) 8 Try.underlying29 info3 rfl .i64 .i64 N (by omega) (by omega)
  have hr1 := (World.rowIs_made w (.int .i64 0) N 3).congr (g := ri fun _ => 0) fun _ _ => rfl
  have R1 := Lib.hid (RiSt.mk (below1 w (.cells (madeCells #[.int .i64 0] N) 3)) (Nat.le_refl _) hr1)
  have hz1 : (w.alloc (.cells (madeCells #[.int .i64 0] N) 3)).heap.size = w.heap.size + 1 := World.size_alloc _ _
  clear hgrid hga hS hp hr1
  go_enter Try.func54, Try.ntmps54
  go_upto_region 2 with fail
  clear hmk
  generalize w.alloc (.cells (madeCells #[.int .i64 0] N) 3) = w1 at *
  go_wp2
  go_loopg [19] N (fun g s19 wr => ∃ i : Nat, i ≤ N ∧ g = N - i ∧ s19 = .int .i64 (i : Int) ∧ RiSt w wr w.heap.size N (fun v => if v < i then -1 else 0) ∧ wr.heap.size = w.heap.size + 1)
  case atStart => exact ⟨0, Nat.zero_le _, rfl, rfl, R1.out.congr fun q _ => by simp, hz1⟩
  case round =>
    obtain ⟨i, hi, rfl, rfl, hst, hz⟩ := hrel
    by_cases hlt : i < N
    · have ci := hst.row.cell hlt
      have fi := hst.row.frozen i
      have li := hst.row.lt
      simp only [ri] at ci
      have Hst := Lib.hid ((hst.set i (-1)).congr (F' := fun v => if v < i + 1 then -1 else 0) fun q _ => by
        by_cases e : q = i
        · subst e; simp
        · rw [if_neg e]
          by_cases e2 : q < i
          · simp [e2, show q < i + 1 by omega]
          · simp [e2, show ¬ q < i + 1 by omega])
      have hz2 : (wr.setCell ⟨w.heap.size, i, none⟩ (.int .i64 (-1))).heap.size = w.heap.size + 1 := by rw [size_setCell, hz]
      have Hz2 := Lib.hid hz2
      clear hst hz2
      go_wp2
      go_roundg (N - (i + 1))
      case measure => go_light; omega
      case rel => exact ⟨i + 1, by omega, rfl, by go_num, Hst.out, Hz2.out⟩
    · obtain rfl : i = N := by omega
      have t0 := hst.row.cell hb
      have f0 := hst.row.frozen b
      have l0 := hst.row.lt
      simp only [ri] at t0
      have R2 := Lib.hid ((hst.set b (b : Int)).congr (F' := fun v => if v = b then (b : Int) else -1) fun q hq => by
        by_cases e : q = b <;> simp [e, hq])
      have hz4 : (wr.setCell ⟨w.heap.size, b, none⟩ (.int .i64 (b : Int))).heap.size = w.heap.size + 1 := by rw [size_setCell, hz]
      clear hst
      go_upto_region 8 with fail
      clear t0 f0 l0 hz R1
      generalize wr.setCell ⟨w.heap.size, b, none⟩ (.int .i64 (b : Int)) = w4 at *
      have R3 := Lib.hid (R2.out.below (below1 w4 (.cells #[.int .i64 (b : Int)] 3)))
      have hq4 := QIs.one w4 (w.heap.size + 1) b (by omega)
      rw [hz4] at hq4
      have Hq4 := Lib.hid hq4
      clear hq4 R2
      go_wp2
      generalize w4.alloc (.cells #[.int .i64 (b : Int)] 3) = w5 at *
      clear hz4
      generalize Value.slice (some ⟨w.heap.size + 1, 0, none⟩) 1 1 = vq at *
      go_loopg [11] i (fun g s11 wr => ∃ (F P : Nat → Int) (Q : List Nat), g + cnt (seenF F) i = i + Q.length ∧ ShoI i G S b F P Q ∧ RiSt w wr w.heap.size i P ∧ QIs wr (w.heap.size + 1) s11 Q)
      case atStart =>
        refine ⟨_, _, [b], ?_, ShoI.start hb, R3.out, Hq4.out⟩
        have h0 : ∀ n, cnt (fun _ => false) n = 0 := fun n => by
          induction n with
          | zero => rfl
          | succ n ih => rw [cnt, ih]; simp
        have h1 := cnt_seen (I := fun _ => false) hb rfl
        rw [h0] at h1
        have e : (seenF fun v => if v = b then (0 : Int) else -1) = fun q => if q = b then true else (fun _ => false) q := by
          funext q; unfold seenF; by_cases e : q = b <;> simp [e]
        rw [e, h1]; rfl
      case round =>
        obtain ⟨F, P, Q, hg, hbf, hst, hq⟩ := hrel
        have Hg1 := Lib.hid hg; have Hbf := Lib.hid hbf; have Hst := Lib.hid hst
        obtain ⟨bq, off, cap, K, f, rfl, hq⟩ := hq
        have Hq := Lib.hid hq
        clear hg hbf
        rcases Q with _ | ⟨x, R'⟩
        · have ca := hst.row.cell ha
          have Hok := Lib.hid (Hbf.out.done hb)
          have hFa := Hok.out.pa.rng a ha
          simp only [ri] at ca
          clear hq Hq Hq4 R3 Hbf
          obtain ⟨w6, rfl⟩ : ∃ w6 : World, w6 = wr := ⟨_, rfl⟩
          by_cases hneg : F a < 0
          · have hpa : P a = -1 := by rcases hFa with h | h <;> omega
            rw [hpa] at ca
            clear hst hpa hFa
            go_wp2
            go_ret
            exact ⟨F, P, _, rfl, Hok.out, Hst.out.hb, .inl ⟨hneg, rfl⟩⟩
          · have hnp : ¬ P a < 0 := by rcases hFa with h | h <;> omega
            have hFN := Hok.out.far.rng a ha
            have hanc := Hok.out.anc ha (by omega)
            have hlast := fun k hk => Hok.out.last ha (by omega) (i := k) hk
            have Hpos := Lib.hid (show 0 ≤ F a by omega)
            obtain ⟨k, hk⟩ : ∃ k : Nat, F a = (k : Int) := ⟨(F a).toNat, by omega⟩
            have Hk := Lib.hid hk
            have Hanc := Lib.hid hanc; have Hlast := Lib.hid hlast
            have hz6 := hst.hb.size
            have hk100 : k < 100 := by omega
            have hl6 := hst.row.lt
            clear hst hanc hlast hneg hFN hFa hk
            go_upto_region 20 with fail
            have hlit := World.ownsRow_lit (base := w6.heap.size) (e := 3) (size := 1) w6 #[.int .i64 (a : Int)] 1 (Nat.le_refl _) (by decide) rfl
            have Hlit := Lib.hid hlit
            have Hb7 := Lib.hid (below1 w6 (.cells #[.int .i64 (a : Int)] 3))
            have W0 := Lib.hid (show wayN P a (0 + 1) = [a] from rfl)
            go_wp2
            clear hlit ca hnp
            generalize w6.alloc (.cells #[.int .i64 (a : Int)] 3) = w7 at *
            generalize Value.slice (some ⟨w6.heap.size, 0, none⟩) 1 1 = vq2 at *
            go_loopg [1, 13] k (fun g s1 s13 wr => ∃ j : Nat, j ≤ k ∧ g = k - j ∧ s1 = .int .i64 ((ancN P a j : Nat) : Int) ∧ Below w6.heap.size w6 wr ∧ wr.ownsRow w6.heap.size 3 1 s13 (j + 1) (nvals (wayN P a (j + 1))))
            case atStart => exact ⟨0, Nat.zero_le _, rfl, rfl, Hb7.out, Hlit.out⟩
            case round =>
              clear Hlit Hb7 W0
              obtain ⟨j, hj, rfl, rfl, hbw, ho⟩ := hrel
              obtain ⟨aP, cP, rfl⟩ := ownsRow_form ho
              have Hb := Lib.hid hbw; have Ho := Lib.hid ho
              have hz := hbw.size
              obtain ⟨hu, hFu, hPu, hPe⟩ := Hanc.out j (by rw [Hk.out]; omega)
              have hla := Hlast.out j (by rw [Hk.out]; omega)
              rw [Hk.out] at hla
              have cu := (Hst.out.row.of_block (hbw.block _ hl6)).cell hu
              simp only [ri] at cu
              rw [hPe] at cu
              have hsu := wayN_succ P a (j + 1)
              have e1 : ancN P a (j + 1) = (P (ancN P a j)).toNat := rfl
              rw [e1] at hsu
              by_cases hjk : j = k
              · subst hjk
                have q : ((ancN P a j : Nat) : Int) = (b : Int) := by have := hla.2 rfl; omega
                rw [q]
                clear cu hsu e1 hla hFu hPe ho hbw
                have Hfin := Lib.hid (ownsRow_low (b' := w.heap.size) Ho.out (by omega))
                go_wp2
                go_ret
                exact ⟨F, P, _, rfl, Hok.out, Hst.out.hb.trans (Hb.out.mono Hst.out.hb.size), (.inr ⟨Hpos.out, by
                  have := Hk.out
                  rw [show (F a).toNat = j by omega]
                  exact Hfin.out⟩)⟩
              · have q : ((ancN P a j : Nat) : Int) ≠ (b : Int) := fun e => hjk (by have := hla.1 (by omega); omega)
                have E1 := Lib.hid e1; have Hsu := Lib.hid hsu
                generalize ancN P a j = u at *
                generalize (P u).toNat = p at *
                have q1 : ((u : Int) == (b : Int)) = false := by rw [beq_eq_false_iff_ne]; exact q
                clear hsu e1 hla hFu hPe ho hbw q
                go_upto_region 23 with fail
                have Ho8 := Lib.hid (Ho.out.alloc (Obj.cells #[.int .i64 (p : Int)] 3))
                go_wp2_with (at_builtin; refine wpList_append_has rfl (.tmp 93) (.tmp 95) 29 rfl w6.heap.size 3 (.int .i64 0) 8 Try.underlying29 info3 rfl (.slice aP (j + 1) cP) (j + 1) (nvals (wayN P a (j + 1))) rfl Ho8.out _ 1 (nvals [p]) rfl (HasCells.one _ _ _ rfl) (by omega) (by omega) (by simp; omega) ?_; intro a8 c8 w8 ho8 hg8; have B8 := Lib.hid (((Hb.out.alloc hz (Obj.cells #[.int .i64 (p : Int)] 3))).grown hg8 (by simp; omega) (fun g e => (Ho.out.lt g e).1)); have Ho9 := Lib.hid ho8; clear ho8 hg8)
                go_roundg (k - (j + 1))
                case measure => go_light; omega
                case rel => exact ⟨j + 1, by omega, rfl, by rw [E1.out], B8.out, by rw [Hsu.out]; simpa [nvals, ints] using Ho9.out⟩
        · have hq0 := hq.cell (show 0 < (x :: R').length by simp)
          rw [Nat.add_zero] at hq0
          have hq0 : wr.cell? ⟨bq, off, none⟩ = some (.int .i64 (x : Int)) := hq0
          have hx := (Hbf.out.wf.qs x (by simp)).1
          have hlR : (0 : Int) < (((x :: R').length : Nat) : Int) := by simp only [List.length_cons]; omega
          have hlR' : 0 < (x :: R').length := by simp only [List.length_cons]; omega
          have hcap := hq.len
          clear hq hst
          generalize hnQ : (x :: R').length = nQ at *
          have HnQ := Lib.hid hnQ
          clear hnQ
          go_upto_region 11 with fail
          go_wp2
          have Hq0 := Lib.hid hq0
          clear hq0 hcap hlR hlR'
          go_loopg [11, 39] i (fun g s11 s39 wi => ∃ (j : Nat) (F' P' : Nat → Int) (R2 : List Nat), j ≤ i ∧ g = i - j ∧ s39 = .int .i64 (j : Int) ∧ gk + cnt (seenF F') i = i + (x :: R2).length ∧ ShoI i G S b F' P' (x :: R2) ∧ RiSt w wi w.heap.size i P' ∧ QIs wi (w.heap.size + 1) s11 (x :: R2) ∧ ∀ j', j' < j → openG G S x j' = true → 0 ≤ F' j')
          case atStart => exact ⟨0, F, P, R', Nat.zero_le _, rfl, rfl, by rw [Hg1.out, HnQ.out], Hbf.out, Hst.out, ⟨bq, off, cap, K, f, by rw [HnQ.out], Hq.out⟩, fun _ h => absurd h (Nat.not_lt_zero _)⟩
          case round =>
            clear Hg1 Hbf Hst Hq Hq0 HnQ
            obtain ⟨j, F', P', R2, hj, rfl, rfl, hg, hbf, hst, hq, hall⟩ := hrel
            have Hg1 := Lib.hid hg; have Hbf := Lib.hid hbf; have Hst := Lib.hid hst; have Hall := Lib.hid hall
            obtain ⟨b2, off2, cap2, K2, f2, rfl, hq⟩ := hq
            have Hq := Lib.hid hq
            have hq2 := hq.cell (show 0 < (x :: R2).length by simp)
            rw [Nat.add_zero] at hq2
            have hq2 : wr.cell? ⟨b2, off2, none⟩ = some (.int .i64 (x : Int)) := hq2
            have hcap2 := hq.len
            have hlR2 : 0 < (x :: R2).length := by simp only [List.length_cons]; omega
            clear hg hbf hall
            generalize hn2 : (x :: R2).length = n2 at *
            have Hn2 := Lib.hid hn2
            clear hn2
            by_cases hlt : j < i
            · have tx := (Hgr.out.below Hst.out.hb).head _ hx
              have cxj := (Hgr.out.below Hst.out.hb).cell hx hlt
              have cj := hst.row.cell hlt
              have cx := hst.row.cell hx
              simp only [ri] at cj cx
              have fw := hst.row.frozen j
              have hzi := hst.row.lt
              have hsz := hst.hb.size
              have hcl := cnt_le (seenF F') i
              have hopen : openG G S x j = (G x j && (decide (j = a) || op j)) := by unfold openG; rw [HS.out]; by_cases e : j = a <;> simp [e]
              have Hc := Lib.hid (fun W hW => Hp.out j W hlt hW)
              have HbW := Lib.hid Hst.out.hb
              obtain ⟨wo, rfl⟩ : ∃ wo : World, wo = wr := ⟨_, rfl⟩
              generalize hgx : G x j = gx at *
              generalize hoj : op j = oj at *
              obtain ⟨tb, htb⟩ : ∃ tb, tb = (gx && decide (P' j < 0) && (decide (j = a) || oj)) := ⟨_, rfl⟩
              have Htb := Lib.hid htb
              have Hopen := Lib.hid hopen
              have hpj : P' j = -1 ∨ 0 ≤ P' j := by have := Hbf.out.pa.rng j hlt; omega
              clear hopen hgx hoj htb hst
              go_upto_region 14 with fail
              go_cut [67] from 42 to 67 (fun s67 wx => s67 = .bool tb ∧ wo = wx)
              case first =>
                have HP := Lib.hid hpj
                generalize P' j = pj at *
                rcases gx with _ | _
                · have e : tb = false := by rw [Htb.out]; rfl
                  have E := Lib.hid e
                  clear e
                  go_wp2
                  go_meet
                  exact ⟨by rw [E.out], rfl⟩
                · rcases HP.out with hp | hp
                  · subst hp
                    by_cases hja : j = a
                    · subst hja
                      have E := Lib.hid (show tb = true by rw [Htb.out]; simp)
                      go_wp2
                      go_meet
                      exact ⟨by rw [E.out], rfl⟩
                    · have qa : ((j : Int) == (a : Int)) = false := by rw [beq_eq_false_iff_ne]; omega
                      have E := Lib.hid (show tb = oj by rw [Htb.out]; simp [hja])
                      go_wp2_with (go_at_fn g; refine (Hc.out _ HbW.out).mono ?_; rintro e w' ⟨rfl, hw'⟩; rw [hw'])
                      go_meet
                      exact ⟨by rw [E.out], rfl⟩
                  · have hp2 : ¬ pj < 0 := by omega
                    have E := Lib.hid (show tb = false by rw [Htb.out, decide_eq_false hp2]; simp)
                    go_wp2
                    go_meet
                    exact ⟨by rw [E.out], rfl⟩
              case rest =>
              obtain ⟨rfl, rfl⟩ := hcut
              clear tx cxj
              have htb := Htb.out
              cases tb with
              | false =>
                have Hs := Lib.hid (show openG G S x j = true → 0 ≤ F' j from fun ho => by
                  rw [Hopen.out, Bool.and_eq_true] at ho
                  refine Hbf.out.seen hlt fun hp => ?_
                  rw [ho.1, ho.2, decide_eq_true hp] at htb
                  cases htb)
                clear htb
                go_wp2
                go_roundg (i - (j + 1))
                case measure => go_light; omega
                case rel => exact ⟨j + 1, F', P', R2, by omega, rfl, by go_num, by rw [Hn2.out]; exact Hg1.out, Hbf.out, Hst.out, ⟨b2, off2, cap2, K2, f2, by rw [Hn2.out], Hq.out⟩, fun j' hj' ho => by
                  by_cases e : j' = j
                  · subst e; exact Hs.out ho
                  · exact Hall.out j' (by omega) ho⟩
              | true =>
                have htb2 := htb.symm
                rw [Bool.and_eq_true, Bool.and_eq_true, decide_eq_true_eq] at htb2
                have Hp0 := Lib.hid htb2.1.2
                have Ho := Lib.hid (show openG G S x j = true by rw [Hopen.out, htb2.1.1, htb2.2]; rfl)
                clear htb htb2
                have hroom := Hbf.out.wf.room
                rw [Hn2.out] at hroom
                have hn2s : n2 < 1000000 := by omega
                have HF0 := Lib.hid ((Hbf.out.pa.seen hlt).1 Hp0.out)
                have Hfx := Lib.hid (Hbf.out.wf.qs x (by simp)).2
                have hst5 := (Hst.out.set j (x : Int)).below (below1 _ (.cells #[.int .i64 (j : Int)] 3))
                have hq5 : QIs ((wo.setCell ⟨w.heap.size, j, none⟩ (.int .i64 (x : Int))).alloc (.cells #[.int .i64 (j : Int)] 3)) (w.heap.size + 1) (.slice (some ⟨b2, off2, none⟩) n2 cap2) (x :: R2) :=
                  QIs.below (QIs.set (w := wo) ⟨b2, off2, cap2, K2, f2, by rw [Hn2.out], Hq.out⟩ (by omega) j _) ((Below.refl _ _).alloc (Nat.le_refl _) _)
                have Hst5 := Lib.hid hst5; have Hq5 := Lib.hid hq5; have Hpush := Lib.hid (Hbf.out.push hb hlt Hp0.out Ho.out)
                have Hcs := Lib.hid (show cnt (seenF fun q => if q = j then F' x + 1 else F' q) i = cnt (seenF F') i + 1 from by
                  rw [seen_put (by have := Hfx.out; omega)]
                  exact cnt_seen hlt (by unfold seenF; have := HF0.out; simp; omega))
                clear hq hst5 hq5 hroom hcl cx hpj
                go_wp2_with (at_builtin; refine wpList_append_q rfl (.tmp 74) (.tmp 76) 29 rfl Try.underlying29 info3 _ (x :: R2) rfl Hq5.out _ _ j rfl (one_cellF _ _ _ _ _) (by rw [Hn2.out]; exact hn2s) (by rw [World.size_alloc, size_setCell]; omega) ?_; intro v6 w6 hq6 hb6; have Hq6 := Lib.hid hq6; have Hb6 := Lib.hid hb6; clear hq6 hb6)
                go_roundg (i - (j + 1))
                case measure => go_light; omega
                case rel =>
                  have h1 := Hg1.out
                  have h2 := Hcs.out
                  have h3 := Hn2.out
                  have h4 := Hfx.out
                  refine ⟨j + 1, _, _, R2 ++ [j], by omega, rfl, by go_num, ?_, Hpush.out, ⟨Hst5.out.hb.trans (Hb6.out.mono (by omega)), Nat.le_refl _, Hst5.out.row.of_block (Hb6.out.block _ (by omega))⟩, Hq6.out, fun j' hj' ho => ?_⟩
                  · rw [h2, ← List.cons_append, List.length_append, h3]
                    simp only [List.length_cons, List.length_nil]
                    omega
                  · by_cases e : j' = j
                    · rw [if_pos e]; omega
                    · rw [if_neg e]; exact Hall.out j' (by omega) ho
            · obtain rfl : i = j := by omega
              obtain ⟨i3, hi3, -, hsz3, -⟩ := info_parts info3
              have hcapq := Hq.out.len
              have hsl : ∀ w, (Instr.slice 29 (.slice (some ⟨b2, off2, none⟩) n2 cap2) (some (.int .i64 1)) none none).run Try.prog w = .ok (.slice (cutAt b2 off2 (cap2 - 1)) R2.length (cap2 - 1)) w := by rw [← Hn2.out]; exact run_slice_one (P := Try.prog) Try.underlying29 hi3 hsz3 b2 off2 R2.length cap2 hcapq
              have hcle := cnt_le (seenF F') i
              have Hcle := Lib.hid hcle
              clear hst hq hcap2 hi3 hsz3 hcle hq2 hcapq
              go_wp2
              go_roundg (gk - 1)
              case measure =>
                have h1 := Hg1.out
                have h2 := Hcle.out
                have h3 := Hn2.out
                simp only [List.length_cons] at h3
                go_light; omega
              case rel =>
                have h1 := Hg1.out
                have h2 := Hcle.out
                have h3 := Hn2.out
                simp only [List.length_cons] at h3
                exact ⟨F', P', R2, by omega, Hbf.out.pop fun u hu hgu => Hall.out u hu hgu, Hst.out, Hq.out.cut⟩

end Go.Proofs.Ytnhhohhhpaejmaa
