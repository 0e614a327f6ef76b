/- arborref.Far: how far all nodes are from one. arborref.Girth: the shortest ring, by the shortest way beside each edge. arborlaw.nodesFault: what is wrong with nodes of a graph. -/
import Derived.Test.YtnmljgjegodkaaaPA
import Derived.Test.YtnmljgjegodkaaaHasGrid
import Derived.Test.YtnmljgjegodkaaaPH
import Derived.Test.YtnmljgjegodkaaaPI
import Derived.Test.YtnmljgjegodkaaaOf
import Derived.BigQuiet
import Derived.Test.YtnmljgjegodkaaaLookW
import Derived.Test.YtnmljgjegodkaaaPF
namespace Go.Proofs.Ytnmljgjegodkaaa
open Go.RowKit

/-- Numbers come back that tell how far. -/
def FarPost (N : Nat) (G : Nat → Nat → Bool) (a : Nat) (w : World) (e : Ending) (w' : World) : Prop :=
  ∃ b F, e = .returned (.slice (some ⟨b, 0, none⟩) N N) ∧ w.heap.size ≤ b ∧ w'.rowIs b 3 N (ri F) ∧ FarOk N G a F ∧ Below w.heap.size w w'
/-- A table's entries lie still. -/
theorem grid_cells {w wr : World} {Bg b o N : Nat} {R : Nat → Nat} {G : Nat → Nat → Bool} (h : Grid w Bg b o N R G) (hb : Below w.heap.size w wr) {i j : Nat} (hi : i < N) (hj : j < N) :
    wr.cell? ⟨b, o + i, none⟩ = some (.slice (some ⟨R i, 0, none⟩) N N) ∧ wr.cell? ⟨R i, j, none⟩ = some (.bool (G i j)) := ⟨below_cell hb (h.head i hi), below_cell hb (h.cell hi hj)⟩

set_option maxHeartbeats 3200000 in
set_option maxRecDepth 100000 in
theorem rfar_any (N a : Nat) (G : Nat → Nat → Bool) (gv : Value) (w : World) (hN : N ≤ 100) (ha : a < N) (hg : HasGrid w gv N G) :
    Calls Try.prog 19 #[gv, .int .i64 (a : Int)] w (FarPost N G a w) := by
  obtain ⟨Bg, ga, gc, gb, go', R, rfl, hgc, hga, hgrid⟩ := hg
  obtain rfl := (hga (by omega)).1
  have Hgr := Lib.hid hgrid
  clear hgrid hga
  have hmk := run_make_row' (P := Try.prog) 29 3 (.int .i64 0) 8 Try.underlying29 info3 rfl .i64 .i64 N (by omega) (by omega)
  have hr1 := World.rowIs_made w (.int .i64 0) N 3
  have hb1 := below1 w (.cells (madeCells #[.int .i64 0] N) 3)
  have Hr1 := Lib.hid (hr1.congr (g := ri fun _ => 0) fun _ _ => rfl); have Hb1 := Lib.hid hb1
  clear hr1 hb1
  go_enter Try.func19, Try.ntmps19
  go_upto_region 2 with fail
  clear hmk
  generalize w.alloc (.cells (madeCells #[.int .i64 0] N) 3) = w1 at *
  go_wp2
  go_loopg [6] N (fun g s6 wr => ∃ k : Nat, k ≤ N ∧ g = N - k ∧ s6 = .int .i64 k ∧ wr.rowIs w.heap.size 3 N (ri fun q => if q < k then -1 else 0) ∧ Below w.heap.size w wr)
  case atStart => exact ⟨0, Nat.zero_le _, rfl, rfl, Hr1.out.congr fun q _ => by simp [ri], Hb1.out⟩
  case round =>
    obtain ⟨k, hk, rfl, rfl, hr, hb⟩ := hrel
    have Hr := Lib.hid hr; have Hb := Lib.hid hb
    by_cases hlt : k < N
    · have ck := hr.cell hlt
      have fk := hr.frozen k
      have lk := hr.lt
      clear hr hb
      go_wp2
      go_roundg (N - (k + 1))
      case measure => go_light; omega
      case rel => exact ⟨k + 1, by omega, rfl, by go_num, row_ri (row_set_ri Hr.out k (-1)) fun q hq => by
        by_cases e : q = k
        · subst e; simp
        · rw [if_neg e]
          by_cases e2 : q < k
          · rw [if_pos e2, if_pos (by omega)]
          · rw [if_neg e2, if_neg (by omega)], Hb.out.setCell (p := ⟨w.heap.size, k, none⟩) (Nat.le_refl _) _⟩
    · obtain rfl : N = k := by omega
      have cO := hr.cell ha
      have fO := hr.frozen a
      have lO := hr.lt
      have Hr2 := Lib.hid (row_ri (g' := fun v => if v = a then 0 else -1) (row_set_ri Hr.out a 0) (fun q hq => by
        by_cases e : q = a
        · simp [e]
        · simp only [if_neg e, if_pos hq]))
      have Hb2 := Lib.hid (Hb.out.setCell (p := ⟨w.heap.size, a, none⟩) (Nat.le_refl _) (.int .i64 0))
      clear hr hb Hr Hb
      go_wp2
      generalize wr.setCell ⟨w.heap.size, a, none⟩ (.int .i64 0) = w2 at *
      clear cO fO lO
      go_loopg [7] N (fun g s7 wr => ∃ (d : Nat) (F : Nat → Int), d ≤ N ∧ g = N - d ∧ s7 = .int .i64 d ∧ FarI N G a d 0 0 F ∧ wr.rowIs w.heap.size 3 N (ri F) ∧ Below w.heap.size w wr)
      case atStart => exact ⟨0, _, Nat.zero_le _, rfl, rfl, FarI.start, Hr2.out, Hb2.out⟩
      case round =>
        obtain ⟨d, F, hd, rfl, rfl, hf, hr, hb⟩ := hrel
        have Hf := Lib.hid hf; have Hr := Lib.hid hr; have Hb := Lib.hid hb
        clear hf hr hb
        by_cases hdl : d < N
        · go_wp2
          go_loopg [8] N (fun g s8 wr => ∃ (i : Nat) (F : Nat → Int), i ≤ N ∧ g = N - i ∧ s8 = .int .i64 i ∧ FarI N G a d i 0 F ∧ wr.rowIs w.heap.size 3 N (ri F) ∧ Below w.heap.size w wr)
          case atStart => exact ⟨0, F, Nat.zero_le _, rfl, rfl, Hf.out, Hr.out, Hb.out⟩
          case round =>
            clear Hf Hr Hb
            obtain ⟨i, F, hi, rfl, rfl, hf, hr, hb⟩ := hrel
            have Hf := Lib.hid hf; have Hr := Lib.hid hr; have Hb := Lib.hid hb
            clear hf hr hb
            by_cases hil : i < N
            · go_wp2
              go_loopg [9] N (fun g s9 wr => ∃ (j : Nat) (F : Nat → Int), j ≤ N ∧ g = N - j ∧ s9 = .int .i64 j ∧ FarI N G a d i j F ∧ wr.rowIs w.heap.size 3 N (ri F) ∧ Below w.heap.size w wr)
              case atStart => exact ⟨0, F, Nat.zero_le _, rfl, rfl, Hf.out, Hr.out, Hb.out⟩
              case round =>
                clear Hf Hr Hb
                obtain ⟨j, F, hj, rfl, rfl, hf, hr, hb⟩ := hrel
                have Hf := Lib.hid hf; have Hr := Lib.hid hr; have Hb := Lib.hid hb
                by_cases hjl : j < N
                · have ci := hr.cell hil
                  have cj := hr.cell hjl
                  have fj := hr.frozen j
                  have lj := hr.lt
                  simp only [ri] at ci cj
                  obtain ⟨t1, t2⟩ := grid_cells Hgr.out hb hil hjl
                  have hstep := fun h => hf.skip (i := i) (j := j) h
                  have hset := fun h1 h2 h3 => hf.set hil hjl h1 h2 h3
                  have Hstep := Lib.hid hstep; have Hset := Lib.hid hset
                  clear hf hr hb hstep hset
                  by_cases h1 : F i = (d : Int)
                  · have q1 : (F i == (d : Int)) = true := by simp [h1]
                    rw [h1] at ci
                    cases h2 : G i j with
                    | false =>
                      rw [h2] at t2
                      have Hno := Lib.hid (Hstep.out fun h => by rw [h2] at h; simp at h)
                      clear h1 q1 h2
                      go_wp2
                      go_roundg (N - (j + 1))
                      case measure => go_light; omega
                      case rel => exact ⟨j + 1, F, by omega, rfl, by go_num, Hno.out, Hr.out, Hb.out⟩
                    | true =>
                      rw [h2] at t2
                      by_cases h3 : F j < 0
                      · have Hyes := Lib.hid (Hset.out h1 h2 h3)
                        clear h1 q1 h2
                        go_wp2
                        go_roundg (N - (j + 1))
                        case measure => go_light; omega
                        case rel => exact ⟨j + 1, _, by omega, rfl, by go_num, Hyes.out, row_set_ri Hr.out j ((d : Int) + 1), Hb.out.setCell (p := ⟨w.heap.size, j, none⟩) (Nat.le_refl _) _⟩
                      · have Hno := Lib.hid (Hstep.out fun h => h3 h.2.2)
                        clear h1 q1 h2
                        go_wp2
                        go_roundg (N - (j + 1))
                        case measure => go_light; omega
                        case rel => exact ⟨j + 1, F, by omega, rfl, by go_num, Hno.out, Hr.out, Hb.out⟩
                  · have q1 : (F i == (d : Int)) = false := by simp [h1]
                    have Hno := Lib.hid (Hstep.out fun h => h1 h.1)
                    clear h1
                    go_wp2
                    go_roundg (N - (j + 1))
                    case measure => go_light; omega
                    case rel => exact ⟨j + 1, F, by omega, rfl, by go_num, Hno.out, Hr.out, Hb.out⟩
                · obtain rfl : j = N := by omega
                  clear hf hr hb
                  go_wp2
                  go_roundg (j - (i + 1))
                  case measure => go_light; omega
                  case rel => exact ⟨i + 1, F, by omega, rfl, by go_num, Hf.out.row, Hr.out, Hb.out⟩
            · obtain rfl : i = N := by omega
              go_wp2
              go_roundg (i - (d + 1))
              case measure => go_light; omega
              case rel => exact ⟨d + 1, F, by omega, rfl, by go_num, Hf.out.round, Hr.out, Hb.out⟩
        · obtain rfl : d = N := by omega
          go_wp2
          go_ret
          exact ⟨w.heap.size, F, rfl, Nat.le_refl _, Hr.out, Hf.out.done ha, Hb.out⟩

end Go.Proofs.Ytnmljgjegodkaaa
namespace Go.Proofs.Ytnmljgjegodkaaa
open Go.RowKit

/-- A ring through edge j. -/
def RingJ (N : Nat) (G : Nat → Nat → Bool) (j : Nat) (L : Int) : Prop := ∃ a b : Nat, (edG N G).getD j (0, 0) = ((a : Int), (b : Int)) ∧ RingN N G a b L
/-- The least of the first k edges. -/
def GirT (N : Nat) (G : Nat → Nat → Bool) (k : Nat) (best : Int) : Prop := (best = 0 ∧ ∀ j L, j < k → ¬ RingJ N G j L) ∨ (0 < best ∧ (∃ j L, j < k ∧ RingJ N G j L ∧ best = L + 1) ∧ ∀ j L, j < k → RingJ N G j L → best ≤ L + 1)
section
variable {N k a b : Nat} {G : Nat → Nat → Bool} {best : Int} {F : Nat → Int}
theorem GirT.start : GirT N G 0 0 := .inl ⟨rfl, fun j L h => absurd h (Nat.not_lt_zero _)⟩
theorem ringJ_at (he : (edG N G).getD k (0, 0) = ((a : Int), (b : Int))) (hab : a < b) (hA : AG N G a b) (hF : FarOk N (lessG G a b) a F) (L : Int) : RingJ N G k L ↔ L = F b ∧ 0 < F b := by
  constructor
  · rintro ⟨a', b', e, -, -, F', hF', rfl, h0⟩
    rw [he] at e
    simp only [Prod.mk.injEq] at e
    have e1 := Int.ofNat.inj e.1; have e2 := Int.ofNat.inj e.2
    subst e1 e2
    have := hF'.eq hF b hA.2.1
    rw [this] at h0 ⊢
    exact ⟨rfl, h0⟩
  · rintro ⟨rfl, h0⟩
    exact ⟨a, b, he, hab, hA, F, hF, rfl, h0⟩
theorem GirT.skip (h : GirT N G k best) (hno : ∀ L, RingJ N G k L → 0 < best ∧ best ≤ L + 1) : GirT N G (k + 1) best := by
  rcases h with ⟨rfl, h⟩ | ⟨h0, ⟨j, L, h1, h2, h3⟩, h4⟩
  · refine .inl ⟨rfl, fun j L hj hr => ?_⟩
    by_cases e : j = k
    · subst e; have := (hno L hr).1; omega
    · exact h j L (by omega) hr
  · refine .inr ⟨h0, ⟨j, L, by omega, h2, h3⟩, fun j L hj hr => ?_⟩
    by_cases e : j = k
    · subst e; exact (hno L hr).2
    · exact h4 j L (by omega) hr
theorem GirT.take (h : GirT N G k best) {d : Int} (hr : RingJ N G k d) (hu : ∀ L, RingJ N G k L → L = d) (hd : 0 < d) (hc : best = 0 ∨ d + 1 < best) : GirT N G (k + 1) (d + 1) := by
  refine .inr ⟨by omega, ⟨k, d, by omega, hr, rfl⟩, fun j L hj hr' => ?_⟩
  by_cases e : j = k
  · subst e; rw [hu L hr']; omega
  · rcases h with ⟨rfl, h⟩ | ⟨h0, -, h4⟩
    · exact absurd hr' (h j L (by omega))
    · have := h4 j L (by omega) hr'; omega
theorem GirT.fin (h : GirT N G (edG N G).length best) : GirthIs N G best := by
  have key : ∀ a b L, RingN N G a b L → ∃ j, j < (edG N G).length ∧ RingJ N G j L := fun a b L hr => by
    have hm : ((a : Int), (b : Int)) ∈ edG N G := edG_iff.2 ⟨a, b, hr.1, hr.2.1, rfl⟩
    obtain ⟨j, hj, e⟩ := List.getElem_of_mem hm
    exact ⟨j, hj, a, b, by rw [List.getD, List.getElem?_eq_getElem hj]; exact e, hr⟩
  rcases h with ⟨rfl, h⟩ | ⟨h0, ⟨j, L, h1, ⟨a, b, h2, h2'⟩, h3⟩, h4⟩
  · refine .inl ⟨rfl, fun a b L hr => ?_⟩
    obtain ⟨j, hj, hr'⟩ := key a b L hr
    exact h j L hj hr'
  · refine .inr ⟨h0, ⟨a, b, L, h2', h3⟩, fun a b L hr => ?_⟩
    obtain ⟨j, hj, hr'⟩ := key a b L hr
    exact h4 j L hj hr'
end

theorem uppG {a b c : World} (h : Below a.heap.size a b) (k : Below b.heap.size b c) : Below a.heap.size a c := h.trans (k.mono h.size)
set_option maxHeartbeats 6400000 in
set_option maxRecDepth 100000 in
theorem rgirth_any (N : Nat) (G : Nat → Nat → Bool) (gv : Value) (w : World) (hN : N ≤ 100) (hg : HasGrid w gv N G) (hG : Gr N G) :
    Calls Try.prog 25 #[gv] w fun e w' => ∃ g : Int, e = .returned (.int .i64 g) ∧ GirthIs N G g ∧ Below w.heap.size w w' := by
  have HG := Lib.hid hg
  have HGr := Lib.hid hG
  obtain ⟨Bg, ga, gc, gb, go', R0, rfl, -⟩ := hg
  clear hG
  go_enter Try.func25, Try.ntmps25
  go_wp2_with fail
  refine (of_any N G _ _ hN HG.out).mono ?_
  rintro e w2 ⟨v2, ho2, hb2, rfl⟩
  have hplen : (edG N G).length ≤ N * N := prsTo_length N G N
  have hlen : (edG N G).length ≤ 10000 := by
    have : N * N ≤ 100 * 100 := Nat.mul_le_mul hN hN
    omega
  obtain ⟨ad, cap, bb, o, e0, hcap, hmax, hadr, -, hcell⟩ := ho2.edges
  subst e0
  have HG2 := Lib.hid (HG.out.below hb2)
  have Hb2 := Lib.hid hb2
  clear ho2 hb2 hplen
  obtain ⟨M, hM⟩ : ∃ M, (edG N G).length = M := ⟨_, rfl⟩
  have HM := Lib.hid hM
  rw [hM] at hlen hcap hadr hcell ⊢
  clear hM
  have hfe : (Instr.field 24 (.agg #[.int .i64 (N : Int), .slice ad M cap]) 1).run Try.prog w2 = .ok (.slice ad M cap) w2 := by kernel_rfl
  have Hadr := Lib.hid hadr; have Hcell := Lib.hid hcell
  clear hadr hcell
  go_upto_region 4 with fail
  clear hfe
  go_loopg [3, 5] M (fun g s3 s5 wr => ∃ (k : Nat) (best : Int), k ≤ M ∧ g = M - k ∧ s5 = .int .i64 (k : Int) ∧ s3 = .int .i64 best ∧ 0 ≤ best ∧ best ≤ 200 ∧ GirT N G k best ∧ Below w2.heap.size w2 wr)
  case atStart => exact ⟨0, 0, Nat.zero_le _, rfl, rfl, rfl, by omega, by omega, GirT.start, Below.refl _ _⟩
  case round =>
    obtain ⟨k, best, hk, rfl, rfl, rfl, hb0, hb1, hgt, hb⟩ := hrel
    have Hgt := Lib.hid hgt
    have Hb := Lib.hid hb
    clear hgt
    by_cases hlt : k < M
    · obtain rfl := Hadr.out (by omega)
      have hcell2 : ∀ j, j < (edG N G).length → w2.cell? ⟨bb, o + j * 2, none⟩ = some (.int .i64 ((edG N G).getD j (0, 0)).1) ∧ w2.cell? ⟨bb, o + j * 2 + 1, none⟩ = some (.int .i64 ((edG N G).getD j (0, 0)).2) := by rw [HM.out]; exact Hcell.out
      obtain ⟨u, v, Hu, cu, cv⟩ := edges_at hcell2 hb (by rw [HM.out]; exact hlt)
      have hmem : ((edG N G).getD k (0, 0)) ∈ edG N G := atE_mem (by rw [HM.out]; exact hlt)
      rw [Hu.out] at hmem
      obtain ⟨a, b, hab, hA, e⟩ := edG_iff.1 hmem
      simp only [Prod.mk.injEq] at e
      obtain ⟨rfl, rfl⟩ := e
      have HGw := Lib.hid (HG2.out.below hb)
      have HA := Lib.hid hA
      have haN := hA.1
      have hbN := hA.2.1
      clear hb hmem hcell2 hA
      have HW := Lib.hid (fun (wq : World) (hq : Below wr.heap.size wr wq) => without_any N G (a : Int) (b : Int) _ wq hN (HGw.out.below hq))
      go_upto_region 6 with fail
      go_cut [6] from 16 to 34 (fun s6 wx => ∃ F, s6 = .int .i64 (F b) ∧ FarOk N (lessG G a b) a F ∧ Below wr.heap.size wr wx)
      case first =>
        go_region_with (first
            | (go_at_call 56; refine (HW.out _ (by first | exact (Below.refl _ _).drew | exact Below.refl _ _)).mono ?_; rintro e w3 ⟨v3, rfl, hg3, hb3⟩; have hcur : Below wr.heap.size wr w3 := uppG (by first | exact (Below.refl _ _).drew | exact Below.refl _ _) hb3; have Hg3 := Lib.hid (hg3.congr fun i j hi hj => but_less HGr.out hab hi hj); have d0 := below_cell hcur cu; have d1 := below_cell hcur cv; clear hg3 hb3)
            | (go_at_call 19; refine (rfar_any N a (lessG G a b) v3 w3 hN haN Hg3.out).mono ?_; rintro e w4 ⟨bF, F, rfl, hlF, hrF, hF, hb4⟩; have hcur2 : Below wr.heap.size wr w4 := uppG hcur hb4; have HF := Lib.hid hF; have d2 := below_cell hcur2 cu; have d3 := below_cell hcur2 cv; have cF := hrF.cell hbN; simp only [ri] at cF; clear hF))
        all_goals (go_wp2_with fail; go_meet; exact ⟨F, rfl, HF.out, hcur2⟩)
      case rest =>
        obtain ⟨F, rfl, hF, hbw⟩ := hcut
        have Hbw := Lib.hid (Hb.out.trans (hbw.mono Hb.out.size))
        have hr := ringJ_at (k := k) Hu.out hab HA.out hF
        have hrng := hF.rng b hbN
        have Hr := Lib.hid hr
        clear cu cv hbw hr hF
        generalize F b = d at *
        have hwd : IntKind.i64.wrap (d + 1) = d + 1 := wrap_midF (by omega) (by omega)
        by_cases hd : 0 < d
        · by_cases h0 : best = 0
          · subst h0
            go_wp2
            go_roundg (M - (k + 1))
            case measure => go_light; omega
            case rel => exact ⟨k + 1, d + 1, by omega, rfl, by go_num, rfl, by omega, by omega, Hgt.out.take ((Hr.out d).2 ⟨rfl, hd⟩) (fun L h => ((Hr.out L).1 h).1) hd (.inl rfl), Hbw.out⟩
          · have q0 : (best == 0) = false := by rw [beq_eq_false_iff_ne]; exact h0
            by_cases hl : d + 1 < best
            · have Hl := Lib.hid hl
              clear h0
              go_wp2
              go_roundg (M - (k + 1))
              case measure => go_light; omega
              case rel => exact ⟨k + 1, d + 1, by omega, rfl, by go_num, rfl, by omega, by omega, Hgt.out.take ((Hr.out d).2 ⟨rfl, by omega⟩) (fun L h => ((Hr.out L).1 h).1) (by omega) (.inr Hl.out), Hbw.out⟩
            · have Hl := Lib.hid hl
              have H0 := Lib.hid h0
              clear h0
              go_wp2
              go_roundg (M - (k + 1))
              case measure => go_light; omega
              case rel => exact ⟨k + 1, best, by omega, rfl, by go_num, rfl, by omega, by omega, Hgt.out.skip (fun L h => by have h1 := (Hr.out L).1 h; have h2 := Hl.out; have h3 := H0.out; omega), Hbw.out⟩
        · have Hd := Lib.hid hd
          go_wp2
          go_roundg (M - (k + 1))
          case measure => go_light; omega
          case rel => exact ⟨k + 1, best, by omega, rfl, by go_num, rfl, by omega, by omega, Hgt.out.skip (fun L h => by have h1 := (Hr.out L).1 h; have h2 := Hd.out; omega), Hbw.out⟩
    · obtain rfl : k = M := by omega
      clear hb
      go_wp2
      exact bodyPost_ret (v := .int .i64 best) (by simp [results, Try.results25, go_sem]) rfl ⟨best, rfl, GirT.fin (by rw [HM.out]; exact Hgt.out), Hb2.out.trans (Hb.out.mono Hb2.out.size)⟩

end Go.Proofs.Ytnmljgjegodkaaa
namespace Go.Proofs.Ytnmljgjegodkaaa
open Go.RowKit

theorem WkG.fault {w wr : World} {n : Int} {s : Value} {l : List (Int × Int)} (h : WkG w wr n s l) (h0 : IsEdges w s l) {E : Nat} (hE : w.heap.size + 1 < E) (c a : Value) : WkG w ((wr.setCell ⟨E, 0, none⟩ c).setCell ⟨E, 1, none⟩ a) n s l := by
  have hb : Below w.heap.size w ((wr.setCell ⟨E, 0, none⟩ c).setCell ⟨E, 1, none⟩ a) := (h.hb.setCell (p := ⟨E, 0, none⟩) (show w.heap.size ≤ E by omega) c).setCell (p := ⟨E, 1, none⟩) (show w.heap.size ≤ E by omega) a
  refine ⟨hb, ?_, ?_, h0.below hb, (h.r.setOther (a := ⟨E, 0, none⟩) (by show w.heap.size + 1 ≠ E; omega) _).setOther (a := ⟨E, 1, none⟩) (by show w.heap.size + 1 ≠ E; omega) _⟩
  · rw [World.cell?_setCell_far _ _ _ _ (show E ≠ w.heap.size by omega), World.cell?_setCell_far _ _ _ _ (show E ≠ w.heap.size by omega)]; exact h.cn
  · rw [World.cell?_setCell_far _ _ _ _ (show E ≠ w.heap.size by omega), World.cell?_setCell_far _ _ _ _ (show E ≠ w.heap.size by omega)]; exact h.cs
/-- Under way. -/
def NodI (n : Int) (L : List Int) (c0 a0 : Int) (k : Nat) (c a : Int) : Prop :=
  (c0 ≠ 0 ∧ c = c0 ∧ a = a0) ∨ (c0 = 0 ∧ ((c = 0 ∧ a = 0 ∧ ∀ j, j < k → 0 ≤ L.getD j 0 ∧ L.getD j 0 < n) ∨ ∃ i : Nat, i < L.length ∧ (∀ j, j < i → 0 ≤ L.getD j 0 ∧ L.getD j 0 < n) ∧ ¬ (0 ≤ L.getD i 0 ∧ L.getD i 0 < n) ∧ c = 3 ∧ a = i))

theorem NodI.look {n : Int} {l : List (Int × Int)} {L : List Int} {c0 a0 c a : Int} {k : Nat} (hs : GraphSpec n l c0 a0) (h : NodI n L c0 a0 k c a) (hx : c ≠ 0 ∨ L.length ≤ k) : LookR n l L c a := by
  refine ⟨c0, a0, hs, ?_⟩
  rcases h with h | ⟨h1, ⟨rfl, rfl, h3⟩ | ⟨i, h2, h3, h4, h5, h6⟩⟩
  · exact .inl h
  · refine .inr ⟨h1, .inr ⟨fun j hj => h3 j ?_, rfl, rfl⟩⟩
    rcases hx with hx | hx
    · exact absurd rfl hx
    · omega
  · exact .inr ⟨h1, .inl ⟨i, h2, h3, h4, h5, h6⟩⟩
set_option maxHeartbeats 3200000 in
set_option maxRecDepth 100000 in
theorem nodesFault_any (n : Int) (l : List (Int × Int)) (L : List Int) (s nv : Value) (w : World) (h : IsEdges w s l) (hL : IsInts w nv L) (hLl : L.length ≤ 1000) :
    Calls Try.prog 24 #[.agg #[.int .i64 n, s], nv] w fun e w' => ∃ c a, LookR n l L c a ∧ e = .returned (.agg #[.int .i64 c, .int .i64 a]) ∧ Below w.heap.size w w' := by
  obtain ⟨ad, cap, rfl⟩ := h.form
  have St := Lib.hid (WkG.start (n := n) h)
  have HI := Lib.hid (hL.below (below2 w (Obj.cells #[.int .i64 n, .slice ad l.length cap] 24) (Obj.cells #[.int .i64 0, .int .i64 0] 27)))
  have hL0 := hL
  have h0 := h
  obtain ⟨an, cn, bn, on, rfl, -, -, -, -⟩ := hL
  clear h
  go_enter Try.func24, Try.ntmps24
  go_upto_region 1 with fail
  generalize (w.alloc (Obj.cells #[.int .i64 n, .slice ad l.length cap] 24)).alloc (Obj.cells #[.int .i64 0, .int .i64 0] 27) = w1 at *
  have cn := St.out.cn
  have cs := St.out.cs
  have hl := St.out.r.lt
  go_upto_region 2 with (go_at_call 9; refine (rcheck_any l n _ _ St.out.he).mono ?_; rintro e w2 ⟨c, a, hsp, rfl, hb2⟩; have hz2 := hb2.size; have hb3 := hb2.trans ((below1 w2 (Obj.cells #[.int .i64 c, .int .i64 a] 27)).mono hb2.size); have S2 := Lib.hid (St.out.below hb3); have I2 := Lib.hid (HI.out.below hb3); have Hs := Lib.hid hsp; have F2 := Lib.hid (FV.new w2 c a); clear hb2 hb3 hsp)
  generalize w2.alloc (Obj.cells #[.int .i64 c, .int .i64 a] 27) = w3 at *
  clear cn cs St HI I2
  have n1 : w.heap.size + 1 < w2.heap.size := by omega
  generalize w2.heap.size = E at *
  have He0 := Lib.hid h0
  have Hi0 := Lib.hid hL0
  have hLn : L.length ≤ 1000 := hLl
  clear h0 hL0
  go_upto_region 3 with fail
  go_loopg [6] L.length (fun g s6 wr => ∃ (k : Nat) (cf af : Int), k ≤ L.length ∧ g = L.length - k ∧ s6 = .int .i64 (k : Int) ∧ WkG w wr n (.slice ad l.length cap) l ∧ FV wr E cf af ∧ NodI n L c a k cf af)
  case atStart =>
    refine ⟨0, c, a, Nat.zero_le _, rfl, rfl, S2.out, F2.out, ?_⟩
    by_cases hc : c = 0
    · subst hc
      exact .inr ⟨rfl, .inl ⟨rfl, Hs.out.good.2, fun _ h => absurd h (Nat.not_lt_zero _)⟩⟩
    · exact .inl ⟨hc, rfl, rfl⟩
  case round =>
    clear S2 F2
    obtain ⟨k, cf, af, hk, rfl, rfl, hst, hfv, hno⟩ := hrel
    have Hst := Lib.hid hst; have Hfv := Lib.hid hfv; have Hno := Lib.hid hno
    have cn := hst.cn
    obtain ⟨z0, z1, y0, y1, l0⟩ := row_facts hst.r
    obtain ⟨f0, f1, g0, g1, l1⟩ := hfv.facts
    clear hst hfv hno
    by_cases hlt : k < L.length
    · by_cases hcf : cf = 0
      · subst hcf
        obtain ⟨hc0, ha0, hall⟩ : c = 0 ∧ af = 0 ∧ ∀ j, j < k → 0 ≤ L.getD j 0 ∧ L.getD j 0 < n := by
          rcases Hno.out with ⟨h1, h2, -⟩ | ⟨h1, ⟨-, h2, h3⟩ | ⟨i, -, -, -, h2, -⟩⟩
          · exact absurd h2.symm h1
          · exact ⟨h1, h2, h3⟩
          · cases h2
        subst hc0 ha0
        have Hall := Lib.hid hall
        have hb := Hst.out.hb
        obtain ⟨ab, cb, bb, ob, e0', -, -, hadr, -, hcell⟩ := Hi0.out
        simp only [Value.slice.injEq] at e0'
        obtain ⟨rfl, -, rfl⟩ := e0'
        obtain rfl := hadr (by omega)
        have cx := below_cell hb (hcell k hlt)
        obtain ⟨x, hx⟩ : ∃ x, L.getD k 0 = x := ⟨_, rfl⟩
        rw [hx] at cx
        have Hx := Lib.hid hx
        clear hadr hcell hb hx hall
        have Hbad := Lib.hid (fun (hbad : ¬ (0 ≤ x ∧ x < n)) => (show NodI n L 0 a (k + 1) 3 k from .inr ⟨rfl, .inr ⟨k, hlt, Hall.out, by rw [Hx.out]; exact hbad, rfl, rfl⟩⟩))
        have HD := Lib.hid (fun m => Hst.out.below (Below.drewN' (Below.refl wr.heap.size wr) m))
        have HF := Lib.hid (fun m => Hfv.out.below (Below.drewN' (Below.refl wr.heap.size wr) m))
        have Hput := Lib.hid (fun m => ((HD.out m).below (below1 _ (Obj.cells #[.int .i64 3, .int .i64 (k : Int)] 27))).fault He0.out n1 (.int .i64 3) (.int .i64 (k : Int)))
        have Hfut := Lib.hid (fun m => ((HF.out m).below (below1 _ (Obj.cells #[.int .i64 3, .int .i64 (k : Int)] 27))).put 3 (k : Int))
        by_cases x1 : x < 0
        · have X1 := Lib.hid x1
          go_upto_region 5 with fail
          go_big_quiet (fail)
          clear cx
          clear f0 f1 g0 g1 l1
          obtain ⟨k0, k1, k2, k3, k4⟩ := ((HF.out nq).below (below1 _ (Obj.cells #[.int .i64 3, .int .i64 (k : Int)] 27))).facts
          go_wp2_with (go_at_call 15; refine (F_any _ _ _).mono ?_; rintro e wf ⟨rfl, rfl⟩)
          go_roundg (L.length - (k + 1))
          case measure => go_light; omega
          case rel => exact ⟨k + 1, 3, k, by omega, rfl, by go_num, (Hput.out nq), (Hfut.out nq), Hbad.out (by have := X1.out; omega)⟩
        · by_cases x2 : n ≤ x
          · have X2 := Lib.hid x2
            go_upto_region 5 with fail
            go_big_quiet (fail)
            clear cx
            clear f0 f1 g0 g1 l1
            obtain ⟨k0, k1, k2, k3, k4⟩ := ((HF.out nq).below (below1 _ (Obj.cells #[.int .i64 3, .int .i64 (k : Int)] 27))).facts
            go_wp2_with (go_at_call 15; refine (F_any _ _ _).mono ?_; rintro e wf ⟨rfl, rfl⟩)
            go_roundg (L.length - (k + 1))
            case measure => go_light; omega
            case rel => exact ⟨k + 1, 3, k, by omega, rfl, by go_num, (Hput.out nq), (Hfut.out nq), Hbad.out (by have := X2.out; omega)⟩
          · have X1 := Lib.hid x1
            have X2 := Lib.hid x2
            go_upto_region 5 with fail
            go_big_quiet (fail)
            clear cx
            go_wp2
            go_roundg (L.length - (k + 1))
            case measure => go_light; omega
            case rel => exact ⟨k + 1, 0, 0, by omega, rfl, by go_num, HD.out nq, HF.out nq, .inr ⟨rfl, .inl ⟨rfl, rfl, fun j hj => by
              by_cases e : j = k
              · subst e; rw [Hx.out]; have := X1.out; have := X2.out; omega
              · exact Hall.out j (by omega)⟩⟩⟩
      · have q : (cf == 0) = false := by rw [beq_eq_false_iff_ne]; exact hcf
        have Hlk := Lib.hid (NodI.look Hs.out Hno.out (.inl hcf))
        obtain ⟨p0, p1, p2⟩ := Hst.out.put (.int .i64 cf) (.int .i64 af)
        clear hcf
        go_wp2
        exact bodyPost_ret (v := .agg #[.int .i64 cf, .int .i64 af]) (by simp [results, Try.results24, go_sem, p0, p1]) rfl ⟨cf, af, Hlk.out, rfl, p2⟩
    · have Hlk := Lib.hid (NodI.look Hs.out Hno.out (.inr (by omega)))
      obtain ⟨p0, p1, p2⟩ := Hst.out.put (.int .i64 cf) (.int .i64 af)
      go_wp2
      exact bodyPost_ret (v := .agg #[.int .i64 cf, .int .i64 af]) (by simp [results, Try.results24, go_sem, p0, p1]) rfl ⟨cf, af, Hlk.out, rfl, p2⟩

end Go.Proofs.Ytnmljgjegodkaaa
