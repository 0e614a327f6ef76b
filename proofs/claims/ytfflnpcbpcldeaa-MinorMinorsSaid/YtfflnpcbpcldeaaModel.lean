/- arborref.Model. -/
import Derived.Test.YtfflnpcbpcldeaaParts
import Derived.Test.YtfflnpcbpcldeaaTryF
namespace Go.Proofs.Ytfflnpcbpcldeaa
open Go.RowKit

/-- Outside set k. -/
def outK (N : Nat) (f : List Nat) (k : Nat) (v : Nat) : Bool := decide (v < N) && !decide (f.getD v 0 = k)
/-- Inside set k. -/
def isK (f : List Nat) (k : Nat) (v : Nat) : Bool := decide (f.getD v 0 = k)
/-- Set k is there, and hangs together. -/
def SetOk (N : Nat) (G : Nat → Nat → Bool) (f : List Nat) (k : Nat) : Prop := cnt (isK f k) N ≠ 0 ∧ partsF N G (outK N f k) = 1
/-- An edge between set a + 1 and set b + 1. -/
def condE (G : Nat → Nat → Bool) (f : List Nat) (a b x y : Nat) : Bool := G x y && decide (f.getD x 0 = a + 1) && decide (f.getD y 0 = b + 1)
def EdgeOk (N : Nat) (G : Nat → Nat → Bool) (f : List Nat) (a b : Nat) : Prop := ∃ x y, x < N ∧ y < N ∧ condE G f a b x y = true
/-- Nodes in sets as those of a minor must be. -/
def ModelP (N M : Nat) (G H : Nat → Nat → Bool) (f : List Nat) : Prop := (∀ k, 1 ≤ k → k ≤ M → SetOk N G f k) ∧ ∀ a b, a < M → b < a → H a b = true → EdgeOk N G f a b
open Classical in
noncomputable def modelB (N M : Nat) (G H : Nat → Nat → Bool) (f : List Nat) : Bool := decide (ModelP N M G H f)
theorem modelB_yes {N M : Nat} {G H : Nat → Nat → Bool} {f : List Nat} (h : ModelP N M G H f) : modelB N M G H f = true := by unfold modelB; simpa using h
theorem modelB_no {N M : Nat} {G H : Nat → Nat → Bool} {f : List Nat} (h : ¬ ModelP N M G H f) : modelB N M G H f = false := by unfold modelB; simpa using h

open Classical in
/-- One of the pairs ahead of (v, y). -/
noncomputable def metB (N : Nat) (c : Nat → Nat → Bool) (v y : Nat) : Bool := decide (∃ p q, (p < v ∧ q < N ∨ p = v ∧ q < y) ∧ c p q = true)
theorem metB_iff {N : Nat} {c : Nat → Nat → Bool} {v y : Nat} : metB N c v y = true ↔ ∃ p q, (p < v ∧ q < N ∨ p = v ∧ q < y) ∧ c p q = true := by unfold metB; simp
theorem metB_zero {N : Nat} {c : Nat → Nat → Bool} : metB N c 0 0 = false := by
  cases h : metB N c 0 0
  · rfl
  · obtain ⟨p, q, h1, _⟩ := metB_iff.1 h; omega
theorem metB_step {N : Nat} {c : Nat → Nat → Bool} {v y : Nat} : metB N c v (y + 1) = (metB N c v y || c v y) := by
  rw [Bool.eq_iff_iff, Bool.or_eq_true, metB_iff, metB_iff]
  constructor
  · rintro ⟨p, q, h1, h2⟩
    by_cases e : p = v ∧ q = y
    · obtain ⟨rfl, rfl⟩ := e; exact Or.inr h2
    · exact Or.inl ⟨p, q, by omega, h2⟩
  · rintro (⟨p, q, h1, h2⟩ | h)
    · exact ⟨p, q, by omega, h2⟩
    · exact ⟨v, y, by omega, h⟩
theorem metB_next {N : Nat} {c : Nat → Nat → Bool} {v : Nat} : metB N c (v + 1) 0 = metB N c v N := by
  rw [Bool.eq_iff_iff, metB_iff, metB_iff]
  constructor
  · rintro ⟨p, q, h1, h2⟩; exact ⟨p, q, by omega, h2⟩
  · rintro ⟨p, q, h1, h2⟩; exact ⟨p, q, by omega, h2⟩

theorem RcSt.shut {w wr : World} {bI N : Nat} {I S : Nat → Bool} (h : RcSt w wr bI N I) (hN : N ≤ 100) (e : ∀ k, k < N → I k = S k) (e2 : ∀ k, N ≤ k → S k = false) : HasShut wr (.slice (some ⟨bI, 0, none⟩) N N) S :=
  ⟨_, N, N, bI, 0, rfl, Nat.le_refl _, by omega, fun _ => rfl, fun j hj => by rw [Nat.zero_add, h.row.cell hj]; simp [rb, e j hj], e2⟩

set_option maxHeartbeats 6400000 in
set_option maxRecDepth 100000 in
theorem model_any (N M : Nat) (G H : Nat → Nat → Bool) (f : List Nat) (gv hv s : Value) (w : World) (hN : N ≤ 100) (hM : M ≤ 100) (hf : f.length = N) (hfx : ∀ x ∈ f, x ≤ 100) (hi : IsInts w s (ints f)) (hg : HasGrid w gv N G) (hh : HasGrid w hv M H) :
    Calls Try.prog 79 #[gv, hv, s] w fun e w' => e = .returned (.bool (modelB N M G H f)) ∧ Below w.heap.size w w' := by
  have Hg := Lib.hid hg
  have Hh := Lib.hid hh
  obtain ⟨B, ga, gc, gb, go, R0, rfl, -⟩ := hg
  obtain ⟨B', ha, hc, hb', ho, R0', rfl, -⟩ := hh
  have hlen : (ints f).length = N := by rw [ints_length]; exact hf
  obtain ⟨sa, scap, sb, so, rfl, -⟩ := id hi
  rw [hlen] at hi ⊢
  have Hi := Lib.hid hi
  clear hlen hi
  have hmk := run_make_row' (P := Try.prog) 38 4 (.bool false) 1 Try.underlying38 info4 rfl .i64 .i64 N (by omega) (by omega)
  have hget : ∀ v, v < N → f.getD v 0 ≤ 100 := fun v hv => hfx _ (by rw [List.getD_eq_getElem?_getD, List.getElem?_eq_getElem (by omega)]; exact List.getElem_mem (by omega))
  have Hget := Lib.hid hget
  have Hf := Lib.hid hf
  clear hfx hget hf
  go_enter Try.func79, Try.ntmps79
  go_wp2
  go_loopg [7] M (fun g s7 wr => ∃ k : Nat, 1 ≤ k ∧ k ≤ M + 1 ∧ g = M + 1 - k ∧ s7 = .int .i64 k ∧ Below w.heap.size w wr ∧ ∀ q, 1 ≤ q → q < k → SetOk N G f q)
  case atStart => exact ⟨1, Nat.le_refl _, by omega, by omega, by go_num, Below.refl _ _, fun q h1 h2 => by omega⟩
  case round =>
    obtain ⟨k, hk1, hkM, rfl, rfl, hb, hok⟩ := hrel
    have Hb := Lib.hid hb
    have Hok := Lib.hid hok
    clear hok
    by_cases hlt : k ≤ M
    · have hr1 := World.rowIs_made wr (.bool false) N 4
      have R1 := Lib.hid (RcSt.mk (bI := wr.heap.size) (I := fun q => if q < 0 then outK N f k q else false) (below1 wr (.cells (madeCells #[.bool false] N) 4)) (Nat.le_refl _) (hr1.congr fun q _ => by simp [rb]))
      clear hr1 hb
      go_wp2
      obtain ⟨wo, rfl⟩ : ∃ wo : World, wo = wr := ⟨_, rfl⟩
      generalize wo.alloc (.cells (madeCells #[.bool false] N) 4) = w3 at *
      go_loopg [9, 10] N (fun g s9 s10 wr => ∃ v : Nat, v ≤ N ∧ g = N - v ∧ s10 = .int .i64 v ∧ s9 = .int .i64 (cnt (isK f k) v : Int) ∧ RcSt wo wr wo.heap.size N (fun q => if q < v then outK N f k q else false))
      case atStart => exact ⟨0, Nat.zero_le _, rfl, rfl, rfl, R1.out⟩
      case round =>
        obtain ⟨v, hv, rfl, rfl, rfl, hst⟩ := hrel
        have hcl := cnt_le (isK f k) v
        have Hst := Lib.hid hst
        by_cases hvN : v < N
        · obtain ⟨lb, lo, rfl, hl1⟩ := ints_at' Hi.out (Hb.out.trans (hst.hb.mono Hb.out.size)) (k := v) (by have := Hf.out; omega)
          have hf100 := Hget.out v hvN
          have t1 := hst.row.cell hvN
          have f1 := hst.row.frozen v
          have l1 := hst.row.lt
          have Set := Lib.hid (fun x => hst.set v x)
          simp only [rb, if_neg (Nat.lt_irrefl v)] at t1
          have fin : ∀ x, x = outK N f k v → RcSt wo (wr.setCell ⟨wo.heap.size, v, none⟩ (.bool x)) wo.heap.size N (fun q => if q < v + 1 then outK N f k q else false) := fun x hx => by
            have h := Set.out x
            refine ⟨h.hb, h.nI, row_rb h.row fun q _ => ?_⟩
            by_cases e : q = v
            · subst e; rw [if_pos rfl, if_pos (by omega)]; exact hx
            · rw [if_neg e]
              by_cases e2 : q < v
              · rw [if_pos e2, if_pos (by omega)]
              · rw [if_neg e2, if_neg (by omega)]
          have Fin := Lib.hid fin
          have Hx0 := Lib.hid (show outK N f k v = !decide (f.getD v 0 = k) by unfold outK; rw [decide_eq_true hvN, Bool.true_and])
          have Hcs := Lib.hid (show cnt (isK f k) (v + 1) = cnt (isK f k) v + (if decide (f.getD v 0 = k) = true then 1 else 0) from rfl)
          clear hst fin
          generalize f.getD v 0 = x at *
          by_cases hx : x = k
          · have q1 : ((x : Int) != (k : Int)) = false := by subst hx; simp
            have Hx := Lib.hid hx
            clear hx
            go_wp2
            go_roundg (N - (v + 1))
            case measure => go_light; omega
            case rel => exact ⟨v + 1, by omega, rfl, by go_num, by rw [Hcs.out, if_pos (by simp [Hx.out])]; go_num, Fin.out _ (by rw [Hx0.out]; simp [Hx.out])⟩
          · have q1 : ((x : Int) != (k : Int)) = true := by simp; omega
            have Hx := Lib.hid hx
            clear hx
            go_wp2
            go_roundg (N - (v + 1))
            case measure => go_light; omega
            case rel => exact ⟨v + 1, by omega, rfl, by go_num, by rw [Hcs.out, if_neg (by simp [Hx.out])]; rfl, Fin.out _ (by rw [Hx0.out]; simp [Hx.out])⟩
        · obtain rfl : v = N := by omega
          have hb2 := Hb.out.trans (Hst.out.hb.mono Hb.out.size)
          have Hb2 := Lib.hid hb2
          have Hsh := Lib.hid (Hst.out.shut hN (S := outK v f k) (fun q hq => by rw [if_pos hq]) (fun q hq => by unfold outK; rw [decide_eq_false (by omega)]; rfl))
          clear hst hb2
          by_cases hz : cnt (isK f k) v = 0
          · have q1 : ((cnt (isK f k) v : Int) == 0) = true := by rw [hz]; rfl
            have Hz := Lib.hid hz
            clear hz hcl
            go_wp2
            go_ret
            exact ⟨ret_bool (modelB_no fun h => (h.1 k hk1 hlt).1 Hz.out).symm, Hb2.out⟩
          · have q1 : ((cnt (isK f k) v : Int) == 0) = false := by simp; omega
            have Hz := Lib.hid hz
            clear hz hcl
            go_wp2_with fail
            refine (parts_any v G (outK v f k) _ _ wr hN (Hg.out.below Hb2.out) Hsh.out).mono ?_
            rintro e w6 ⟨rfl, hb6⟩
            have Hb6 := Lib.hid (Hb2.out.trans (hb6.mono Hb2.out.size))
            clear hb6
            by_cases hp : partsF v G (outK v f k) = 1
            · have q2 : ((partsF v G (outK v f k) : Int) != 1) = false := by rw [hp]; rfl
              have Hp := Lib.hid hp
              clear hp
              go_wp2
              go_roundg (M + 1 - (k + 1))
              case measure => go_light; omega
              case rel => exact ⟨k + 1, by omega, by omega, rfl, by go_num, Hb6.out, fun q h1 h2 => by
                by_cases e : q = k
                · subst e; exact ⟨Hz.out, Hp.out⟩
                · exact Hok.out q h1 (by omega)⟩
            · have q2 : ((partsF v G (outK v f k) : Int) != 1) = true := by simp; omega
              have Hp := Lib.hid hp
              clear hp
              go_wp2
              go_ret
              exact ⟨ret_bool (modelB_no fun h => Hp.out (h.1 k hk1 hlt).2).symm, Hb6.out⟩
    · obtain rfl : k = M + 1 := by omega
      clear hmk hb
      go_wp2
      obtain ⟨wo, rfl⟩ : ∃ wo : World, wo = wr := ⟨_, rfl⟩
      go_loopg [11] M (fun g s11 wr => ∃ a : Nat, a ≤ M ∧ g = M - a ∧ s11 = .int .i64 a ∧ wo = wr ∧ ∀ p q, p < a → q < p → H p q = true → EdgeOk N G f p q)
      case atStart => exact ⟨0, Nat.zero_le _, rfl, rfl, rfl, fun p q h => absurd h (Nat.not_lt_zero _)⟩
      case round =>
        obtain ⟨a, ha, rfl, rfl, rfl, hed⟩ := hrel
        have Hed := Lib.hid hed
        clear hed
        by_cases haM : a < M
        · go_wp2
          obtain ⟨w3, rfl⟩ : ∃ w3 : World, w3 = wo := ⟨_, rfl⟩
          go_loopg [12] a (fun g s12 wr => ∃ b : Nat, b ≤ a ∧ g = a - b ∧ s12 = .int .i64 b ∧ w3 = wr ∧ ∀ q, q < b → H a q = true → EdgeOk N G f a q)
          case atStart => exact ⟨0, Nat.zero_le _, rfl, rfl, rfl, fun q h => absurd h (Nat.not_lt_zero _)⟩
          case round =>
            obtain ⟨b, hba, rfl, rfl, rfl, hed2⟩ := hrel
            have Hed2 := Lib.hid hed2
            clear hed2
            by_cases hlt2 : b < a
            · obtain ⟨bb, oo, cc, rr, he, c1, c2⟩ := (Hh.out.below Hb.out).entry haM (show b < M by omega)
              simp only [Value.slice.injEq, true_and] at he
              obtain ⟨rfl, rfl⟩ := he
              cases hH : H a b
              · rw [hH] at c2
                have HH := Lib.hid hH
                clear hH
                go_wp2
                go_roundg (a - (b + 1))
                case measure => go_light; omega
                case rel => exact ⟨b + 1, by omega, rfl, by go_num, rfl, fun q hq hh => by
                  by_cases e : q = b
                  · subst e; rw [HH.out] at hh; cases hh
                  · exact Hed2.out q (by omega) hh⟩
              · rw [hH] at c2
                have HH := Lib.hid hH
                clear hH
                go_wp2
                clear c1 c2
                obtain ⟨w4, rfl⟩ : ∃ w4 : World, w4 = w3 := ⟨_, rfl⟩
                go_loopg [13, 14] N (fun g s13 s14 wr => ∃ v : Nat, v ≤ N ∧ g = N - v ∧ s14 = .int .i64 v ∧ s13 = .bool (metB N (condE G f a b) v 0) ∧ w4 = wr)
                case atStart => exact ⟨0, Nat.zero_le _, rfl, rfl, by rw [metB_zero], rfl⟩
                case round =>
                  obtain ⟨v, hv, rfl, rfl, rfl, rfl⟩ := hrel
                  by_cases hvN : v < N
                  · go_wp2
                    obtain ⟨w5, rfl⟩ : ∃ w5 : World, w5 = w4 := ⟨_, rfl⟩
                    go_loopg [13, 15] N (fun g s13 s15 wr => ∃ y : Nat, y ≤ N ∧ g = N - y ∧ s15 = .int .i64 y ∧ s13 = .bool (metB N (condE G f a b) v y) ∧ w5 = wr)
                    case atStart => exact ⟨0, Nat.zero_le _, rfl, rfl, rfl, rfl⟩
                    case round =>
                      obtain ⟨y, hy, rfl, rfl, rfl, rfl⟩ := hrel
                      by_cases hyN : y < N
                      · obtain ⟨gb1, go1, gc1, gr1, he, c1, c2⟩ := (Hg.out.below Hb.out).entry hvN hyN
                        simp only [Value.slice.injEq, true_and] at he
                        obtain ⟨rfl, rfl⟩ := he
                        obtain ⟨lb, lo, rfl, i1⟩ := ints_at' Hi.out Hb.out (k := v) (by have := Hf.out; omega)
                        obtain ⟨lb2, lo2, he2, i2⟩ := ints_at' Hi.out Hb.out (k := y) (by have := Hf.out; omega)
                        obtain ⟨rfl, rfl⟩ : lb = lb2 ∧ lo = lo2 := by simpa using he2
                        have h1 := Hget.out v hvN
                        have h2 := Hget.out y hyN
                        have Hms := Lib.hid (metB_step (N := N) (c := condE G f a b) (v := v) (y := y))
                        have Hco := Lib.hid (show condE G f a b v y = (G v y && decide (f.getD v 0 = a + 1) && decide (f.getD y 0 = b + 1)) from rfl)
                        generalize hgx : G v y = gx at *
                        generalize hfv : f.getD v 0 = fv at *
                        generalize hfy : f.getD y 0 = fy at *
                        have Hgx := Lib.hid hgx
                        have Hfv := Lib.hid hfv
                        have Hfy := Lib.hid hfy
                        clear hgx hfv hfy
                        cases hm : metB N (condE G f a b) v y
                        · have Hm := Lib.hid hm
                          clear hm
                          cases gx
                          · go_wp2
                            go_roundg (N - (y + 1))
                            case measure => go_light; omega
                            case rel => exact ⟨y + 1, by omega, rfl, by go_num, by rw [Hms.out, Hco.out]; simp [Hm.out], rfl⟩
                          · by_cases hx : fv = a + 1
                            · have q1 : ((fv : Int) == (a : Int) + 1) = true := by simp; omega
                              have Hx := Lib.hid hx
                              clear hx
                              by_cases hy2 : fy = b + 1
                              · have q2 : ((fy : Int) == (b : Int) + 1) = true := by simp; omega
                                have Hy := Lib.hid hy2
                                clear hy2
                                go_wp2
                                go_roundg (N - (y + 1))
                                case measure => go_light; omega
                                case rel => exact ⟨y + 1, by omega, rfl, by go_num, by rw [Hms.out, Hco.out]; simp [Hm.out, Hx.out, Hy.out], rfl⟩
                              · have q2 : ((fy : Int) == (b : Int) + 1) = false := by simp; omega
                                have Hy := Lib.hid hy2
                                clear hy2
                                go_wp2
                                go_roundg (N - (y + 1))
                                case measure => go_light; omega
                                case rel => exact ⟨y + 1, by omega, rfl, by go_num, by rw [Hms.out, Hco.out]; simp [Hm.out, Hx.out, Hy.out], rfl⟩
                            · have q1 : ((fv : Int) == (a : Int) + 1) = false := by simp; omega
                              have Hx := Lib.hid hx
                              clear hx
                              go_wp2
                              go_roundg (N - (y + 1))
                              case measure => go_light; omega
                              case rel => exact ⟨y + 1, by omega, rfl, by go_num, by rw [Hms.out, Hco.out]; simp [Hm.out, Hx.out], rfl⟩
                        · have Hm := Lib.hid hm
                          clear hm
                          go_wp2
                          go_roundg (N - (y + 1))
                          case measure => go_light; omega
                          case rel => exact ⟨y + 1, by omega, rfl, by go_num, by rw [Hms.out, Hco.out]; simp [Hm.out], rfl⟩
                      · obtain rfl : y = N := by omega
                        go_wp2
                        go_roundg (y - (v + 1))
                        case measure => go_light; omega
                        case rel => exact ⟨v + 1, by omega, rfl, by go_num, by rw [metB_next], rfl⟩
                  · obtain rfl : v = N := by omega
                    cases hm : metB v (condE G f a b) v 0
                    · have Hm := Lib.hid hm
                      clear hm
                      go_wp2
                      go_ret
                      exact ⟨ret_bool (modelB_no fun h => by
                        obtain ⟨x, y, hx, hy, hc⟩ := h.2 a b haM hlt2 HH.out
                        have := (metB_iff (N := v) (c := condE G f a b) (v := v) (y := 0)).2 ⟨x, y, Or.inl ⟨hx, hy⟩, hc⟩
                        rw [Hm.out] at this; cases this).symm, Hb.out⟩
                    · have Hm := Lib.hid hm
                      clear hm
                      go_wp2
                      go_roundg (a - (b + 1))
                      case measure => go_light; omega
                      case rel => exact ⟨b + 1, by omega, rfl, by go_num, rfl, fun q hq hh => by
                        by_cases e : q = b
                        · subst e
                          obtain ⟨x, y, hxy, hc⟩ := metB_iff.1 Hm.out
                          exact ⟨x, y, by omega, by omega, hc⟩
                        · exact Hed2.out q (by omega) hh⟩
            · obtain rfl : b = a := by omega
              go_wp2
              go_roundg (M - (b + 1))
              case measure => go_light; omega
              case rel => exact ⟨b + 1, by omega, rfl, by go_num, rfl, fun p q hp hq hh => by
                by_cases e : p = b
                · subst e; exact Hed2.out q hq hh
                · exact Hed.out p q (by omega) hq hh⟩
        · obtain rfl : a = M := by omega
          go_wp2
          go_ret
          exact ⟨ret_bool (modelB_yes ⟨fun k h1 h2 => Hok.out k h1 (by omega), Hed.out⟩).symm, Hb.out⟩

end Go.Proofs.Ytfflnpcbpcldeaa
