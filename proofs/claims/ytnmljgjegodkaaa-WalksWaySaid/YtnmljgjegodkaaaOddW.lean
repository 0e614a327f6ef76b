/- walks.odd: the nodes with an odd number of edges. -/
import Derived.Test.YtnmljgjegodkaaaJoiW
namespace Go.Proofs.Ytnmljgjegodkaaa
open Go.RowKit

/-- Those below i. -/
abbrev oddTo (N : Nat) (G : Nat → Nat → Bool) (i : Nat) : List Nat := (List.range i).filter fun v => decide (cntN N (G v) % 2 = 1)
theorem oddTo_succ (N : Nat) (G : Nat → Nat → Bool) (i : Nat) : oddTo N G (i + 1) = oddTo N G i ++ if cntN N (G i) % 2 = 1 then [i] else [] := by
  unfold oddTo
  rw [List.range_succ, List.filter_append]
  by_cases h : cntN N (G i) % 2 = 1 <;> simp [h]

set_option maxHeartbeats 3200000 in
set_option maxRecDepth 100000 in
theorem wodd_any {l : List (Int × Int)} {N : Nat} (hgood : GoodGraph N l) (s : Value) (w : World) (h : IsEdges w s l) :
    Calls Try.prog 49 #[.agg #[.int .i64 (N : Int), s]] w fun e w' => ∃ x, e = .returned x ∧ w'.ownsRow w.heap.size 3 1 x (oddL N (adj l)).length (nvals (oddL N (adj l))) ∧ Below w.heap.size w w' := by
  have hN : N ≤ 100 := by have := hgood.hi; omega
  have Hg := Lib.hid hgood
  have b1 := below1 w (Obj.cells #[.int .i64 (N : Int), s] 24)
  have hc := two_cells w (.int .i64 (N : Int)) s 24
  have H1 := Lib.hid (h.below b1)
  obtain ⟨ad, cap, rfl⟩ := h.form
  have Hb1 := Lib.hid b1
  have cn := hc.1
  have cs := hc.2
  clear hgood b1 hc h
  go_enter Try.func49, Try.ntmps49
  go_upto_region 2 with fail
  generalize w.alloc (Obj.cells #[.int .i64 (N : Int), .slice ad l.length cap] 24) = w1 at *
  go_wp2_with fail
  refine (glists_any Hg.out _ _ H1.out).mono ?_
  rintro e w5 ⟨B, V, rfl, hnb, -, hb5⟩
  have Hnb := Lib.hid hnb
  have Hb5 := Lib.hid (Hb1.out.trans (hb5.mono Hb1.out.size))
  clear hnb hb5 cn cs
  go_wp2
  go_loopg [3, 9] N (fun g s3 s9 wr => ∃ i : Nat, i ≤ N ∧ g = N - i ∧ s9 = .int .i64 (i : Int) ∧ wr.ownsRow w5.heap.size 3 1 s3 (oddTo N (adj l) i).length (nvals (oddTo N (adj l) i)) ∧ Below w5.heap.size w5 wr)
  case atStart => exact ⟨0, Nat.zero_le _, rfl, rfl, World.ownsRow_nil _ _ _ _, Below.refl _ _⟩
  case round =>
    obtain ⟨i, hi, rfl, rfl, ho, hb⟩ := hrel
    obtain ⟨a2, c2, rfl⟩ := ownsRow_form ho
    have hz := hb.size
    have Ho := Lib.hid ho; have Hb := Lib.hid hb
    by_cases hlt : i < N
    · have hnbw := Hnb.out.below hb
      obtain ⟨au, cu, eu⟩ := hnbw.form hlt
      have t1 := hnbw.ro.cell hlt
      rw [eu, nbrs_length] at t1
      have hsu := oddTo_succ N (adj l) i
      have hcl : (oddTo N (adj l) i).length ≤ 100 := by have := List.length_filter_le (fun v => decide (cntN N (adj l v) % 2 = 1)) (List.range i); rw [List.length_range] at this; exact Nat.le_trans this (by omega)
      have hcn := cntN_le N (adj l i)
      clear ho hb hnbw eu
      generalize cntN N (adj l i) = d at *
      generalize hcc : oddTo N (adj l) i = cc at *
      have Hcc := Lib.hid hcc
      clear hcc
      by_cases hd : d % 2 = 1
      · rw [if_pos hd] at hsu
        have Hsu := Lib.hid hsu
        have htm1 : ((d : Int) % 2 == 1) = true := by rw [beq_iff_eq]; omega
        clear hsu hd
        go_wp2_with (at_builtin; refine wpList_append_has rfl (.tmp 18) (.tmp 20) 29 rfl w5.heap.size 3 (.int .i64 0) 8 Try.underlying29 info3 rfl (.slice a2 cc.length c2) cc.length (nvals cc) rfl (Ho.out.alloc _) _ 1 (nvals [i]) rfl (HasCells.one _ _ _ rfl) (by omega) (by omega) (by simp; omega) ?_; intro a5 c5 w6 ho5 hg5; have Ho5 := Lib.hid ho5; have Hb6 := Lib.hid ((Hb.out.alloc hz (Obj.cells #[.int .i64 (i : Int)] 3)).grown hg5 (by simp; omega) (fun g e => (Ho.out.lt g e).1)); clear ho5 hg5)
        go_roundg (N - (i + 1))
        case measure => go_light; omega
        case rel => exact ⟨i + 1, by omega, rfl, by go_num, by rw [Hsu.out]; have h5 := Ho5.out; simpa [nvals, ints] using h5, Hb6.out⟩
      · rw [if_neg hd, List.append_nil] at hsu
        have Hsu := Lib.hid hsu
        have htm1 : ((d : Int) % 2 == 1) = false := by rw [beq_eq_false_iff_ne]; omega
        clear hsu hd
        go_wp2
        go_roundg (N - (i + 1))
        case measure => go_light; omega
        case rel => exact ⟨i + 1, by omega, rfl, by go_num, by rw [Hsu.out]; exact Ho.out, Hb.out⟩
    · obtain rfl : N = i := by omega
      clear ho hb
      go_wp2
      exact bodyPost_ret (v := .slice a2 (oddTo N (adj l) N).length c2) (by simp [results, Try.results49, go_sem]) rfl ⟨_, rfl, ownsRow_low Ho.out Hb5.out.size, Hb5.out.trans (Hb.out.mono Hb5.out.size)⟩

end Go.Proofs.Ytnmljgjegodkaaa
