/- walks.joined: do all edges hang together; the first node that has one. -/
import Derived.Test.YtnmljgjegodkaaaJoiP
import Derived.Test.YtnmljgjegodkaaaWFarW
import Derived.Test.YtnmljgjegodkaaaGLists
namespace Go.Proofs.Ytnmljgjegodkaaa
open Go.RowKit

theorem FarOk.rch {N a : Nat} {G : Nat → Nat → Bool} {F : Nat → Int} (h : FarOk N G a F) : ∀ (d v : Nat), v < N → F v = (d : Int) → Rch N G (fun _ => false) a v := by
  intro d
  induction d with
  | zero => intro v hv hF; rw [h.zero v hv hF]; exact .refl
  | succ d ih =>
    intro v hv hF
    obtain ⟨u, h1, h2, h3⟩ := h.par v hv (by rw [hF]; push_cast; omega)
    exact .step (ih u h1 (by rw [h2, hF]; push_cast; omega)) h1 hv h3 rfl
theorem FarOk.rch_iff {N a : Nat} {G : Nat → Nat → Bool} {F : Nat → Int} (h : FarOk N G a F) {v : Nat} (hv : v < N) : 0 ≤ F v ↔ Rch N G (fun _ => false) a v := by
  constructor
  · intro h0
    obtain ⟨d, hd⟩ := Int.eq_ofNat_of_zero_le h0
    exact h.rch d v hv hd
  · intro hr
    induction hr with
    | refl => rw [h.at']; omega
    | step _ h1 h2 h3 _ ih => exact (h.fin _ _ h1 h2 h3 (ih h1)).1
section
variable {l : List (Int × Int)} {N : Nat}
theorem edge_ag (hg : GoodGraph N l) {k X Y : Nat} (hk : k < l.length) (he : l.getD k (0, 0) = ((X : Int), (Y : Int))) : AG N (adj l) X Y := by
  obtain ⟨X', Y', he', hX, hY, -, -⟩ := hg.at hk
  rw [he] at he'
  simp only [Prod.mk.injEq, Int.ofNat_inj] at he'
  obtain ⟨rfl, rfl⟩ := he'
  refine ⟨hX, hY, ?_⟩
  unfold adj
  refine hasE_yes hk ?_
  rw [he]
  exact .inl ⟨rfl, rfl⟩
theorem ag_edge {x y : Nat} (h : adj l x y = true) : ∃ k, k < l.length ∧ (l.getD k (0, 0) = ((x : Int), (y : Int)) ∨ l.getD k (0, 0) = ((y : Int), (x : Int))) := by
  unfold adj hasE at h
  obtain ⟨f, hf, hm⟩ := List.any_eq_true.1 h
  obtain ⟨k, hk, e⟩ := mem_getD (d := ((0 : Int), (0 : Int))) hf
  have hm := of_decide_eq_true hm
  unfold Meets at hm
  refine ⟨k, hk, ?_⟩
  rw [e]
  rcases hm with ⟨h1, h2⟩ | ⟨h1, h2⟩
  · exact .inl (Prod.ext h1 h2)
  · right
    exact Prod.ext (by simpa using h1) (by simpa using h2)
theorem hang_iff (hg : GoodGraph N l) {f : Nat} {F : Nat → Int} (hF : FarOk N (adj l) f F) (hend : ∃ z, AG N (adj l) f z) : HangE N (adj l) ↔ ∀ k, k < l.length → 0 ≤ F (l.getD k (0, 0)).1.toNat := by
  have hG := good_gr hg
  obtain ⟨z, hz⟩ := hend
  constructor
  · intro h k hk
    obtain ⟨X, Y, he, hX, hY, -, -⟩ := hg.at hk
    rw [he]
    simp only [Int.toNat_natCast]
    exact (hF.rch_iff hX).2 (h f z X Y hz (edge_ag hg hk he))
  · intro h x y a b hxy hab
    have key : ∀ x y, AG N (adj l) x y → Rch N (adj l) (fun _ => false) f x := by
      intro x y hxy
      obtain ⟨k, hk, he⟩ := ag_edge hxy.2.2
      have h1 := h k hk
      rcases he with he | he
      · rw [he] at h1
        simp only [Int.toNat_natCast] at h1
        exact (hF.rch_iff hxy.1).1 h1
      · rw [he] at h1
        simp only [Int.toNat_natCast] at h1
        exact ((hF.rch_iff hxy.2.1).1 h1).trans (.step .refl hxy.2.1 hxy.1 (hG.nbs.sym _ _ hxy).2.2 rfl)
    exact (rch_symS hG.sym rfl (key x y hxy)).trans (key a b hab)
theorem nbrs_is (hg : GoodGraph N l) : (∀ v, v < N → ∀ u, u ∈ nbrs l N v ↔ u < N ∧ adj l v u = true) ∧ ∀ v, v < N → (nbrs l N v).length ≤ N :=
  ⟨fun v _ u => by unfold nbrs; rw [List.mem_filter, List.mem_range], fun v _ => by rw [nbrs_length]; exact cntN_le _ _⟩
end
open Classical in
noncomputable def hangB (N : Nat) (G : Nat → Nat → Bool) : Bool := decide (HangE N G)
theorem hangB_iff {N : Nat} {G : Nat → Nat → Bool} : hangB N G = true ↔ HangE N G := by unfold hangB; simp
theorem hangB_no {N : Nat} {G : Nat → Nat → Bool} (h : ¬ HangE N G) : hangB N G = false := by unfold hangB; simp [h]
theorem hangB_yes {N : Nat} {G : Nat → Nat → Bool} (h : HangE N G) : hangB N G = true := hangB_iff.2 h

/-- What walks.joined answers. -/
def JoinedPost (l : List (Int × Int)) (N : Nat) (w : World) (e : Ending) (w' : World) : Prop :=
  Below w.heap.size w w' ∧ ((l = [] ∧ e = .returned (.tuple #[.int .i64 (-1), .bool true])) ∨ (0 < l.length ∧ ∃ f : Nat, (∃ z, AG N (adj l) f z) ∧ e = .returned (.tuple #[.int .i64 (f : Int), .bool (hangB N (adj l))])))

set_option maxHeartbeats 6400000 in
set_option maxRecDepth 100000 in
theorem joined_any {l : List (Int × Int)} {N : Nat} (hgood : GoodGraph N l) (s : Value) (w : World) (h : IsEdges w s l) :
    Calls Try.prog 47 #[.agg #[.int .i64 (N : Int), s]] w (JoinedPost l N w) := by
  have hN : N ≤ 100 := by have := hgood.hi; omega
  have hlen := hgood.len
  have Hg := Lib.hid hgood
  have b1 := below1 w (Obj.cells #[.int .i64 (N : Int), s] 24)
  have hc := two_cells w (.int .i64 (N : Int)) s 24
  have H1 := Lib.hid (h.below b1)
  obtain ⟨ad, cap, bb, o, rfl, hcap, hmax, hadr, -, hcell⟩ := h
  have Hb1 := Lib.hid b1
  have Hcell := Lib.hid hcell
  have Hc := Lib.hid hc
  clear hgood b1 hc hcell
  go_enter Try.func47, Try.ntmps47
  go_upto_region 1 with fail
  generalize w.alloc (Obj.cells #[.int .i64 (N : Int), .slice ad l.length cap] 24) = w1 at *
  have cn := Hc.out.1
  have cs := Hc.out.2
  by_cases h0 : l.length = 0
  · have e : l = [] := List.eq_nil_of_length_eq_zero h0
    have z : ((l.length : Int) == 0) = true := by rw [beq_iff_eq]; omega
    have He := Lib.hid e
    clear h0 e hadr
    go_wp2
    exact bodyPost_ret (v := .tuple #[.int .i64 (-1), .bool true]) (by simp [results, Try.results47, go_sem]) rfl ⟨Hb1.out, .inl ⟨He.out, rfl⟩⟩
  · obtain rfl := hadr (by omega)
    have z : ((l.length : Int) == 0) = false := by rw [beq_eq_false_iff_ne]; omega
    have hpos : 0 < l.length := by omega
    clear h0 hadr
    go_wp2
    clear z
    go_loopg [4, 19] l.length (fun g s4 s19 wr => ∃ (k : Nat) (m : Nat), k ≤ l.length ∧ g = l.length - k ∧ s19 = .int .i64 (k : Int) ∧ s4 = .int .i64 (m : Int) ∧ Below w.heap.size w wr ∧ Below w1.heap.size w1 wr ∧ m ≤ N ∧ (0 < k → m < N) ∧ (m < N → ∃ z, AG N (adj l) m z))
    case atStart => exact ⟨0, N, Nat.zero_le _, rfl, rfl, rfl, Hb1.out, Below.refl _ _, Nat.le_refl _, fun h => absurd h (Nat.lt_irrefl _), fun h => absurd h (Nat.lt_irrefl _)⟩
    case round =>
      obtain ⟨k, m, hk, rfl, rfl, rfl, hbw, hb, hm, hpos2, hend⟩ := hrel
      have Hend := Lib.hid hend
      have Hbw := Lib.hid hbw
      clear hend
      by_cases hlt : k < l.length
      · obtain ⟨X, Y, he, hX, hY, hne, -⟩ := Hg.out.at hlt
        obtain ⟨u, v, Hu, cu, cv⟩ := edges_at Hcell.out hbw hlt
        have huv := Hu.out
        rw [he] at huv
        simp only [Prod.mk.injEq] at huv
        obtain ⟨rfl, rfl⟩ := huv
        have hXY := edge_ag Hg.out hlt he
        have hYX := (good_gr Hg.out).nbs.sym _ _ hXY
        have b5 := below1 wr (Obj.cells #[.int .i64 (X : Int), .int .i64 (Y : Int)] 78)
        have Hb5 := Lib.hid (hb.trans (b5.mono hb.size))
        have Hbw5 := Lib.hid (hbw.trans (b5.mono hbw.size))
        obtain ⟨m', hm'⟩ : ∃ m', m' = min (min m X) Y := ⟨_, rfl⟩
        have hmin : ∀ (ts : Array TypeId) (t : TypeId) (w : World), (Builtin.min_ ts t #[.int .i64 (m : Int), .int .i64 (X : Int), .int .i64 (Y : Int)]).run Try.prog w = .ok (.int .i64 (m' : Int)) w := fun ts t w => by
          rw [run_min_int3]
          congr 2
          by_cases k1 : (X : Int) < (m : Int)
          · rw [if_pos k1]; by_cases k2 : (Y : Int) < (X : Int)
            · rw [if_pos k2]; omega
            · rw [if_neg k2]; omega
          · rw [if_neg k1]; by_cases k2 : (Y : Int) < (m : Int)
            · rw [if_pos k2]; omega
            · rw [if_neg k2]; omega
        have Hm' := Lib.hid (show m' < N ∧ ∃ z, AG N (adj l) m' z from by
          refine ⟨by omega, ?_⟩
          have h3 : m' = m ∨ m' = X ∨ m' = Y := by omega
          rcases h3 with e | e | e
          · rw [e]; exact Hend.out (by omega)
          · rw [e]; exact ⟨Y, hXY⟩
          · rw [e]; exact ⟨X, hYX⟩)
        clear b5 he hXY hYX hm' hb
        go_upto_region 7 with fail
        go_wp2
        go_roundg (l.length - (k + 1))
        case measure => go_light; omega
        case rel => exact ⟨k + 1, m', by omega, rfl, by go_num, by first | rfl | go_num, Hbw5.out, Hb5.out, by have := Hm'.out.1; omega, fun _ => Hm'.out.1, fun _ => Hm'.out.2⟩
      · obtain rfl : l.length = k := by omega
        have hmN := hpos2 hpos
        have Hend2 := Lib.hid (Hend.out hmN)
        have cn := below_cell hb Hc.out.1
        have cs := below_cell hb Hc.out.2
        have He := Lib.hid (H1.out.below hb)
        have Hb := Lib.hid hb
        clear hpos2 hb
        go_wp2_with fail
        refine (glists_any Hg.out _ _ He.out).mono ?_
        rintro e w5 ⟨B, V, rfl, hnb, -, hb5⟩
        have Hnb := Lib.hid hnb
        have Hb5 := Lib.hid (Hbw.out.trans (hb5.mono Hbw.out.size)); have Hc5 := Lib.hid (And.intro (below_cell hb5 cn) (below_cell hb5 cs))
        have Hw5 := Lib.hid (Hb.out.trans (hb5.mono Hb.out.size))
        clear hnb hb5 cn cs
        go_wp2_with fail
        refine (wfar_any hN (nbrs_is Hg.out).1 (nbrs_is Hg.out).2 hmN w5 Hnb.out).mono ?_
        rintro e w6 ⟨b6, F, rfl, -, hr6, hF, hb6⟩
        have Hb6 := Lib.hid (Hb5.out.trans (hb6.mono Hb5.out.size))
        have Hw6 := Lib.hid (Hw5.out.trans (hb6.mono Hw5.out.size))
        have Hr6 := Lib.hid hr6; have HF := Lib.hid hF
        have cs6 := below_cell hb6 Hc5.out.2
        have Hhang := Lib.hid (hang_iff Hg.out hF Hend2.out)
        clear hb6 hr6 hF
        go_upto_region 10 with fail
        go_wp2
        clear cs6
        go_loopg [37] l.length (fun g s37 wr => ∃ k : Nat, k ≤ l.length ∧ g = l.length - k ∧ s37 = .int .i64 (k : Int) ∧ Below w6.heap.size w6 wr ∧ ∀ j, j < k → 0 ≤ F (l.getD j (0, 0)).1.toNat)
        case atStart => exact ⟨0, Nat.zero_le _, rfl, rfl, Below.refl _ _, fun j h => absurd h (Nat.not_lt_zero _)⟩
        case round =>
          obtain ⟨j, hj, rfl, rfl, hb, hall⟩ := hrel
          have Hall := Lib.hid hall
          have hbw2 := Hb6.out.trans (hb.mono Hb6.out.size)
          by_cases hlt2 : j < l.length
          · obtain ⟨X, Y, he, hX, hY, hne, -⟩ := Hg.out.at hlt2
            obtain ⟨u, v, Hu, cu, cv⟩ := edges_at Hcell.out hbw2 hlt2
            have huv := Hu.out
            rw [he] at huv
            simp only [Prod.mk.injEq] at huv
            obtain ⟨rfl, rfl⟩ := huv
            have b7 := below1 wr (Obj.cells #[.int .i64 (X : Int), .int .i64 (Y : Int)] 78)
            have Hb7 := Lib.hid (hb.trans (b7.mono hb.size))
            have Hbw7 := Lib.hid (hbw2.trans (b7.mono hbw2.size))
            have cF := ((Hr6.out.of_block (hb.block _ Hr6.out.lt)).of_block (b7.block _ (Nat.lt_of_lt_of_le Hr6.out.lt hb.size))).cell hX
            simp only [ri] at cF
            have Hx := Lib.hid (show (l.getD j (0, 0)).1.toNat = X by rw [he]; simp)
            clear b7 he hall hb hbw2
            by_cases hneg : F X < 0
            · have Hno := Lib.hid (show hangB N (adj l) = false from hangB_no fun k => by
                have := Hhang.out.1 k j hlt2
                rw [Hx.out] at this
                omega)
              clear Hall
              generalize F X = fx at *
              go_wp2
              exact bodyPost_ret (v := .tuple #[.int .i64 (m : Int), .bool false]) (by simp [results, Try.results47, go_sem]) rfl ⟨Hbw7.out, .inr ⟨hpos, m, Hend2.out, by rw [Hno.out]⟩⟩
            · have Hnn := Lib.hid (show 0 ≤ F X by omega)
              go_wp2
              go_roundg (l.length - (j + 1))
              case measure => go_light; omega
              case rel => exact ⟨j + 1, by omega, rfl, by go_num, Hb7.out, fun j' hj' => by
                by_cases e : j' = j
                · subst e; rw [Hx.out]; exact Hnn.out
                · exact Hall.out j' (by omega)⟩
          · obtain rfl : l.length = j := by omega
            have Hyes := Lib.hid (show hangB N (adj l) = true from hangB_yes (Hhang.out.2 Hall.out))
            have Hbw2 := Lib.hid hbw2
            clear hall hb hbw2
            go_wp2
            exact bodyPost_ret (v := .tuple #[.int .i64 (m : Int), .bool true]) (by simp [results, Try.results47, go_sem]) rfl ⟨Hbw2.out, .inr ⟨hpos, m, Hend2.out, by rw [Hyes.out]⟩⟩

end Go.Proofs.Ytnmljgjegodkaaa
