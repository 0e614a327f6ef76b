/- arborlaw.AssignStable: the walk: the law answers true. -/
import Derived.Test.YtfccfmjamdpeaaaClosure
import Derived.Test.YtfccfmjamdpeaaaALeast
import Derived.Test.YtfccfmjamdpeaaaCopies
import Derived.Deep.RegionHeld3
namespace Go.Proofs.Ytfccfmjamdpeaaa
open Go.RowKit

theorem ordersTop_run {n : Nat} (hn : n ≤ 100) (K : World → Prop) (hK : ∀ w w', K w → Below w.heap.size w w' → K w') (c1 c2 c3 c4 c5 : Value)
    (hcl : ∀ (l : List Int) (s : Value) (w : World), K w → IsInts w s l → l.length = n → Partial n l → Calls Try.prog 43 #[s, c1, c2, c3, c4, c5] w fun e w' => e = .returned (.tuple #[]) ∧ Below w.heap.size w w')
    (w : World) (hk : K w) : Calls Try.prog 42 #[.int .i64 n, .func (.func 43) #[] #[c1, c2, c3, c4, c5]] w fun e w' => e = .returned (.tuple #[]) ∧ Below w.heap.size w w' := by
  have H := Lib.hid (orders_run hn K hK c1 c2 c3 c4 c5 hcl n [] (.slice none 0 0) w hk (IsInts.nil w) (by simp) ⟨fun i hi => absurd hi (Nat.not_lt_zero _), fun i j hi => absurd hi (Nat.not_lt_zero _)⟩)
  clear hcl hK hk
  go_enter Try.func42, Try.ntmps42
  go_wp2_with (go_at_call 86; refine H.out.mono ?_; rintro e w1 ⟨rfl, hb⟩)
  go_end0
  exact ⟨rfl, hb⟩

theorem up {a b c : World} (h : Below a.heap.size a b) (k : Below b.heap.size b c) : Below a.heap.size a c := h.trans (k.mono h.size)

theorem one_cell (w : World) (v : Value) (T : TypeId) : (w.alloc (Obj.cells #[v] T)).cell? ⟨w.heap.size, 0, none⟩ = some v := by rw [World.cell?_alloc_at _ _ _ _ rfl]; rfl

theorem LikesSpec.ok {ma mb : List (List Int)} {d : Int} (h : LikesSpec ma mb 0 d) : ma.length ≤ 100 ∧ mb.length = ma.length := by
  rcases h with ⟨_, h, _⟩ | ⟨_, _, h, _⟩ | ⟨h1, h2, _⟩
  · omega
  · omega
  · exact ⟨h1, h2⟩

set_option maxHeartbeats 1000000 in
set_option maxRecDepth 100000 in
theorem stableLaw_any (ma mb : List (List Int)) (s t : Value) (w : World) (h : IsRows w s ma) (h' : IsRows w t mb) (hm : ma.length * 24 ≤ 140737488351232) (hr : ∀ j, j < ma.length → (ma.getD j []).length * 8 ≤ 140737488351232)
    (hm' : mb.length * 24 ≤ 140737488351232) (hr' : ∀ j, j < mb.length → (mb.getD j []).length * 8 ≤ 140737488351232) :
    Calls Try.prog 7 #[s, t] w fun e w' => e = .returned (.bool true) ∧ Below w.heap.size w w' := by
  have h0 := h
  have h0' := h'
  obtain ⟨a, cap, b, o, rfl, -, -, -, -, -⟩ := h
  obtain ⟨a', cap', b', o', rfl, -, -, -, -, -⟩ := h'
  have hsA : ((w.alloc (Obj.cells #[Value.slice a ma.length cap] 40)).alloc (Obj.cells #[Value.slice a' mb.length cap'] 40)).heap.size = w.heap.size + 2 := by rw [World.size_alloc, World.size_alloc]
  have hbA := below2 w (Obj.cells #[Value.slice a ma.length cap] 40) (Obj.cells #[Value.slice a' mb.length cap'] 40)
  have cA : ((w.alloc (Obj.cells #[Value.slice a ma.length cap] 40)).alloc (Obj.cells #[Value.slice a' mb.length cap'] 40)).cell? ⟨w.heap.size, 0, none⟩ = some (.slice a ma.length cap) := by
    rw [World.cell?_alloc_past _ _ _ (by simp), World.cell?_alloc_at _ _ _ _ rfl]; rfl
  have cB : ((w.alloc (Obj.cells #[Value.slice a ma.length cap] 40)).alloc (Obj.cells #[Value.slice a' mb.length cap'] 40)).cell? ⟨w.heap.size + 1, 0, none⟩ = some (.slice a' mb.length cap') := by
    rw [World.cell?_alloc_at _ _ _ _ (by simp)]; rfl
  have Ra := Lib.hid (h0.below hbA); have Rb := Lib.hid (h0'.below hbA)
  have HbA := Lib.hid hbA; have Hr := Lib.hid hr; have Hr' := Lib.hid hr'; have Hm := Lib.hid hm; have Hm' := Lib.hid hm'
  clear h0 h0' hbA hr hr' hm hm'
  go_enter Try.func7, Try.ntmps7
  go_upto_region 1 with fail
  generalize ((w.alloc (Obj.cells #[Value.slice a ma.length cap] 40)).alloc (Obj.cells #[Value.slice a' mb.length cap'] 40)) = wA at *
  have hb0 : Below wA.heap.size wA wA.drew := (Below.refl _ _).drew
  go_cut [5, 6] from 12 to 15 (fun s5 s6 wx => IsRows wx s5 ma ∧ IsRows wx s6 mb ∧ Below wA.heap.size wA wx)
  case first =>
    go_region_held3 (fun w' => w'.cell? ⟨w.heap.size, 0, none⟩ = some (.slice a ma.length cap) ∧ w'.cell? ⟨w.heap.size + 1, 0, none⟩ = some (.slice a' mb.length cap'))
      (first | exact ⟨cA, cB⟩ | exact ⟨cA1, cB1⟩ | exact ⟨cA2, cB2⟩)
      (first
        | (go_at_call_of 34 (Value.slice a ma.length cap); refine (rows_any ma (.slice a ma.length cap) _ (Ra.out.below hb0) Hm.out Hr.out).mono ?_; rintro e w1 ⟨v1, rfl, hv1, hb1⟩; have hc1 := hb0.trans (hb1.mono hb0.size); have cA1 := below_cell hc1 cA; have cB1 := below_cell hc1 cB)
        | (go_at_call_of 34 (Value.slice a' mb.length cap'); refine (rows_any mb (.slice a' mb.length cap') _ (Rb.out.below hc1) Hm'.out Hr'.out).mono ?_; rintro e w2 ⟨v2, rfl, hv2, hb2⟩; have hc2 := hc1.trans (hb2.mono hc1.size); have cA2 := below_cell hc2 cA; have cB2 := below_cell hc2 cB))
    all_goals (go_wp2_with fail; go_meet; exact ⟨hv1.below hb2, hv2, hc1.trans (hb2.mono hc1.size)⟩)
  case rest =>
  obtain ⟨hv1, hv2, hcw⟩ := hcut
  obtain ⟨pa, pcap, _, _, rfl, -, -, -, -, -⟩ := id hv1
  obtain ⟨qa, qcap, _, _, rfl, -, -, -, -, -⟩ := id hv2
  have Hcw := Lib.hid hcw; have V1 := Lib.hid hv1; have V2 := Lib.hid hv2
  have HA := Lib.hid cA; have HB := Lib.hid cB
  have cA1 := below_cell hcw cA
  have cB1 := below_cell hcw cB
  have hzc := hcw.size
  clear cA cB hb0 hcw hv1 hv2
  go_wp2_with fail
  refine (likesFault_any ma mb _ _ wc (Ra.out.below Hcw.out) (Rb.out.below Hcw.out)).mono ?_
  rintro e w2 ⟨c, d, hsp, rfl, hb2⟩
  have Hsp := Lib.hid hsp
  have hz2 := hb2.size
  have K2 := Lib.hid (up hb2 (below1 w2 (Obj.cells #[Value.int .i64 c, Value.int .i64 d] 27)))
  clear hsp hb2 cA1 cB1
  go_wp2_with fail
  refine (stable_any ma mb _ _ _ (V1.out.below K2.out) (V2.out.below K2.out)).mono ?_
  rintro e w3 ⟨hb3, hp⟩
  have hz3 := hb3.size
  simp only [World.size_alloc] at hz3
  have hF0 := below_cell hb3 (pair_cells w2 (.int .i64 c) (.int .i64 d) 27).1
  have hF1 := below_cell hb3 (pair_cells w2 (.int .i64 c) (.int .i64 d) 27).2
  have K3 := Lib.hid (up K2.out hb3)
  rcases hp with ⟨c', d', hsp', hc', rfl⟩ | ⟨hsp', t, T, hok, hT, rfl⟩
  · obtain ⟨rfl, rfl⟩ := Hsp.out.uniq hsp'
    have hc1 : (c != 0) = true := by simpa using hc'
    have hc2 : (c == 0) = false := by simpa using hc'
    have pc1 := below_cell (below1 (w3.alloc (Obj.cells #[Value.slice none 0 0] 51)) (Obj.cells #[Value.int .i64 c, Value.int .i64 d] 27)) (one_cell w3 (.slice none 0 0) 51)
    have pc2 := pair_cells (w3.alloc (Obj.cells #[Value.slice none 0 0] 51)) (.int .i64 c) (.int .i64 d) 27
    rw [World.size_alloc] at pc2
    have hb3' := below2 w3 (Obj.cells #[Value.slice none 0 0] 51) (Obj.cells #[Value.int .i64 c, Value.int .i64 d] 27)
    have hF0 := below_cell hb3' hF0
    have hF1 := below_cell hb3' hF1
    have K4 := Lib.hid (up K3.out hb3')
    have hz4 := hb3'.size
    clear hb3' hb3 hsp' hc'
    go_wp2_with fail
    refine (assignBegun_any _).mono ?_
    rintro e w4 ⟨rfl, hb4⟩
    have hF0 := below_cell hb4 hF0
    have hF1 := below_cell hb4 hF1
    have hG := below_cell hb4 pc1
    have hG0 := below_cell hb4 pc2.1
    have hG1 := below_cell hb4 pc2.2
    have K5 := Lib.hid (up K4.out hb4)
    have cA1 := below_cell (up Hcw.out K5.out) HA.out
    clear hb4 pc1 pc2
    go_wp2_with fail
    refine (lists_is ma ma _ _ w4 (V1.out.below K5.out) (Ra.out.below (up Hcw.out K5.out)) (decide_eq_true rfl)).mono ?_
    rintro e w5 ⟨rfl, hd⟩
    have K6 := Lib.hid (up K5.out hd.below)
    have hF0 := below_cell hd.below hF0
    have hG := below_cell hd.below hG
    have cB1 := below_cell (up Hcw.out K6.out) HB.out
    clear hd hF1 hG0 hG1 cA1
    go_wp2_with fail
    refine (lists_is mb mb _ _ w5 (V2.out.below K6.out) (Rb.out.below (up Hcw.out K6.out)) (decide_eq_true rfl)).mono ?_
    rintro e w6 ⟨rfl, hd⟩
    have K7 := Lib.hid (up K6.out hd.below)
    have hF0 := below_cell hd.below hF0
    have hG := below_cell hd.below hG
    clear hd cB1
    go_wp2
    go_ret
    exact ⟨rfl, HbA.out.trans ((up Hcw.out K7.out).mono HbA.out.size)⟩
  · obtain ⟨rfl, rfl⟩ := Hsp.out.uniq hsp'
    obtain ⟨hn, hlb⟩ := Hsp.out.ok
    have T0 := Lib.hid hT
    obtain ⟨ta, tcap, _, _, rfl, -, -, -, -, -⟩ := hT
    obtain ⟨M, hTM, hP, hN, hbest⟩ := hok
    have hTl : T.length = ma.length := by rw [hTM]; simp
    have Hlb := Lib.hid hlb; have HTM := Lib.hid hTM; have HP := Lib.hid hP; have HN := Lib.hid hN; have Hbest := Lib.hid hbest; have HTl := Lib.hid hTl
    clear hlb hTM hP hN hbest hTl
    have pc1 := below_cell (below1 (w3.alloc (Obj.cells #[Value.slice ta T.length tcap] 51)) (Obj.cells #[Value.int .i64 0, Value.int .i64 0] 27)) (one_cell w3 (.slice ta T.length tcap) 51)
    have pc2 := pair_cells (w3.alloc (Obj.cells #[Value.slice ta T.length tcap] 51)) (.int .i64 0) (.int .i64 0) 27
    rw [World.size_alloc] at pc2
    have hb3' := below2 w3 (Obj.cells #[Value.slice ta T.length tcap] 51) (Obj.cells #[Value.int .i64 0, Value.int .i64 0] 27)
    have hF0 := below_cell hb3' hF0
    have hF1 := below_cell hb3' hF1
    have K4 := Lib.hid (up K3.out hb3')
    have T4 := Lib.hid (T0.out.below hb3')
    have hz4 := hb3'.size
    clear hb3' hb3 hsp'
    go_wp2_with fail
    refine (assignBegun_any _).mono ?_
    rintro e w4 ⟨rfl, hb4⟩
    have hF0 := below_cell hb4 hF0
    have hF1 := below_cell hb4 hF1
    have hG := below_cell hb4 pc1
    have hG0 := below_cell hb4 pc2.1
    have hG1 := below_cell hb4 pc2.2
    have K5 := Lib.hid (up K4.out hb4)
    have T5 := Lib.hid (T4.out.below hb4)
    have cA1 := below_cell (up Hcw.out K5.out) HA.out
    clear hb4 pc1 pc2
    go_wp2_with fail
    refine (lists_is ma ma _ _ w4 (V1.out.below K5.out) (Ra.out.below (up Hcw.out K5.out)) (decide_eq_true rfl)).mono ?_
    rintro e w5 ⟨rfl, hd⟩
    have K6 := Lib.hid (up K5.out hd.below)
    have hF0 := below_cell hd.below hF0
    have hG := below_cell hd.below hG
    have T6 := Lib.hid (T5.out.below hd.below)
    have cB1 := below_cell (up Hcw.out K6.out) HB.out
    clear hd hF1 hG0 hG1 cA1
    go_wp2_with fail
    refine (lists_is mb mb _ _ w5 (V2.out.below K6.out) (Rb.out.below (up Hcw.out K6.out)) (decide_eq_true rfl)).mono ?_
    rintro e w6 ⟨rfl, hd⟩
    have hF0 := below_cell hd.below hF0
    have hG := below_cell hd.below hG
    have cA1 := below_cell (up Hcw.out (up K6.out hd.below)) HA.out
    have pn := one_cell w6 (.int .i64 ma.length) 3
    have hb7 := below1 w6 (Obj.cells #[Value.int .i64 ma.length] 3)
    have hG7 := below_cell hb7 hG
    have K7 := Lib.hid (up (up K6.out hd.below) hb7)
    have T7 := Lib.hid ((T6.out.below hd.below).below hb7)
    clear hd cB1 hb7
    go_wp2_with fail
    refine (all_yes_n T _ _ T7.out HTl.out (fun i hi => by
      rw [HTM.out]; have := HP.out.1 i hi; simp [List.getD, hi]; omega) (fun i j hi hj => by
      rw [HTM.out]
      have h1 := HP.out.2 j i (by omega) hi
      have hj' : j < ma.length := by omega
      simp [List.getD, hi, hj']
      omega)).mono ?_
    rintro e w7 ⟨rfl, hd⟩
    have K8 := Lib.hid (up K7.out hd.below)
    have T8 := Lib.hid (T7.out.below hd.below)
    have cA1 := below_cell (up Hcw.out K8.out) HA.out
    have cB1 := below_cell (up Hcw.out K8.out) HB.out
    have hG := below_cell hd.below hG7
    have pn := below_cell hd.below pn
    clear hd hG7 hF0
    go_wp2_with fail
    refine (isStable_any ma.length ma mb T M _ _ _ w7 (Ra.out.below (up Hcw.out K8.out)) (Rb.out.below (up Hcw.out K8.out)) T8.out hn rfl Hlb.out HTl.out (fun i hi => by rw [HTM.out]; simp [List.getD, hi]) HP.out).mono ?_
    rintro e w8 ⟨hb8, c, rfl, hc⟩
    obtain rfl : c = true := hc.2 HN.out
    have K9 := Lib.hid (up K8.out hb8)
    have T9 := Lib.hid (T8.out.below hb8)
    have hG := below_cell hb8 hG
    have pn := below_cell hb8 pn
    clear hb8 hc cA1 cB1
    by_cases h6 : 6 < ma.length
    · have h6' : (6 : Int) < (ma.length : Int) := by omega
      go_wp2
      go_ret
      exact ⟨rfl, HbA.out.trans ((up Hcw.out K9.out).mono HbA.out.size)⟩
    · have h6' : ¬ (6 : Int) < (ma.length : Int) := by omega
      have cA1 := below_cell (up Hcw.out K9.out) HA.out
      have cB1 := below_cell (up Hcw.out K9.out) HB.out
      have hb9 := below1 w8 (Obj.cells #[Value.bool true] 4)
      have K10 := Lib.hid (up K9.out hb9)
      have pn' := below_cell hb9 pn
      have hG' := below_cell hb9 hG
      have henv : StableEnv ma mb T (.slice a ma.length cap) (.slice a' mb.length cap') (.slice ta T.length tcap) w.heap.size (w.heap.size + 1) w6.heap.size w8.heap.size w3.heap.size (w8.alloc (Obj.cells #[Value.bool true] 4)) :=
        ⟨below_cell hb9 cA1, below_cell hb9 cB1, pn', heap_alloc_new w8 (Obj.cells #[Value.bool true] 4), hG', Ra.out.below (up Hcw.out K10.out), Rb.out.below (up Hcw.out K10.out), T9.out.below hb9⟩
      have Henv := Lib.hid henv
      clear henv hb9 cA1 cB1
      go_wp2_with fail
      refine (ordersTop_run (n := ma.length) hn (StableEnv ma mb T (.slice a ma.length cap) (.slice a' mb.length cap') (.slice ta T.length tcap) w.heap.size (w.heap.size + 1) w6.heap.size w8.heap.size w3.heap.size) (fun _ _ h k => h.below k) _ _ _ _ _
        (fun l s w hk hs hl hp => closure_any hk hn rfl Hlb.out HTM.out Hbest.out hs hl hp) _ Henv.out).mono ?_
      rintro e w9 ⟨rfl, hb⟩
      have hok := cell_of_one (Henv.out.below hb).ok
      have K11 := Lib.hid (up K10.out hb)
      clear hb hG' pn' hG pn
      go_wp2
      go_ret
      exact ⟨rfl, HbA.out.trans ((up Hcw.out K11.out).mono HbA.out.size)⟩

end Go.Proofs.Ytfccfmjamdpeaaa
