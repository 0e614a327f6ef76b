/- arborlaw.between: the least cut on the way between two nodes of a tree. -/
import Derived.Test.YtfflnpcbpcldeaaP2
import Derived.Test.YtfflnpcbpcldeaaGridMem
namespace Go.Proofs.Ytfflnpcbpcldeaa
open Go.RowKit

section
variable {up : Nat → Nat} {N : Nat}
theorem anc_up {p v : Nat} (h0 : 0 < v) : Anc up p v ↔ p = v ∨ Anc up p (up v) := ⟨fun k => by
  rcases k.cases' with e | ⟨-, k⟩
  · exact Or.inl e
  · exact Or.inr k, fun k => by
  rcases k with rfl | k
  · exact .refl _
  · exact .step h0 k⟩
theorem anc_not (hup : ∀ v, 0 < v → v < N → up v < v) {v : Nat} (h0 : 0 < v) (hv : v < N) : ¬ Anc up v (up v) := fun k => by
  have h1 := hup v h0 hv
  have := k.le hup (by omega)
  omega
theorem anc_zero (hup : ∀ v, 0 < v → v < N → up v < v) : ∀ a, a < N → Anc up 0 a := by
  intro a
  induction a using Nat.strongRecOn with
  | ind a ih =>
    intro ha
    by_cases e : a = 0
    · subst e; exact .refl 0
    · have := hup a (by omega) ha
      exact .step (by omega) (ih (up a) this (by omega))
theorem anc_of_zero {p : Nat} (h : Anc up p 0) : p = 0 := by
  rcases h.cases' with e | ⟨h, -⟩
  · exact e
  · omega

/-- The first loop: those above a, up to where it stands. -/
def AbI (up : Nat → Nat) (N a k : Nat) (I : Nat → Bool) : Prop := (k = 0 → ∀ u, u < N → (I u = true ↔ Anc up u a)) ∧ (0 < k → Anc up (k - 1) a ∧ ∀ u, u < N → (I u = true ↔ (Anc up u a ∧ ¬ Anc up u (k - 1))))
theorem AbI.step (hup : ∀ v, 0 < v → v < N → up v < v) {a k : Nat} {I : Nat → Bool} (h : AbI up N a k I) (hk : 0 < k) (hkN : k ≤ N) :
    AbI up N a (if k - 1 = 0 then 0 else up (k - 1) + 1) (fun u => if u = k - 1 then true else I u) := by
  obtain ⟨h1, h2⟩ := h.2 hk
  by_cases e : k - 1 = 0
  · rw [if_pos e]
    refine ⟨fun _ u hu => ?_, fun h => by omega⟩
    by_cases e2 : u = k - 1
    · simp only [if_pos e2, true_iff]; rw [e2]; exact h1
    · simp only [if_neg e2]
      rw [h2 u hu]
      refine ⟨fun h => h.1, fun h => ⟨h, fun k2 => ?_⟩⟩
      rw [e] at k2
      exact e2 (by rw [e]; exact anc_of_zero k2)
  · rw [if_neg e]
    have h0 : 0 < k - 1 := by omega
    have hn := anc_not hup h0 (by omega)
    refine ⟨fun h => by omega, fun _ => ⟨?_, fun u hu => ?_⟩⟩
    · rw [Nat.add_sub_cancel]; exact (Anc.step h0 (.refl _)).trans h1
    · rw [Nat.add_sub_cancel]
      by_cases e2 : u = k - 1
      · simp only [if_pos e2, true_iff]; rw [e2]; exact ⟨h1, hn⟩
      · simp only [if_neg e2]
        rw [h2 u hu, anc_up h0]
        simp [e2]

/-- The second loop: what the cuts above b hold, up to where it stands. -/
structure BtI (up cut : Nat → Nat) (N a b top best : Nat) : Prop where
  anc : Anc up top b
  off : ∀ p, Anc up p b → ¬ Anc up p top → ¬ Anc up p a
  best : ∀ x : Nat, x ≤ best ↔ x ≤ 1099511627776 ∧ ∀ p, Anc up p b → ¬ Anc up p top → x ≤ cut p
theorem BtI.start (cut : Nat → Nat) (a b : Nat) : BtI up cut N a b b 1099511627776 := ⟨.refl b, fun p h k => absurd h k, fun x => ⟨fun h => ⟨h, fun p h k => absurd h k⟩, fun h => h.1⟩⟩
theorem BtI.step (hup : ∀ v, 0 < v → v < N → up v < v) {cut : Nat → Nat} {a b top best : Nat} (h : BtI up cut N a b top best) (h0 : 0 < top) (hN : top < N) (hn : ¬ Anc up top a) : BtI up cut N a b (up top) (min best (cut top)) := by
  have hno := anc_not hup h0 hN
  have key : ∀ p, Anc up p b → ¬ Anc up p (up top) → p = top ∨ ¬ Anc up p top := fun p _ k => by
    by_cases e : p = top
    · exact Or.inl e
    · refine Or.inr fun k2 => ?_
      rcases (anc_up h0).1 k2 with e2 | e2
      · exact e e2
      · exact k e2
  refine ⟨(Anc.step h0 (.refl _)).trans h.anc, fun p hp k => ?_, fun x => ?_⟩
  · rcases key p hp k with rfl | k
    · exact hn
    · exact h.off p hp k
  · rw [Nat.le_min, h.best x]
    constructor
    · rintro ⟨⟨h1, h2⟩, h3⟩
      refine ⟨h1, fun p hp k => ?_⟩
      rcases key p hp k with rfl | k
      · exact h3
      · exact h2 p hp k
    · rintro ⟨h1, h2⟩
      exact ⟨⟨h1, fun p hp k => h2 p hp (fun k2 => k (.step h0 k2))⟩, h2 top h.anc hno⟩

/-- The third loop: what the cuts above a hold, too. -/
structure BuI (up cut : Nat → Nat) (N a b top v best : Nat) : Prop where
  anc : Anc up v a
  tp : Anc up top v
  best : ∀ x : Nat, x ≤ best ↔ x ≤ 1099511627776 ∧ (∀ p, Anc up p b → ¬ Anc up p top → x ≤ cut p) ∧ ∀ p, Anc up p a → ¬ Anc up p v → x ≤ cut p
theorem BuI.start {cut : Nat → Nat} {a b top best : Nat} (h : BtI up cut N a b top best) (ha : Anc up top a) : BuI up cut N a b top a best := ⟨.refl a, ha, fun x => by
  rw [h.best x]
  exact ⟨fun k => ⟨k.1, k.2, fun p h1 h2 => absurd h1 h2⟩, fun k => ⟨k.1, k.2.1⟩⟩⟩
theorem BuI.step (hup : ∀ v, 0 < v → v < N → up v < v) {cut : Nat → Nat} {a b top v best : Nat} (h : BuI up cut N a b top v best) (hne : v ≠ top) (hN : v < N) : 0 < v ∧ BuI up cut N a b top (up v) (min best (cut v)) := by
  have h0 : 0 < v := by
    rcases h.tp.cases' with e | ⟨h0, -⟩
    · exact absurd e.symm hne
    · exact h0
  have hno := anc_not hup h0 hN
  refine ⟨h0, (Anc.step h0 (.refl _)).trans h.anc, ?_, fun x => ?_⟩
  · rcases (anc_up h0).1 h.tp with e | e
    · exact absurd e.symm hne
    · exact e
  · rw [Nat.le_min, h.best x]
    constructor
    · rintro ⟨⟨h1, h2, h3⟩, h4⟩
      refine ⟨h1, h2, fun p hp k => ?_⟩
      by_cases e : p = v
      · rw [e]; exact h4
      · exact h3 p hp (fun k2 => by
          rcases (anc_up h0).1 k2 with e2 | e2
          · exact e e2
          · exact k e2)
    · rintro ⟨h1, h2, h3⟩
      exact ⟨⟨h1, h2, fun p hp k => h3 p hp (fun k2 => k (.step h0 k2))⟩, h3 v h.anc hno⟩
theorem BuI.done {cut : Nat → Nat} {a b top best m : Nat} (h : BuI up cut N a b top top best) (hb : Anc up top b) (hoff : ∀ p, Anc up p b → ¬ Anc up p top → ¬ Anc up p a) (hup : ∀ v, 0 < v → v < N → up v < v) (haN : a < N) (hbN : b < N) (hm : m ≤ 1099511627776)
    (hw : ∀ x : Nat, x ≤ m ↔ ∀ p, 0 < p → ((Anc up p a ∧ ¬ Anc up p b) ∨ (Anc up p b ∧ ¬ Anc up p a)) → x ≤ cut p) : best = m := by
  have h1 : m ≤ best := by
    refine (h.best m).2 ⟨hm, fun p hp k => ?_, fun p hp k => ?_⟩
    · have h2 := hoff p hp k
      exact (hw m).1 (Nat.le_refl _) p (Nat.pos_of_ne_zero fun e => h2 (by rw [e]; exact anc_zero hup a haN)) (Or.inr ⟨hp, h2⟩)
    · have h2 : ¬ Anc up p b := fun k2 => hoff p k2 k hp
      exact (hw m).1 (Nat.le_refl _) p (Nat.pos_of_ne_zero fun e => h2 (by rw [e]; exact anc_zero hup b hbN)) (Or.inl ⟨hp, h2⟩)
  have h2 : best ≤ m := by
    obtain ⟨-, k1, k2⟩ := (h.best best).1 (Nat.le_refl _)
    refine (hw best).2 fun p _ hp => ?_
    rcases hp with ⟨g1, g2⟩ | ⟨g1, g2⟩
    · exact k2 p g1 (fun e => g2 (e.trans hb))
    · exact k1 p g1 (fun e => g2 (e.trans h.anc))
  omega
end

set_option maxHeartbeats 3200000 in
set_option maxRecDepth 100000 in
theorem between_any (N a b m : Nat) (up cut : Nat → Nat) (ul cl : List Int) (uv cv : Value) (w : World) (hu : IsInts w uv ul) (hc : IsInts w cv cl) (hul : ul.length = N) (hcl : cl.length = N) (hN : N ≤ 100) (ha : a < N) (hb : b < N)
    (hU : ∀ v, v < N → ul.getD v 0 = if v = 0 then -1 else (up v : Int)) (hC : ∀ v, v < N → cl.getD v 0 = (cut v : Int)) (hup : ∀ v, 0 < v → v < N → up v < v) (hm : m ≤ 1099511627776)
    (hw : ∀ x : Nat, x ≤ m ↔ ∀ p, 0 < p → ((Anc up p a ∧ ¬ Anc up p b) ∨ (Anc up p b ∧ ¬ Anc up p a)) → x ≤ cut p) :
    Calls Try.prog 43 #[uv, cv, .int .i64 (a : Int), .int .i64 (b : Int)] w fun e w' => e = .returned (.int .i64 (m : Int)) ∧ Below w.heap.size w w' := by
  obtain ⟨au, cu, bu, ou, rfl, hcu, hmu, hau, -, hcellu⟩ := hu
  obtain ⟨ac, cc, bc, oc, rfl, hcc, hmc, hac, -, hcellc⟩ := hc
  have hcu' : ∀ v, v < N → w.cell? ⟨bu, ou + v, none⟩ = some (.int .i64 (if v = 0 then -1 else (up v : Int))) := fun v hv => by rw [hcellu v (by omega), hU v hv]
  have hcc' : ∀ v, v < N → w.cell? ⟨bc, oc + v, none⟩ = some (.int .i64 (cut v : Int)) := fun v hv => by rw [hcellc v (by omega), hC v hv]
  rw [hul] at hcu hau ⊢
  rw [hcl] at hcc hac ⊢
  obtain rfl := hau (by omega)
  obtain rfl := hac (by omega)
  have HU := Lib.hid hcu'; have HC := Lib.hid hcc'; have Hup := Lib.hid hup; have Hw := Lib.hid hw
  clear hcu' hcc' hcellu hcellc hU hC hup hw hul hcl hau hac
  have hmk := run_make_row' (P := Try.prog) 38 4 (.bool false) 1 Try.underlying38 info4 rfl .i64 .i64 N (by omega) (by omega)
  have hr0 := World.rowIs_made w (.bool false) N 4
  have hb0 := below1 w (.cells (madeCells #[Value.bool false] N) 4)
  have HR0 := Lib.hid hr0; have HB0 := Lib.hid hb0
  clear hr0 hb0
  go_enter Try.func43, Try.ntmps43
  go_wp2
  clear hmk
  generalize w.alloc (.cells (madeCells #[Value.bool false] N) 4) = w1 at *
  go_loopg [10] (a + 1) (fun g s10 wr => ∃ (k : Nat) (I : Nat → Bool), k ≤ N ∧ k = g ∧ s10 = .int .i64 ((k : Int) - 1) ∧ AbI up N a k I ∧ wr.rowIs w.heap.size 4 N (rb I) ∧ Below w.heap.size w wr)
  case atStart => exact ⟨a + 1, fun _ => false, by omega, rfl, by go_num, ⟨fun h => by omega, fun _ => ⟨.refl a, fun u _ => by simp⟩⟩, HR0.out.congr fun _ _ => rfl, HB0.out⟩
  case round =>
    obtain ⟨k, I, hk, rfl, rfl, hI, hr, hb1⟩ := hrel
    have HI := Lib.hid hI; have HR := Lib.hid hr; have HB := Lib.hid hb1
    by_cases hpos : 0 < k
    · obtain ⟨v, rfl⟩ : ∃ v, k = v + 1 := ⟨k - 1, by omega⟩
      have hv : v < N := by omega
      have e1 : ((v + 1 : Nat) : Int) - 1 = (v : Int) := by omega
      rw [e1]
      have hrc := hr.cell hv
      have hrf := hr.frozen v
      have hrl := hr.lt
      have hne : bu ≠ w.heap.size := by
        have := World.block_lt_of_cell? _ _ (HU.out v hv)
        simp only at this
        omega
      have cU := below_cell (hb1.setCell (p := ⟨w.heap.size, v, none⟩) (Nat.le_refl _) (.bool true)) (HU.out v hv)
      have hst := HI.out.step Hup.out (by omega) (by omega)
      simp only [Nat.add_sub_cancel] at hst
      have Hst := Lib.hid hst
      clear hI hr hb1 e1 hst
      by_cases e0 : v = 0
      · subst e0
        simp only [if_true, Nat.add_zero] at cU
        go_wp2
        go_roundg (0)
        case measure => go_light; omega
        case rel => exact ⟨0, _, Nat.zero_le _, rfl, by go_num, by have := Hst.out; simpa using this, row_set_rb HR.out 0 true, HB.out.setCell (Nat.le_refl _) _⟩
      · simp only [if_neg e0] at cU
        have hupv := Hup.out v (by omega) hv
        have Hst2 : Hid (AbI up N a (up v + 1) (fun u => if u = v then true else I u)) := by have := Hst.out; rwa [if_neg e0] at this
        go_wp2
        go_roundg (up v + 1)
        case measure => go_light; omega
        case rel => exact ⟨up v + 1, _, by omega, rfl, by go_num, Hst2.out, row_set_rb HR.out v true, HB.out.setCell (Nat.le_refl _) _⟩
    · obtain rfl : k = 0 := by omega
      have hI0 := hI.1 rfl
      have HI0 := Lib.hid hI0
      clear hI hr hb1 HI hI0
      obtain ⟨w2, rfl⟩ : ∃ w2 : World, w2 = wr := ⟨_, rfl⟩
      go_wp2
      go_loopg [11, 12] (b + 1) (fun g s11 s12 wr => ∃ top best : Nat, top < N ∧ best ≤ 1099511627776 ∧ g = top + 1 ∧ s12 = .int .i64 (top : Int) ∧ s11 = .int .i64 (best : Int) ∧ BtI up cut N a b top best ∧ w2 = wr)
      case atStart => exact ⟨b, 1099511627776, hb, Nat.le_refl _, rfl, rfl, rfl, BtI.start cut a b, rfl⟩
      case round =>
        obtain ⟨top, best, htop, hbest, rfl, rfl, rfl, hB, rfl⟩ := hrel
        have HBt := Lib.hid hB
        have hrc := HR.out.cell htop
        simp only [rb] at hrc
        clear hB
        by_cases hT : I top = true
        · rw [hT] at hrc
          have HT := Lib.hid ((HI0.out top htop).1 hT)
          have HBu := Lib.hid (BuI.start HBt.out HT.out)
          clear hT
          go_wp2
          go_loopg [11, 13] (a + 1) (fun g s11 s13 wr => ∃ v best : Nat, v < N ∧ best ≤ 1099511627776 ∧ g = v + 1 ∧ s13 = .int .i64 (v : Int) ∧ s11 = .int .i64 (best : Int) ∧ BuI up cut N a b top v best ∧ w2 = wr)
          case atStart => exact ⟨a, best, ha, hbest, rfl, rfl, rfl, HBu.out, rfl⟩
          case round =>
            obtain ⟨v, best2, hv, hbest2, rfl, rfl, rfl, hB, rfl⟩ := hrel
            have HB3 := Lib.hid hB
            clear hB
            by_cases hvt : v = top
            · subst hvt
              have he := BuI.done HB3.out HBt.out.anc HBt.out.off Hup.out ha hb hm Hw.out
              subst he
              go_wp2
              go_ret
              exact ⟨rfl, HB.out⟩
            · have q1 : ((v : Int) != (top : Int)) = true := by simp; omega
              obtain ⟨h0, hst⟩ := HB3.out.step Hup.out hvt hv
              have Hst := Lib.hid hst
              have cC := below_cell HB.out (HC.out v hv)
              have cU := below_cell HB.out (HU.out v hv)
              rw [if_neg (by omega)] at cU
              have hupv := Hup.out v h0 hv
              clear hst hvt
              by_cases hlt : cut v < best2
              · have Hmin := Lib.hid (show min best2 (cut v) = cut v by omega)
                go_wp2
                go_roundg (up v + 1)
                case measure => go_light; omega
                case rel => exact ⟨up v, cut v, by omega, by omega, rfl, rfl, by go_num, by rw [← Hmin.out]; exact Hst.out, rfl⟩
              · have Hmin := Lib.hid (show min best2 (cut v) = best2 by omega)
                go_wp2
                go_roundg (up v + 1)
                case measure => go_light; omega
                case rel => exact ⟨up v, best2, by omega, by omega, rfl, rfl, by go_num, by have := Hst.out; rwa [Hmin.out] at this, rfl⟩
        · have hT' : I top = false := by simpa using hT
          rw [hT'] at hrc
          have hna : ¬ Anc up top a := fun k => hT ((HI0.out top htop).2 k)
          have h0 : 0 < top := Nat.pos_of_ne_zero fun e => hna (by rw [e]; exact anc_zero Hup.out a ha)
          have Hst := Lib.hid (HBt.out.step Hup.out h0 htop hna)
          have cC := below_cell HB.out (HC.out top htop)
          have cU := below_cell HB.out (HU.out top htop)
          rw [if_neg (by omega)] at cU
          have hupv := Hup.out top h0 htop
          clear hT hT' hna
          by_cases hlt : cut top < best
          · have Hmin := Lib.hid (show min best (cut top) = cut top by omega)
            go_wp2
            go_roundg (up top + 1)
            case measure => go_light; omega
            case rel => exact ⟨up top, cut top, by omega, by omega, rfl, rfl, by go_num, by rw [← Hmin.out]; exact Hst.out, rfl⟩
          · have Hmin := Lib.hid (show min best (cut top) = best by omega)
            go_wp2
            go_roundg (up top + 1)
            case measure => go_light; omega
            case rel => exact ⟨up top, best, by omega, by omega, rfl, rfl, by go_num, by have := Hst.out; rwa [Hmin.out] at this, rfl⟩

end Go.Proofs.Ytfflnpcbpcldeaa
