/- arborref.Colourings counts colourings node by node: the walk. -/
import Derived.Test.YtfflnpcbpcldeaaDoorSparse
import Derived.Test.YtfflnpcbpcldeaaDoorPolP
import Derived.Test.YtfflnpcbpcldeaaDoorColN
namespace Go.Proofs.YtfflnpcbpcldeaaDoor
open Go Go.RowKit

theorem ints_okC {G : Nat → Nat → Bool} {l : List Nat} {v c : Nat} (hv : v = l.length) : okC G (ints l) v (c : Int) ↔ ∀ q, q < l.length → G l.length q = true → l.getD q 0 ≠ c := by
  subst hv
  have e : ∀ q, q < l.length → (ints l).getD q (-1) = ((l.getD q 0 : Nat) : Int) := fun q hq => by
    unfold ints
    simp [List.getD, List.getElem?_map, List.getElem?_eq_getElem hq]
  constructor
  · intro h q hq hg he
    exact h q hq ⟨hg, by rw [e q hq, he]⟩
  · rintro h q hq ⟨hg, he⟩
    rw [e q hq] at he
    exact h q hq hg (by omega)
theorem cntS_ints {G : Nat → Nat → Bool} {K f : Nat} {l : List Nat} : cntS G K 0 (f + 1) (ints l) = sumI (fun c => if okC G (ints l) l.length c then cntS G K 0 f (ints (l ++ [c])) else 0) K := by
  rw [cntS, if_neg (by simp), ints_length]
  refine sumI_congr fun c _ => ?_
  rw [ints_snoc]

set_option maxHeartbeats 3200000 in
set_option maxRecDepth 100000 in
theorem colourings_is (N K : Nat) (G : Nat → Nat → Bool) (hN : N ≤ 100) (hK : K ≤ 1000) : ∀ (f : Nat) (l : List Nat) (gv s : Value) (w : World), f + l.length = N → IsInts w s (ints l) → HasGrid w gv N G →
    Calls Tryd.prog 27 #[gv, .int .i64 (K : Int), s] w fun e w' => e = .returned (.int .i64 (wI (cntS G K 0 f (ints l)))) ∧ Below w.heap.size w w' := by
  intro f
  induction f with
  | zero =>
    intro l gv s w hf hi hg
    obtain ⟨ga, gc, rfl⟩ : ∃ a c, gv = .slice a N c := by
      obtain ⟨B, a, c, b, o, R, rfl, _⟩ := hg
      exact ⟨a, c, rfl⟩
    obtain ⟨a, cap, b, o, rfl, hcap, hmax, -⟩ := id hi
    have hlen := ints_length l
    rw [hlen] at hcap hi
    have e : ((l.length : Int) == (N : Int)) = true := by simp; omega
    rw [hlen]
    clear hg hi hlen
    go_enter Tryd.func27, Tryd.ntmps27
    go_wp2
    go_ret
    exact ⟨rfl, Below.refl _ _⟩
  | succ f ih =>
    intro l gv s w hf hi hg
    have Hg := Lib.hid hg
    obtain ⟨ga, gc, rfl⟩ : ∃ a c, gv = .slice a N c := by
      obtain ⟨B, a, c, b, o, R, rfl, _⟩ := hg
      exact ⟨a, c, rfl⟩
    obtain ⟨a, cap, b, o, rfl, hcap, hmax, -⟩ := id hi
    have hlen := ints_length l
    rw [hlen] at hcap hi
    have e : ((l.length : Int) == (N : Int)) = false := by simp; omega
    have Hi := Lib.hid hi
    have hlN : l.length < N := by omega
    rw [hlen, cntS_ints]
    obtain ⟨F, hF⟩ : ∃ F : Nat → Int, F = fun (c : Nat) => if okC G (ints l) l.length (c : Int) then cntS G K 0 f (ints (l ++ [c])) else 0 := ⟨_, rfl⟩
    rw [← hF]
    have HF := Lib.hid (congrFun hF)
    clear hF
    clear hg hi hlen
    go_enter Tryd.func27, Tryd.ntmps27
    go_wp2
    clear e
    go_loopg [8, 9] K (fun g s8 s9 wr => ∃ c : Nat, c ≤ K ∧ g = K - c ∧ s9 = .int .i64 c ∧ s8 = .int .i64 (wI (sumI F c)) ∧ Below w.heap.size w wr)
    case atStart => exact ⟨0, Nat.zero_le _, rfl, rfl, rfl, Below.refl _ _⟩
    case round =>
      obtain ⟨c, hc, rfl, rfl, rfl, hb⟩ := hrel
      have Hb := Lib.hid hb
      clear hb
      by_cases hck : c < K
      · go_wp2
        go_loopg [10, 11] l.length (fun g s10 s11 wx => ∃ (u : Nat) (ok : Bool), u ≤ l.length ∧ g = l.length - u ∧ s10 = .bool ok ∧ s11 = .int .i64 (u : Int) ∧ (ok = true ↔ ∀ q, q < u → G l.length q = true → l.getD q 0 ≠ c) ∧ Below w.heap.size w wx)
        case atStart => exact ⟨0, true, Nat.zero_le _, rfl, rfl, rfl, ⟨fun _ q hq => absurd hq (Nat.not_lt_zero _), fun _ => rfl⟩, Hb.out⟩
        case round =>
          obtain ⟨u, ok, hu, rfl, rfl, rfl, hok, hb⟩ := hrel
          have Hok := Lib.hid hok; have Hb3 := Lib.hid hb
          have hsz := hb.size
          by_cases hul : u < l.length
          · obtain ⟨gb, go, gc', gr, ge, c1, c2⟩ := (Hg.out.below hb).entry hlN (show u < N by omega)
            simp only [Value.slice.injEq, true_and] at ge
            obtain ⟨rfl, rfl⟩ := ge
            obtain ⟨lb, lo, rfl, c3⟩ := ints_entry Hi.out hb hul
            clear hb hok
            cases ok with
            | false =>
              clear c1 c2 c3
              go_wp2
              go_roundg (l.length - (u + 1))
              case measure => go_light; omega
              case rel => exact ⟨u + 1, false, by omega, rfl, rfl, by go_num, ⟨(fun h => by cases h), fun h => Hok.out.2 fun q hq => h q (by omega)⟩, Hb3.out⟩
            | true =>
              cases hG : G l.length u with
              | false =>
                rw [hG] at c2
                have HG := Lib.hid hG
                clear hG c3
                go_wp2
                go_roundg (l.length - (u + 1))
                case measure => go_light; omega
                case rel => exact ⟨u + 1, true, by omega, rfl, rfl, by go_num, ⟨(fun h q hq hg => by
                  by_cases e : q = u
                  · subst e; rw [HG.out] at hg; cases hg
                  · exact Hok.out.1 (by first | exact rfl | trivial) q (by omega) hg), fun _ => rfl⟩, Hb3.out⟩
              | true =>
                rw [hG] at c2
                have HG := Lib.hid hG
                clear hG
                by_cases hlc : l.getD u 0 = c
                · have Hlc := Lib.hid hlc
                  have q0 : ((l.getD u 0 : Nat) : Int) = (c : Int) := by rw [hlc]
                  rw [q0] at c3
                  clear hlc q0
                  go_wp2
                  go_roundg (l.length - (u + 1))
                  case measure => go_light; omega
                  case rel => exact ⟨u + 1, false, by omega, rfl, rfl, by go_num, ⟨(fun h => by cases h), fun h => absurd Hlc.out (h u (by omega) HG.out)⟩, Hb3.out⟩
                · have Hlc := Lib.hid hlc
                  have q0 : (((l.getD u 0 : Nat) : Int) == (c : Int)) = false := by simp only [beq_eq_false_iff_ne, ne_eq]; omega
                  generalize hd : l.getD u 0 = d at *
                  have Hd := Lib.hid hd
                  clear hlc hd
                  go_wp2
                  go_roundg (l.length - (u + 1))
                  case measure => go_light; omega
                  case rel => exact ⟨u + 1, true, by omega, rfl, rfl, by go_num, ⟨(fun h q hq hg => by
                    by_cases e : q = u
                    · subst e; rw [Hd.out]; exact Hlc.out
                    · exact Hok.out.1 (by first | exact rfl | trivial) q (by omega) hg), fun _ => rfl⟩, Hb3.out⟩
          · obtain rfl : u = l.length := by omega
            have Hiw := Lib.hid (Hi.out.below hb)
            have Hokc := Lib.hid (hok.trans (ints_okC (v := l.length) rfl).symm)
            clear hb hok
            cases ok with
            | false =>
              go_wp2
              go_roundg (K - (c + 1))
              case measure => go_light; omega
              case rel => exact ⟨c + 1, by omega, rfl, by go_num, by
                show _ = Value.int .i64 (wI (sumI F c + F c))
                rw [HF.out c, if_neg (fun h => by have := Hokc.out.2 h; cases this), Int.add_zero], Hb3.out⟩
            | true =>
              have Hokk := Lib.hid (Hokc.out.1 (by first | exact rfl | trivial))
              go_wp2_with (first
                | (at_builtin; refine wpList_append_has rfl (.const (.slice none 0 0)) (.tmp 51) 29 rfl w.heap.size 3 (.int .i64 0) 8 Tryd.underlying29 info3 rfl _ 0 [] rfl (World.ownsRow_nil _ _ _ _) _ l.length ((ints l).map (Value.int .i64)) rfl ((ints_length l) ▸ Hiw.out.cells) (by omega) (by omega) (by omega) ?_; intro a1 c1 w1 hown1 hg1; simp only [Nat.zero_add, List.nil_append] at hown1; have hsz1 := hg1.size)
                | (at_builtin; refine wpList_append_has rfl (.tmp 52) (.tmp 54) 29 rfl w.heap.size 3 (.int .i64 0) 8 Tryd.underlying29 info3 rfl _ l.length ((ints l).map (Value.int .i64)) rfl (hown1.alloc _) _ 1 [.int .i64 (c : Int)] rfl (HasCells.one _ _ _ rfl) (by omega) (by omega) (by simp; omega) ?_; intro a2 c2 w2 hown2 hg2)
                | fail)
              have hbw1 := (Hb3.out.trans ((below_grown0 hg1).mono Hb3.out.size)).alloc (by omega) (Obj.cells #[Value.int .i64 (c : Int)] 3)
              have hb2 := hbw1.grown hg2 (by rw [World.size_alloc]; omega) (fun g e => (hown1.lt g e).1)
              have hi2 : IsInts w2 (.slice a2 (l.length + 1) c2) (ints (l ++ [c])) := IsInts.owned (base := w.heap.size) (e := 3) (n := l.length + 1) (by rw [ints_snoc, List.map_append]; exact hown2)
              have Hb4 := Lib.hid hb2
              have Hi2 := Lib.hid hi2
              clear hbw1 hb2 hi2 hown1 hown2 hg1 hg2 hsz1
              refine (ih (l ++ [c]) _ _ _ (by simp; omega) Hi2.out (Hg.out.below Hb4.out)).mono ?_
              rintro e w3 ⟨rfl, hb3⟩
              have Hb5 := Lib.hid (Hb4.out.trans (hb3.mono Hb4.out.size))
              have Hsum := Lib.hid (wI_add (sumI F c) (cntS G K 0 f (ints (l ++ [c]))))
              generalize hvR : wI (cntS G K 0 f (ints (l ++ [c]))) = vR at *
              generalize hvS : wI (sumI F c) = vS at *
              clear hb3 hvR hvS
              go_wp2
              go_roundg (K - (c + 1))
              case measure => go_light; omega
              case rel => exact ⟨c + 1, by omega, rfl, by go_num, by
                show _ = Value.int .i64 (wI (sumI F c + F c))
                rw [HF.out c, if_pos Hokk.out, ← Hsum.out, wI_64], Hb5.out⟩
      · obtain rfl : c = K := by omega
        clear hck
        go_wp2
        go_ret
        exact ⟨rfl, Hb.out⟩

set_option maxHeartbeats 400000 in
theorem colourings_any (N K : Nat) (G : Nat → Nat → Bool) (hN : N ≤ 100) (hK : K ≤ 1000) (gv : Value) (w : World) (hg : HasGrid w gv N G) :
    Calls Tryd.prog 13 #[gv, .int .i64 (K : Int)] w fun e w' => e = .returned (.int .i64 (wI (cntS G K 0 N []))) ∧ Below w.heap.size w w' := by
  have Hg := Lib.hid hg
  clear hg
  go_enter Tryd.func13, Tryd.ntmps13
  go_wp2_with fail
  refine (colourings_is N K G hN hK N [] _ _ w rfl (IsInts.nil _) Hg.out).mono ?_
  rintro e w1 ⟨rfl, hb⟩
  go_wp2
  go_ret
  exact ⟨rfl, hb⟩

end Go.Proofs.YtfflnpcbpcldeaaDoor
