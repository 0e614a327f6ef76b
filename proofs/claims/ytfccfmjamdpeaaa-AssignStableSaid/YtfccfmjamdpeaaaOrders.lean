/- arborref.orders: each order of the numbers below n is handed to the function value. -/
import Derived.Test.YtfccfmjamdpeaaaIsStable
import Derived.Laws.ByValue
namespace Go.Proofs.Ytfccfmjamdpeaaa
open Go.RowKit

/-- Numbers below n, all different. -/
def Partial (n : Nat) (l : List Int) : Prop := (∀ i, i < l.length → 0 ≤ l.getD i 0 ∧ l.getD i 0 < n) ∧ ∀ i j, i < l.length → j < i → l.getD j 0 ≠ l.getD i 0

theorem getD_snoc (l : List Int) (v : Int) (i : Nat) : (l ++ [v]).getD i 0 = if i < l.length then l.getD i 0 else if i = l.length then v else 0 := by
  by_cases h : i < l.length
  · rw [if_pos h, List.getD, List.getElem?_append_left h, List.getD]
  · by_cases e : i = l.length
    · subst e; simp [List.getD]
    · rw [if_neg h, if_neg e, List.getD, List.getElem?_eq_none (by simp; omega)]; rfl

theorem Partial.snoc {n v : Nat} {l : List Int} (h : Partial n l) (hv : v < n) (hne : ∀ i, i < l.length → l.getD i 0 ≠ (v : Int)) : Partial n (l ++ [(v : Int)]) := by
  refine ⟨fun i hi => ?_, fun i j hi hj => ?_⟩
  · rw [getD_snoc]
    by_cases e : i < l.length
    · rw [if_pos e]; exact h.1 i e
    · rw [if_neg e, if_pos (by simp at hi; omega)]; omega
  · rw [getD_snoc, getD_snoc]
    have : j < l.length := by simp at hi; omega
    rw [if_pos this]
    by_cases e : i < l.length
    · rw [if_pos e]; exact h.2 i j e hj
    · rw [if_neg e, if_pos (by simp at hi; omega)]; exact hne j this

set_option maxHeartbeats 3200000 in
set_option maxRecDepth 100000 in
theorem orders_run {n : Nat} (hn : n ≤ 100) (K : World → Prop) (hK : ∀ w w', K w → Below w.heap.size w w' → K w') (c1 c2 c3 c4 c5 : Value)
    (hcl : ∀ (l : List Int) (s : Value) (w : World), K w → IsInts w s l → l.length = n → Partial n l → Calls Try.prog 43 #[s, c1, c2, c3, c4, c5] w fun e w' => e = .returned (.tuple #[]) ∧ Below w.heap.size w w') :
    ∀ (d : Nat) (l : List Int) (s : Value) (w : World), K w → IsInts w s l → l.length + d = n → Partial n l →
      Calls Try.prog 86 #[.int .i64 n, s, .func (.func 43) #[] #[c1, c2, c3, c4, c5]] w fun e w' => e = .returned (.tuple #[]) ∧ Below w.heap.size w w' := by
  intro d
  induction d with
  | zero =>
    intro l s w hk hs hd hp
    have hs0 := hs
    obtain ⟨a, cap, b, o, rfl, -, -, -, -, -⟩ := hs
    have hl2 : ((l.length : Int) == (n : Int)) = true := by simp; omega
    have Hs := Lib.hid hs0; have Hk := Lib.hid hk; have Hp := Lib.hid hp; have Hd := Lib.hid hd
    clear hs0 hk hp hd hK
    have Hcl := Lib.hid hcl
    clear hcl
    go_enter Try.func86, Try.ntmps86
    go_wp2_with (go_at_call 43; refine (Hcl.out _ _ _ Hk.out Hs.out (by have := Hd.out; omega) Hp.out).mono ?_; rintro e w1 ⟨rfl, hb⟩)
    (try simp only [Exit.inBlock, Exit.then])
    refine bodyPost_ret (results_none rfl _ _ _) rfl ?_
    exact ⟨rfl, hb⟩
  | succ d ih =>
    intro l s w hk hs hd hp
    have hs0 := hs
    obtain ⟨a, cap, b, o, rfl, -, -, hadr, -, hcell⟩ := hs
    have hl2 : ((l.length : Int) == (n : Int)) = false := by simp; omega
    have Hs := Lib.hid hs0; have Hk := Lib.hid hk; have Hp := Lib.hid hp; have Ih := Lib.hid ih; have HK := Lib.hid hK
    clear hs0 hk hp ih hK hcl
    go_enter Try.func86, Try.ntmps86
    go_wp2
    clear hl2
    go_loopg [6] n (fun g s6 wr => ∃ v : Nat, v ≤ n ∧ g = n - v ∧ s6 = .int .i64 v ∧ Below w.heap.size w wr)
    case atStart => exact ⟨0, Nat.zero_le _, rfl, rfl, Below.refl _ _⟩
    case round =>
      obtain ⟨v, hv, rfl, rfl, hb⟩ := hrel
      by_cases hlt : v < n
      · have Hb := Lib.hid hb
        clear hb
        go_wp2
        go_loopg [7, 8] l.length (fun g s7 s8 wx => ∃ k : Nat, k ≤ l.length ∧ g = l.length - k ∧ s8 = .int .i64 k ∧ wx = wr ∧ ∃ c : Bool, s7 = .bool c ∧ (c = true ↔ ∀ i, i < k → l.getD i 0 ≠ (v : Int)))
        case atStart => exact ⟨0, Nat.zero_le _, rfl, rfl, rfl, true, rfl, fun _ _ h => absurd h (Nat.not_lt_zero _), fun _ => rfl⟩
        case round =>
          obtain ⟨k, hk, rfl, rfl, rfl, c, rfl, hc⟩ := hrel
          have Hc := Lib.hid hc; clear hc
          by_cases hltk : k < l.length
          · obtain rfl := hadr (by omega)
            obtain ⟨z, Hz, hcz⟩ := ints_at hcell Hb.out hltk
            clear hcell hadr
            cases c with
            | false =>
              go_wp2
              go_roundg (l.length - (k + 1))
              case measure => go_light; omega
              case rel => exact ⟨k + 1, by omega, rfl, by go_num, rfl, false, rfl, (fun h => by cases h), fun h => absurd (Hc.out.2 fun i hi => h i (by omega)) (by simp)⟩
            | true =>
              by_cases hz : z = (v : Int)
              · have hb1 : (z != (v : Int)) = false := by simp [hz]
                have hb2 : (z == (v : Int)) = true := by simp [hz]
                have Hzz := Lib.hid hz; clear hz
                go_wp2
                go_roundg (l.length - (k + 1))
                case measure => go_light; omega
                case rel => exact ⟨k + 1, by omega, rfl, by go_num, rfl, false, rfl, (fun h => by cases h), fun h => absurd (h k (by omega)) (by rw [Hz.out, Hzz.out]; simp)⟩
              · have hb1 : (z != (v : Int)) = true := by simp [hz]
                have hb2 : (z == (v : Int)) = false := by simp [hz]
                have Hzz := Lib.hid hz; clear hz
                go_wp2
                go_roundg (l.length - (k + 1))
                case measure => go_light; omega
                case rel => exact ⟨k + 1, by omega, rfl, by go_num, rfl, true, rfl, (fun _ i hi => by
                  by_cases e : i = k
                  · rw [e, Hz.out]; exact Hzz.out
                  · exact Hc.out.1 (by first | exact trivial | exact rfl) i (by omega)), fun _ => rfl⟩
          · obtain rfl : l.length = k := by omega
            clear hcell hadr
            cases c with
            | false =>
              go_wp2
              go_roundg (n - (v + 1))
              case measure => go_light; omega
              case rel => exact ⟨v + 1, by omega, rfl, by go_num, Hb.out⟩
            | true =>
              have hsz := Hb.out.size
              have hcs := (Hs.out.below Hb.out).cells
              have Hcs := Lib.hid hcs
              clear hcs
              go_wp2_with (first
                | (at_builtin; refine wpList_append_has rfl (.const (.slice none 0 0)) (.tmp 38) 51 rfl w.heap.size 3 (.int .i64 0) 8 Try.underlying51 info3 rfl _ 0 [] rfl (World.ownsRow_nil _ _ _ _) _ l.length (l.map (Value.int .i64)) rfl Hcs.out (by omega) (by omega) (by omega) ?_; intro a1 c1 w1 hown1 hg1; simp only [Nat.zero_add, List.nil_append] at hown1; have hsz1 := hg1.size)
                | (at_builtin; refine wpList_append_has rfl (.tmp 39) (.tmp 41) 51 rfl w.heap.size 3 (.int .i64 0) 8 Try.underlying51 info3 rfl _ l.length (l.map (Value.int .i64)) rfl (hown1.alloc _) _ 1 [.int .i64 v] rfl (HasCells.one _ _ _ rfl) (by omega) (by omega) (by rw [World.size_alloc]; omega) ?_; intro a2 c2 w2 hown2 hg2)
                | (go_at_call 86; have hbw := ((Hb.out.grown hg1 (by omega) (fun _ h => by cases h)).alloc (by omega) (Obj.cells #[Value.int .i64 (v : Int)] 3)).grown hg2 (by rw [World.size_alloc]; omega) (fun g hg => (hown1.lt g hg).1); refine (Ih.out (l ++ [(v : Int)]) _ w2 (HK.out _ _ Hk.out hbw) (IsInts.owned (by simpa using hown2)) (by simp; omega) (Hp.out.snoc hlt (Hc.out.1 (by first | exact trivial | exact rfl)))).mono ?_; rintro e w3 ⟨rfl, hb3⟩))
              have Hb3 := Lib.hid (hbw.trans (hb3.mono hbw.size))
              go_roundg (n - (v + 1))
              case measure => go_light; omega
              case rel => exact ⟨v + 1, by omega, rfl, by go_num, Hb3.out⟩
      · clear hcell hadr
        go_wp2
        go_end0
        exact ⟨rfl, hb⟩

end Go.Proofs.Ytfccfmjamdpeaaa
