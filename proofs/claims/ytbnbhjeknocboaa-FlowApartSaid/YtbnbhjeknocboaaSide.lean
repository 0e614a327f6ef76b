/- (*flow.pipes).side. -/
import Derived.Test.YtbnbhjeknocboaaLevels
namespace Go.Proofs.Ytbnbhjeknocboaa
open Go.RowKit

/-- The nodes below k that are reached, in order. -/
def sideL (lev : Nat → Int) (k : Nat) : List Nat := (List.range k).filter (seenB lev)
theorem sideL_yes {lev : Nat → Int} {k : Nat} (h : 0 ≤ lev k) : sideL lev (k + 1) = sideL lev k ++ [k] := by
  unfold sideL
  rw [List.range_succ, List.filter_append]
  simp [seenB, h]
theorem sideL_no {lev : Nat → Int} {k : Nat} (h : lev k < 0) : sideL lev (k + 1) = sideL lev k := by
  unfold sideL
  rw [List.range_succ, List.filter_append]
  simp [seenB, h]
theorem sideL_length (lev : Nat → Int) (k : Nat) : (sideL lev k).length ≤ k := by
  unfold sideL
  have := List.length_filter_le (seenB lev) (List.range k)
  rwa [List.length_range] at this

/-- The nodes that are still reached come back. -/
def SidePost (N : Nat) (X : Nat → List Nat) (s : Nat) (w : World) (e : Ending) (w' : World) : Prop :=
  ∃ lev v, e = .returned v ∧ LevOk N X s lev ∧ w'.ownsRow w.heap.size 3 1 v (sideL lev N).length ((ints (sideL lev N)).map (Value.int .i64)) ∧ Below w.heap.size w w'

set_option maxHeartbeats 3200000 in
set_option maxRecDepth 100000 in
theorem fside_any (base bP bA N M s : Nat) (V : Nat → Value) (X : Nat → List Nat) (w : World) (hs : s < N) (hX : NetOk N M X) (h : PB w base bP bA N V X) :
    Calls Try.prog 47 #[.pointer (some ⟨bP, 0, none⟩), .int .i64 (s : Int)] w (SidePost N X s w) := by
  have H := Lib.hid h; have HX := Lib.hid hX
  have hN := hX.small.1
  clear h hX
  go_enter Try.func47, Try.ntmps47
  go_wp2_with (go_at_call 54; refine (flevels_any base bP bA N M s V X _ hs HX.out H.out).mono ?_; rintro e w1 ⟨lev, b, rfl, hb, hr, hlv, hbw⟩; have Hr := Lib.hid hr; have Hlv := Lib.hid hlv; have Hbw := Lib.hid hbw; have hbl := hr.lt; have hsz1 := hbw.size; clear hr hlv hbw)
  go_loopg [5, 12] N (fun g s5 s12 wr => ∃ k : Nat, k ≤ N ∧ g = N - k ∧ s12 = .int .i64 (k : Int) ∧ wr.ownsRow w1.heap.size 3 1 s5 (sideL lev k).length ((ints (sideL lev k)).map (Value.int .i64)) ∧ Below w1.heap.size w1 wr)
  case atStart => exact ⟨0, Nat.zero_le _, rfl, rfl, World.ownsRow_nil _ _ _ _, Below.refl _ _⟩
  case round =>
    obtain ⟨k, hk, rfl, rfl, hown, hb2⟩ := hrel
    have Hown := Lib.hid hown; have Hb2 := Lib.hid hb2
    have hrw := Hr.out.of_block (hb2.block _ hbl)
    have hsz2 := hb2.size
    obtain ⟨a0, c0, rfl⟩ := ownsRow_form hown
    have hll := sideL_length lev k
    by_cases hlt : k < N
    · have ck := hrw.cell hlt
      simp only [ri] at ck
      clear hown hb2 hrw
      by_cases hl : 0 ≤ lev k
      · generalize hlk : lev k = lk at *
        have Hlk := Lib.hid hlk
        have Hl := Lib.hid hl
        clear hlk
        go_wp2_with (at_builtin; refine wpList_append_has rfl (.tmp 19) (.tmp 21) 25 rfl w1.heap.size 3 (.int .i64 0) 8 Try.underlying25 info3 rfl _ (sideL lev k).length ((ints (sideL lev k)).map (Value.int .i64)) rfl (Hown.out.alloc _) _ 1 [.int .i64 (k : Int)] rfl (HasCells.one _ _ _ rfl) (by omega) (by omega) (by simp; omega) ?_; intro a2 c2 w2 hown2 hg2; have Hown2 := Lib.hid hown2; have Hg2 := Lib.hid ((Hb2.out.alloc hsz2 (Obj.cells #[Value.int .i64 (k : Int)] 3)).grown hg2 (by rw [World.size_alloc]; omega) (fun g e => (Hown.out.lt g e).1)); clear hown2 hg2)
        go_roundg (N - (k + 1))
        case measure => go_light; omega
        case rel => exact ⟨k + 1, by omega, rfl, by go_num, by
          have e : sideL lev (k + 1) = sideL lev k ++ [k] := sideL_yes (by rw [Hlk.out]; exact Hl.out)
          rw [e, List.length_append, ints_snoc, List.map_append]
          exact Hown2.out, Hg2.out⟩
      · generalize hlk : lev k = lk at *
        have Hlk := Lib.hid hlk
        have Hl := Lib.hid hl
        clear hlk
        go_wp2
        go_roundg (N - (k + 1))
        case measure => go_light; omega
        case rel => exact ⟨k + 1, by omega, rfl, by go_num, by
          have e : sideL lev (k + 1) = sideL lev k := sideL_no (by rw [Hlk.out]; have := Hl.out; omega)
          rw [e]
          exact Hown.out, Hb2.out⟩
    · obtain rfl : N = k := by omega
      clear hown hb2 hrw
      go_wp2
      exact bodyPost_ret (v := .slice a0 (sideL lev N).length c0) (by simp [results, Try.results47, go_sem]) rfl ⟨lev, _, rfl, Hlv.out, ownsRow_low Hown.out hsz1, Hbw.out.trans (Hb2.out.mono hsz1)⟩

end Go.Proofs.Ytbnbhjeknocboaa
