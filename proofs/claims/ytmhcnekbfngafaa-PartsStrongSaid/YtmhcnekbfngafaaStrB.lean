/- parts.Strong where arcs have a fault; arborref.Pairs; ways as Warshall's table has them. -/
import Derived.Test.YtmhcnekbfngafaaStrW
import Derived.Test.YtmhcnekbfngafaaSame
import Derived.Test.YtmhcnekbfngafaaLeads
import Derived.Deep.RegionHeld3
namespace Go.Proofs.Ytmhcnekbfngafaa
open Go.RowKit

set_option maxHeartbeats 3200000 in
set_option maxRecDepth 100000 in
theorem strong_bad {l : List (Int × Int)} {n c a : Int} (hs : ArcSpec n l c a) (hc : c ≠ 0) (s : Value) (w : World) (h : IsEdges w s l) :
    Calls Try.prog 44 #[.int .i64 n, s] w fun e w' => e = .returned (.tuple #[.slice none 0 0, .agg #[.int .i64 c, .int .i64 a]]) ∧ Below w.heap.size w w' := by
  obtain ⟨ad, cap, rfl⟩ := h.form
  have Hs := Lib.hid hs
  have q : (c != 0) = true := by simpa using hc
  have hF := FRes.start w
  have He1 := Lib.hid (h.below hF.hb)
  have HF := Lib.hid hF
  clear hs h hF hc
  go_enter Try.func44, Try.ntmps44
  go_upto_region 1 with fail
  generalize w.alloc (Obj.cells #[Value.int IntKind.i64 0, Value.int IntKind.i64 0] 27) = w1 at *
  go_upto_region 2 with (go_at_call 68; refine (parcs_any l n _ w1 He1.out).mono ?_; rintro e w2 ⟨c2, a2, hs2, rfl, hb2⟩; obtain ⟨rfl, rfl⟩ := hs2.uniq Hs.out; have b3 := hb2.trans ((below1 w2 (Obj.cells #[.int .i64 c2, .int .i64 a2] 27)).mono hb2.size); have F2 := Lib.hid (HF.out.below b3); have e01 := two_cells w2 (.int .i64 c2) (.int .i64 a2) 27; have hz2 : w.heap.size < w2.heap.size := Nat.lt_of_lt_of_le HF.out.hz.lt hb2.size; clear hb2 hs2 b3)
  generalize w2.alloc (Obj.cells #[.int .i64 c2, .int .i64 a2] 27) = w3 at *
  obtain ⟨e0, e1⟩ := e01
  clear HF He1
  have cz0 := F2.out.hz.cell (show 0 < 2 by omega)
  have cz1 := F2.out.hz.cell (show 1 < 2 by omega)
  have zz0 := F2.out.hz.frozen 0
  have zz1 := F2.out.hz.frozen 1
  have hBl := F2.out.hz.lt
  have n1 : w.heap.size ≠ w2.heap.size := by omega
  generalize w2.heap.size = E at *
  go_upto_region 3 with fail
  go_region_held3 (fun w' => w'.cell? ⟨E, 0, none⟩ = some (.int .i64 c2) ∧ w'.cell? ⟨E, 1, none⟩ = some (.int .i64 a2)) (go_keep) (fail)
  all_goals
    obtain ⟨f0, f1, f2⟩ := F2.out.put (.int .i64 c2) (.int .i64 a2)
    go_wp2
    exact bodyPost_ret (v := .tuple #[.slice none 0 0, .agg #[.int .i64 c2, .int .i64 a2]]) (by simp [results, Try.results44, go_sem, f0, f1]) rfl ⟨rfl, f2.drew⟩

set_option maxHeartbeats 1600000 in
theorem rpairs_any (l m : List (Int × Int)) (s t : Value) (w : World) (h : IsEdges w s l) (h' : IsEdges w t m) :
    Calls Try.prog 30 #[s, t] w fun e w' => e = .returned (.bool (decide (l = m))) ∧ Below w.heap.size w w' := by
  obtain ⟨a1, c1, rfl⟩ := h.form
  obtain ⟨a2, c2, rfl⟩ := h'.form
  have H1 := Lib.hid h; have H2 := Lib.hid h'
  clear h h'
  go_enter Try.func30, Try.ntmps30
  go_wp2_with fail
  refine (same_any l m 0 0 _ _ w H1.out H2.out).mono ?_
  rintro e w2 ⟨rfl, hb⟩
  rw [show decide ((0 : Int) = 0 ∧ l = m) = decide (l = m) by simp]
  have Hb := Lib.hid hb
  clear hb
  go_wp2
  go_ret
  exact ⟨rfl, Hb.out⟩

/-- The same ways. -/
theorem wx_way {l : List (Int × Int)} {N : Nat} (hg : GoodArcs N l) {a b : Nat} (ha : a < N) : WX (fun v => outA l v l.length) a b ↔ WayA l (a : Int) (b : Int) := by
  have hends := fun j hj => (⟨(hg.ends j hj).1, (hg.ends j hj).2.1⟩ : 0 ≤ (l.getD j (0, 0)).1 ∧ 0 ≤ (l.getD j (0, 0)).2)
  have hin : ∀ e ∈ l, 0 ≤ e.1 ∧ e.1 < N ∧ 0 ≤ e.2 ∧ e.2 < N := fun e he => by
    obtain ⟨j, hj, ej⟩ := List.mem_iff_getElem.1 he
    have h := hg.ends j hj
    rw [List.getD, List.getElem?_eq_getElem hj, Option.getD_some, ej] at h
    exact ⟨h.1, h.2.2.1, h.2.1, h.2.2.2⟩
  have hm : ∀ v u : Nat, u ∈ outA l v l.length ↔ ((v : Int), (u : Int)) ∈ l := fun v u => by
    have := outA_mem (v := v) (u := u) hends l.length (Nat.le_refl _)
    rwa [List.take_length] at this
  constructor
  · intro h
    induction h with
    | here => exact .here _
    | step _ hu ih => exact .step ih ((hm _ _).1 hu)
  · have key : ∀ x y : Int, WayA l x y → ∀ a : Nat, x = (a : Int) → ∃ b : Nat, y = (b : Int) ∧ WX (fun v => outA l v l.length) a b := fun x y h => by
      induction h with
      | here => intro a e; exact ⟨a, e, .here⟩
      | step _ hu ih =>
        intro a e
        obtain ⟨b, rfl, hw⟩ := ih a e
        have h2 := hin _ hu
        obtain ⟨c, hc⟩ := Int.eq_ofNat_of_zero_le h2.2.2.1
        simp only at hc
        subst hc
        exact ⟨c, rfl, .step hw ((hm _ _).2 hu)⟩
    intro h
    obtain ⟨b', e, hw⟩ := key _ _ h a rfl
    obtain rfl : b = b' := by omega
    exact hw

end Go.Proofs.Ytmhcnekbfngafaa
