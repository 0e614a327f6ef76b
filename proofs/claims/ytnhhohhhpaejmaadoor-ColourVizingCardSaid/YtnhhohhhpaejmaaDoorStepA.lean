/- 'append' onto one's own, as a step of a region that draws its order. No program in sight. -/
import Derived.Test.YtnhhohhhpaejmaaDoorPA
import Derived.Deep.RegionLaw
namespace Go.Proofs.YtnhhohhhpaejmaaDoor
open Go Go.RowKit

theorem step_append_has {P : Program} {ops : Array Oper} {o : Oper} {a : Act} {w : World} {K : Act → World → Prop} {Q : Exit → Act → World → Prop} {E : Prop} (hg : o.guard = none) (s x : Operand) (t : TypeId)
    (ho : o.op = .call { callee := .builtin .append, args := #[s, x], argTypes := #[t, t] }) (base : Nat) (e : TypeId) (z : Value) (bytes : Nat) (ht : P.underlying t = some (.slice e)) (hinfo : (P.info? e).map (fun i => (i.zero, i.size, i.bytes)) = some (some z, 1, bytes)) (hz1 : z.cells.size = 1)
    (v : Value) (n : Nat) (xs : List Value) (hs : a.eval s = v) (hown : w.ownsRow base e 1 v n xs) (src : Value) (m : Nat) (news : List Value) (hx : a.eval x = src) (hsrc : HasCells w src m news)
    (h63 : n + m ≤ 9223372036854775807) (hbytes : (n + m) * bytes ≤ 140737488355328) (hbase : base ≤ w.heap.size)
    (hK : ∀ a' c' w', w'.ownsRow base e 1 (.slice a' (n + m) c') (n + m) (xs ++ news) → w.grownBy w' v.ownBlock → K (a.put o.dst (.slice a' (n + m) c')) w') :
    if Region.wanted o (yielded ops a.tmps) = true then Oper.wp P o a w K Q else E := by
  have hw : Region.wanted o (yielded ops a.tmps) = true := by simp [Region.wanted, hg]
  rw [if_pos hw]
  obtain ⟨i, hi, hz0, hsz, hby⟩ := info_parts hinfo
  obtain ⟨ao, cap, rfl, hl, hnone, hcells, hone⟩ := hsrc
  cases ao with
  | none =>
    obtain ⟨rfl, rfl⟩ := hnone rfl
    have hn : news = [] := List.eq_nil_of_length_eq_zero hl
    subst hn
    have hrun := run_append_owned_none (P := P) (w := w) base t o.type e i 1 ht hi v _ _ hown
    obtain ⟨a', c', rfl⟩ := ownsRow_form hown
    unfold Oper.wp
    simp [execOp, ho, resolve, invoke, builtin, hs, hx, hrun, Result.andThen]
    have h5 := hK a' c' w (by simpa using hown) (World.grownBy.refl _ _)
    simp only [Nat.add_zero] at h5
    exact h5
  | some ad =>
    refine wp_append_own w s x t ho base e i z 1 bytes ht hi hz0 hsz hby hz1 (by omega) v n xs hs hown ad m cap news hx (by omega) (hcells ad rfl) hone (by unfold maxLen; omega) hbytes hbase fun v' w' h1 h2 _ => ?_
    obtain ⟨a', c', rfl⟩ := ownsRow_form h1
    exact hK a' c' w' h1 h2

end Go.Proofs.YtnhhohhhpaejmaaDoor
