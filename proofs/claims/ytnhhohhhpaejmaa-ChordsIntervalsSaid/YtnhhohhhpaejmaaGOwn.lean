/- arborref.Own, arborref.Big. -/
import Derived.Test.YtnhhohhhpaejmaaPH
import Derived.Test.YtnhhohhhpaejmaaRCheck
import Derived.Deep.RegionLaw
namespace Go.Proofs.Ytnhhohhhpaejmaa
open Go.RowKit

/-- 'append' of edges onto edges that the call owns, as a step of a region that draws. -/
theorem step_append_edges {P : Program} {ops : Array Oper} {o : Oper} {a : Act} {w : World} {K : Act → World → Prop} {Q : Exit → Act → World → Prop} {E : Prop} (hg : o.guard = none) (s x : Operand) (t : TypeId)
    (ho : o.op = .call { callee := .builtin .append, args := #[s, x], argTypes := #[t, t] })
    (base : Nat) (ht : P.underlying t = some (.slice 52)) (hinfo : (P.info? 52).map (fun i => (i.zero, i.size, i.bytes)) = some (some (.agg #[.int .i64 0, .int .i64 0]), 2, 16))
    (v : Value) (l : List (Int × Int)) (hs : a.eval s = v) (hown : OwnE w base v l)
    (src : Value) (m : List (Int × Int)) (hx : a.eval x = src) (hsrc : IsEdges w src m)
    (r : List (Int × Int)) (hr : l ++ m = r) (hbytes : (l.length + m.length) * 16 ≤ 140737488355328) (hbase : base ≤ w.heap.size)
    (hK : ∀ a' c' w', OwnE w' base (.slice a' r.length c') r → w.grownBy w' v.ownBlock → K (a.put o.dst (.slice a' r.length c')) w') :
    if Region.wanted o (yielded ops a.tmps) = true then Oper.wp P o a w K Q else E := by
  have hw : Region.wanted o (yielded ops a.tmps) = true := by simp [Region.wanted, hg]
  rw [if_pos hw]
  obtain ⟨i, hi, hz0, hsz, hby⟩ := info_parts hinfo
  subst hr
  obtain ⟨ao, cap, b, oo, rfl, hcap, hmax, hadr, hnone, hcells⟩ := hsrc
  have lift : ∀ {v' : Value} {w' : World}, w'.ownsRow base 52 2 v' (l.length + m.length) (cells2 l ++ cells2 m) → OwnE w' base v' (l ++ m) := fun h1 => by
    unfold OwnE; rw [List.length_append, cells2_append]; exact h1
  cases ao with
  | none =>
    have hc := hnone rfl
    obtain rfl : m = [] := List.eq_nil_of_length_eq_zero (by omega)
    subst hc
    have hrun := run_append_owned_none (P := P) (w := w) base t o.type _ i 2 ht hi v _ _ hown
    unfold Oper.wp
    simp [execOp, ho, resolve, invoke, builtin, hs, hx, hrun, Result.andThen]
    obtain ⟨a', c', rfl⟩ := hown.form
    have h5 := hK a' c' w (by simpa using hown) (World.grownBy.refl _ _)
    simp only [List.append_nil] at h5
    exact h5
  | some ad =>
    refine wp_append_own w s x t ho base _ i (.agg #[.int .i64 0, .int .i64 0]) 2 16 ht hi hz0 hsz hby rfl (by omega) v l.length (cells2 l) hs hown ad m.length cap (cells2 m) hx (cells2_length m) (fun j u hu => ?_) (cells2_one m) (by unfold maxLen; omega) hbytes hbase fun v' w' h1 h2 _ => by
      have h3 := lift h1
      obtain ⟨a', c', rfl⟩ := h3.form
      exact hK a' c' w' h3 h2
    obtain ⟨i, hi, ⟨rfl, rfl⟩ | ⟨rfl, rfl⟩⟩ := cells2_some hu
    · have ha := hadr (by omega)
      obtain rfl := Option.some.inj ha
      rw [Addr.add_lit]; exact (hcells i hi).1
    · have ha := hadr (by omega)
      obtain rfl := Option.some.inj ha
      rw [Addr.add_lit, ← Nat.add_assoc]; exact (hcells i hi).2

/-- A graph comes back that is one's own. -/
def OwnPost (n : Int) (l : List (Int × Int)) (w : World) (e : Ending) (w' : World) : Prop := ∃ v, e = .returned (.agg #[.int .i64 n, v]) ∧ OwnE w' w.heap.size v l ∧ Below w.heap.size w w'

theorem below_grown0 {w w' : World} (h : w.grownBy w' none) : Below w.heap.size w w' := ⟨h.os, h.tape, h.output, h.size, fun k hk => h.block k hk (by simp)⟩

theorem grown_set (w : World) (B k : Nat) (x : Value) : w.grownBy (w.setCell ⟨B, k, none⟩ x) (some B) :=
  ⟨rfl, rfl, rfl, by simp [World.setCell], fun i _ hi => Below.heap_setCell w ⟨B, k, none⟩ x i (fun e => hi (by rw [e]))⟩
theorem OwnE.set {w : World} {base B : Nat} {v : Value} {l : List (Int × Int)} (h : OwnE w base v l) (hB : B < base) (k : Nat) (x : Value) : OwnE (w.setCell ⟨B, k, none⟩ x) base v l := by
  have h0 : w.ownsRow base 52 2 v l.length (cells2 l) := h
  refine h0.kept (grown_set w B k x) ?_
  cases hv : v.ownBlock with
  | none => exact Or.inl rfl
  | some g =>
    have := (h0.lt g hv).1
    exact Or.inr (fun e => by cases e; omega)

theorem IsEdges.form {w : World} {v : Value} {l : List (Int × Int)} (h : IsEdges w v l) : ∃ a c, v = .slice a l.length c := by
  obtain ⟨a, c, b, o, rfl, _⟩ := h
  exact ⟨a, c, rfl⟩

set_option maxHeartbeats 3200000 in
set_option maxRecDepth 100000 in
theorem own_any (l : List (Int × Int)) (n : Int) (s : Value) (w : World) (h : IsEdges w s l) (hl : l.length * 16 ≤ 140737488351232) :
    Calls Try.prog 7 #[.agg #[.int .i64 n, s]] w (OwnPost n l w) := by
  obtain ⟨ad, cap, rfl⟩ := h.form
  have hb1 := below2 w (Obj.cells #[.int .i64 n, .slice ad l.length cap] 24) (Obj.cells #[Value.int .i64 0, .slice none 0 0] 24)
  have c0 := two_cells w (.int .i64 n) (.slice ad l.length cap) 24
  have cn := below_cell (below1 _ (Obj.cells #[Value.int .i64 0, .slice none 0 0] 24)) c0.1
  have cs := below_cell (below1 _ (Obj.cells #[Value.int .i64 0, .slice none 0 0] 24)) c0.2
  have hr := World.rowIs_alloc (w.alloc (Obj.cells #[.int .i64 n, .slice ad l.length cap] 24)) #[Value.int .i64 0, .slice none 0 0] 24 (fun i => if i = 0 then .int .i64 0 else .slice none 0 0) (fun i hi => by
    match i, hi with
    | 0, _ => rfl
    | 1, _ => rfl)
  rw [World.size_alloc] at hr
  have he := h.below hb1
  clear c0 h
  go_enter Try.func7, Try.ntmps7
  go_upto_region 1 with fail
  generalize (w.alloc (Obj.cells #[.int .i64 n, .slice ad l.length cap] 24)).alloc (Obj.cells #[Value.int .i64 0, .slice none 0 0] 24) = w1 at *
  have z0 := hr.cell (show 0 < 2 by omega)
  have z1 := hr.cell (show 1 < 2 by omega)
  have f0 := hr.frozen 0
  have f1 := hr.frozen 1
  have hlt := hr.lt
  simp only [if_true, show ¬ (1 : Nat) = 0 by omega, if_false] at z0 z1
  have He := Lib.hid he; have Hb1 := Lib.hid hb1; have Hr := Lib.hid hr
  clear he hb1 hr
  go_region_law (refine step_append_edges rfl _ _ 22 rfl w1.heap.size Try.underlying22 info2 _ [] rfl (OwnE.nil _ _) _ l rfl (He.out.below (Drew.below (by exact Drew.drew (Drew.refl _)))) _ (List.nil_append l) (by simp; omega) (by simp) ?_; intro a2 c2 w2 ho2 hg2; have hb2 := below_grown0 hg2; have cn2 := below_cell hb2 cn; have cs2 := below_cell hb2 cs; have z02 := below_cell hb2 z0; have z12 := below_cell hb2 z1; have r2 := Hr.out.of_block (hb2.block _ hlt); have f02 := r2.frozen 0; have f12 := r2.frozen 1; have hs2 := hb2.size; have hlt2 := r2.lt)
  all_goals
    have hbase : w.heap.size + 1 < w1.drew.heap.size := hlt
    have e0 := ((r2.set 0 (.int .i64 n)).set 1 (.slice a2 l.length c2)).cell (show 0 < 2 by omega)
    have e1 := ((r2.set 0 (.int .i64 n)).set 1 (.slice a2 l.length c2)).cell (show 1 < 2 by omega)
    simp only [if_true, show ¬ (1 : Nat) = 0 by omega, show ¬ (0 : Nat) = 1 by omega, if_false] at e0 e1
    have hfin := (((Hb1.out.drew.trans (hb2.mono Hb1.out.size)).setCell (p := ⟨w.heap.size + 1, 0, none⟩) (by simp) (.int .i64 n)).setCell (p := ⟨w.heap.size + 1, 1, none⟩) (by simp) (.slice a2 l.length c2))
    go_wp2
    exact bodyPost_ret (v := .agg #[.int .i64 n, .slice a2 l.length c2]) (by simp [results, Try.results7, go_sem, e0, e1]) rfl ⟨_, rfl, ((ho2.set (by omega) _ _).set (by omega) _ _).low (by omega), hfin⟩

end Go.Proofs.Ytnhhohhhpaejmaa
