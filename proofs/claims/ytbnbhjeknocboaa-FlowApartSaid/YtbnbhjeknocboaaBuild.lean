/- flow.build: pipes of a net. -/
import Derived.Test.YtbnbhjeknocboaaFAdd
import Derived.Test.YtbnbhjeknocboaaNets
namespace Go.Proofs.Ytbnbhjeknocboaa
open Go.RowKit

/-- The rows that come of some arcs. -/
def netX (l : List (Int × Int × Int)) : Nat → List Nat := l.foldl (fun X a => addX X a.1.toNat a.2.1.toNat a.2.2.toNat) (fun _ => [])

theorem upX_length (X : Nat → List Nat) (r : Nat) (m : List Nat) (q : Nat) : (upX X r m q).length = (X q).length + if q = r then m.length else 0 := by
  unfold upX
  split
  · rename_i h; subst h; simp
  · rfl
theorem addX_length (X : Nat → List Nat) (u v c r : Nat) : (addX X u v c r).length ≤ (X r).length + 2 := by
  unfold addX
  simp only [upX_length, List.length_cons, List.length_nil]
  repeat' split
  all_goals omega
theorem netX_length (l : List (Int × Int × Int)) : ∀ r, (netX l r).length ≤ 2 * l.length := by
  unfold netX
  rw [← List.foldr_reverse]
  rw [← List.length_reverse]
  generalize l.reverse = m
  induction m with
  | nil => intro r; exact Nat.zero_le _
  | cons a m ih =>
    intro r
    have := addX_length (m.foldr (fun a X => addX X a.1.toNat a.2.1.toNat a.2.2.toNat) fun _ => []) a.1.toNat a.2.1.toNat a.2.2.toNat r
    have := ih r
    rw [List.foldr_cons, List.length_cons]
    omega
theorem netX_succ {l : List (Int × Int × Int)} {k : Nat} {x y z : Int} (hk : k < l.length) (he : l.getD k (0, 0, 0) = (x, y, z)) : netX (l.take (k + 1)) = addX (netX (l.take k)) x.toNat y.toNat z.toNat := by
  have e : l[k] = (x, y, z) := by rw [← he]; simp [List.getD, hk]
  unfold netX
  rw [List.take_succ_eq_append_getElem hk, List.foldl_append, e]
  rfl

theorem PB.begin (w : World) (o : Obj) (N : Nat) : PB (((w.alloc o).alloc (.cells (madeCells #[Value.slice none 0 0] N) 25)).alloc (Obj.cells #[.slice none 0 0, .slice none 0 0, .slice (some ⟨w.heap.size + 1, 0, none⟩) N N] 66)) (w.heap.size + 3) (w.heap.size + 2) (w.heap.size + 1) N (fun _ => .slice none 0 0) (fun _ => []) := by
  have h1 := World.rowIs_made (w.alloc o) (.slice none 0 0) N 25
  rw [World.size_alloc] at h1
  have h2 := World.rowIs_alloc ((w.alloc o).alloc (.cells (madeCells #[Value.slice none 0 0] N) 25)) #[.slice none 0 0, .slice none 0 0, .slice (some ⟨w.heap.size + 1, 0, none⟩) N N] 66 (fun i => if i = 0 then .slice none 0 0 else if i = 1 then .slice none 0 0 else .slice (some ⟨w.heap.size + 1, 0, none⟩) N N) (fun i hi => by
    match i, hi with
    | 0, _ => rfl
    | 1, _ => rfl
    | 2, _ => rfl)
  rw [World.size_alloc, World.size_alloc] at h2
  exact ⟨h2, h1.alloc _, Bank.start _ _ _ _, ⟨by omega, by omega⟩, by omega, by rw [World.size_alloc, World.size_alloc, World.size_alloc]; omega⟩

/-- Pipes come back. -/
def PipesPost (N : Nat) (X : Nat → List Nat) (w : World) (e : Ending) (w' : World) : Prop :=
  ∃ base bP bA V, e = .returned (.pointer (some ⟨bP, 0, none⟩)) ∧ PB w' base bP bA N V X ∧ w.heap.size ≤ bP ∧ w.heap.size ≤ bA ∧ Below w.heap.size w w'

set_option maxHeartbeats 3200000 in
set_option maxRecDepth 100000 in
theorem fbuild_any (l : List (Int × Int × Int)) (N : Nat) (s : Value) (w : World) (h : IsArcs w s l) (hN : N ≤ 100) (hl : l.length ≤ 1000) (hok : ∀ j, j < l.length → ArcOk N (l.getD j (0, 0, 0))) :
    Calls Try.prog 57 #[.agg #[.int .i64 (N : Int), s]] w (PipesPost N (netX l) w) := by
  obtain ⟨ad, cap, bb, o, rfl, hcap, hmax, hadr, -, hcell⟩ := h
  have Hok := Lib.hid hok
  have hPB := PB.begin w (Obj.cells #[.int .i64 (N : Int), .slice ad l.length cap] 75) N
  have hb3 : Below w.heap.size w (((w.alloc (Obj.cells #[.int .i64 (N : Int), .slice ad l.length cap] 75)).alloc (.cells (madeCells #[Value.slice none 0 0] N) 25)).alloc (Obj.cells #[.slice none 0 0, .slice none 0 0, .slice (some ⟨w.heap.size + 1, 0, none⟩) N N] 66)) :=
    (below2 w _ _).alloc (below2 w _ _).size _
  have HP := Lib.hid hPB; have HB := Lib.hid hb3
  clear hok hPB hb3
  have hmk := run_make_row' (P := Try.prog) 48 25 (.slice none 0 0) 24 Try.underlying48 infoS rfl .i64 .i64 N (by omega) (by omega)
  go_enter Try.func57, Try.ntmps57
  go_wp2
  generalize ((w.alloc (Obj.cells #[.int .i64 (N : Int), .slice ad l.length cap] 75)).alloc (.cells (madeCells #[Value.slice none 0 0] N) 25)).alloc (Obj.cells #[.slice none 0 0, .slice none 0 0, .slice (some ⟨w.heap.size + 1, 0, none⟩) N N] 66) = w1 at *
  have hsz1 : w.heap.size + 3 ≤ w1.heap.size := HP.out.sz
  go_loopg [14] l.length (fun g s14 wr => ∃ (k : Nat) (V : Nat → Value), k ≤ l.length ∧ g = l.length - k ∧ s14 = .int .i64 k ∧ PB wr (w.heap.size + 3) (w.heap.size + 2) (w.heap.size + 1) N V (netX (l.take k)) ∧ Below w.heap.size w wr)
  case atStart => exact ⟨0, _, Nat.zero_le _, rfl, rfl, by simpa [netX] using HP.out, HB.out⟩
  case round =>
    obtain ⟨k, V, hk, rfl, rfl, hp, hb⟩ := hrel
    have Hp := Lib.hid hp; have Hb := Lib.hid hb
    by_cases hlt : k < l.length
    · obtain rfl := hadr (by omega)
      obtain ⟨x, y, z, He, cx, cy, cz⟩ := arcs_at hcell hb hlt
      obtain ⟨o1, o2, o3, o4, o5, o6⟩ := (show ArcOk N (x, y, z) from He.out ▸ Hok.out k hlt)
      simp only at o1 o2 o3 o4 o5 o6
      obtain ⟨u, rfl⟩ : ∃ u : Nat, x = u := ⟨x.toNat, by omega⟩
      obtain ⟨v, rfl⟩ : ∃ v : Nat, y = v := ⟨y.toNat, by omega⟩
      obtain ⟨c, rfl⟩ : ∃ c : Nat, z = c := ⟨z.toNat, by omega⟩
      have hlen : ∀ r, r < N + 2 → (netX (l.take k) r).length ≤ 10000 := fun r _ => by
        have := netX_length (l.take k) r
        rw [List.length_take] at this
        omega
      have Hlen := Lib.hid hlen
      have hwr : w.heap.size ≤ wr.heap.size := hb.size
      clear hp hb hadr hcell hlen
      go_wp2_with (go_at_call 53; refine (fadd_any (w.heap.size + 3) (w.heap.size + 2) (w.heap.size + 1) N u v c V (netX (l.take k)) _ (by omega) (by omega) (by omega) Hlen.out (Hp.out.alloc _)).mono ?_; rintro e w5 ⟨rfl, hk5⟩; have hb5 := hk5.below (Hp.out.alloc _) (B := w.heap.size) (by rw [World.size_alloc]; omega) (by omega) (by omega); obtain ⟨V5, hp5, -, -⟩ := hk5; have Hp5 := Lib.hid hp5; have Hb5 := Lib.hid ((Hb.out.alloc hwr (Obj.cells #[.int .i64 (u : Int), .int .i64 (v : Int), .int .i64 (c : Int)] 72)).trans hb5); clear hp5 hb5)
      go_roundg (l.length - (k + 1))
      case measure => go_light; omega
      case rel => exact ⟨k + 1, V5, by omega, rfl, by go_num, by rw [netX_succ hlt He.out]; exact Hp5.out, Hb5.out⟩
    · obtain rfl : l.length = k := by omega
      clear hp hb hcell hadr
      go_wp2
      have hfull : l.take l.length = l := List.take_length
      exact bodyPost_ret (v := .pointer (some ⟨w.heap.size + 2, 0, none⟩)) (by simp [results, Try.results57, go_sem]) rfl ⟨w.heap.size + 3, w.heap.size + 2, w.heap.size + 1, V, rfl, by have := Hp.out; rwa [hfull] at this, by omega, by omega, Hb.out⟩

end Go.Proofs.Ytbnbhjeknocboaa
