/- What the law's second half reads and writes. -/
import Derived.Test.YtfflnpcbpcldeaaFArcs
import Derived.Test.YtfflnpcbpcldeaaRising
namespace Go.Proofs.Ytfflnpcbpcldeaa
open Go.RowKit

/-- What flow.Most has answered. -/
def MostRes (w : World) (base : Nat) (n : Int) (l : List (Int × Int × Int)) (s t c a : Int) (v fv sv : Value) : Prop :=
  (c ≠ 0 ∧ v = .int .i64 0 ∧ fv = .slice none 0 0 ∧ sv = .slice none 0 0) ∨
  (c = 0 ∧ a = 0 ∧ ∃ (N s' t' sum : Nat) (X : Nat → List Nat) (lev : Nat → Int), n = N ∧ s = s' ∧ t = t' ∧ v = .int .i64 (sum : Int) ∧ MostOk N (2 * l.length) l s' t' sum X lev ∧
    w.ownsRow base 3 1 fv l.length ((ints (flowsL X l.length)).map (Value.int .i64)) ∧ w.ownsRow base 3 1 sv (sideL lev N).length ((ints (sideL lev N)).map (Value.int .i64)))
theorem MostRes.below {w w' : World} {base : Nat} {n : Int} {l : List (Int × Int × Int)} {s t c a : Int} {v fv sv : Value} (h : MostRes w base n l s t c a v fv sv) (hb : Below w.heap.size w w') : MostRes w' base n l s t c a v fv sv := by
  rcases h with h | ⟨h1, h2, N, s', t', sum, X, lev, e1, e2, e3, e4, h3, h4, h5⟩
  · exact Or.inl h
  · exact Or.inr ⟨h1, h2, N, s', t', sum, X, lev, e1, e2, e3, e4, h3, ownsRow_below h4 hb (Nat.le_refl _), ownsRow_below h5 hb (Nat.le_refl _)⟩

/-- What the law's second half is given. -/
structure LawIn (w : World) (N : Nat) (l : List (Int × Int × Int)) (s t sum : Nat) (fl : Nat → Nat) (lev : Nat → Int) (fv sv : Value) : Prop where
  fls : IsInts w fv (ints ((List.range l.length).map fl))
  side : IsInts w sv (ints (sideL lev N))
  law : MostLaw N l s t sum fl lev
  hN : N ≤ 100
  hl : l.length ≤ 1000
  ok : ∀ j, j < l.length → ArcOk N (l.getD j (0, 0, 0))
  hs : s < N
  ht : t < N
theorem LawIn.of {w : World} {base : Nat} {n : Int} {l : List (Int × Int × Int)} {s t a : Int} {v fv sv : Value} (h : MostRes w base n l s t 0 a v fv sv) (hsp : MostSpec n l s t 0 a) :
    a = 0 ∧ ∃ (N s' t' sum : Nat) (fl : Nat → Nat) (lev : Nat → Int), n = N ∧ s = s' ∧ t = t' ∧ v = .int .i64 (sum : Int) ∧ LawIn w N l s' t' sum fl lev fv sv := by
  rcases h with ⟨h, -⟩ | ⟨-, ha, N, s', t', sum, X, lev, rfl, rfl, rfl, rfl, hok, hf, hsd⟩
  · exact absurd rfl h
  · obtain ⟨hnet, hends⟩ : NetSpec (N : Int) l 0 0 ∧ EndsSpec (N : Int) s' t' 0 a := by
      rcases hsp with ⟨-, h⟩ | h
      · exact absurd rfl h
      · exact h
    obtain ⟨-, hbig, harcs⟩ := hnet.zero
    unfold NetBig at hbig
    unfold EndsSpec at hends
    refine ⟨ha, N, s', t', sum, fun k => leftX X (2 * k + 1), lev, rfl, rfl, rfl, rfl, IsInts.owned hf, IsInts.owned hsd, hok.law (by omega), by omega, by omega, harcs, by omega, by omega⟩
section
variable {w : World} {N : Nat} {l : List (Int × Int × Int)} {s t sum : Nat} {fl : Nat → Nat} {lev : Nat → Int} {fv sv : Value}
theorem LawIn.below (h : LawIn w N l s t sum fl lev fv sv) {w' : World} (hb : Below w.heap.size w w') : LawIn w' N l s t sum fl lev fv sv := ⟨h.fls.below hb, h.side.below hb, h.law, h.hN, h.hl, h.ok, h.hs, h.ht⟩
theorem LawIn.forms (h : LawIn w N l s t sum fl lev fv sv) : ∃ af cf aw cw, fv = .slice af l.length cf ∧ sv = .slice aw (sideL lev N).length cw := by
  obtain ⟨af, cf, _, _, rfl, -⟩ := h.fls
  obtain ⟨aw, cw, _, _, rfl, -⟩ := h.side
  refine ⟨af, cf, aw, cw, ?_, ?_⟩
  · rw [ints_length, List.length_map, List.length_range]
  · rw [ints_length]
theorem LawIn.few (h : LawIn w N l s t sum fl lev fv sv) {k : Nat} (hk : k < l.length) : fl k ≤ 1000000 ∧ capL l k ≤ 1000000 := by
  obtain ⟨-, -, -, -, -, o6⟩ := h.ok k hk
  have hc : capL l k ≤ 1000000 := by show (l.getD k (0, 0, 0)).2.2.toNat ≤ 1000000; omega
  have := h.law.le k hk
  omega
theorem LawIn.out_few (h : LawIn w N l s t sum fl lev fv sv) (u : Nat) {k : Nat} (hk : k ≤ l.length) : outL l fl u k ≤ 1000000000 ∧ -1000000000 ≤ outL l fl u k := by
  have h1 : outL l fl u k ≤ k * 1000000 := sumZ_le fun j hj => by
    have := (h.few (k := j) (by omega)).1
    split <;> split <;> omega
  have h2 : -(k * 1000000) ≤ outL l fl u k := sumZ_ge fun j hj => by
    have := (h.few (k := j) (by omega)).1
    split <;> split <;> omega
  have h3 := h.hl
  omega
theorem LawIn.cut_few (h : LawIn w N l s t sum fl lev fv sv) {k : Nat} (hk : k ≤ l.length) : cutL l lev k ≤ 1000000000 ∧ -1000000000 ≤ cutL l lev k := by
  have h1 : cutL l lev k ≤ k * 1000000 := sumZ_le fun j hj => by
    have := (h.few (k := j) (by omega)).2
    split <;> omega
  have h2 : -(k * 1000000) ≤ cutL l lev k := sumZ_ge fun j hj => by
    split <;> omega
  have h3 := h.hl
  omega
end
theorem outL_succ (l : List (Int × Int × Int)) (fl : Nat → Nat) (u k : Nat) : outL l fl u (k + 1) = outL l fl u k + ((if fromL l k = u then (fl k : Int) else 0) - (if toL l k = u then (fl k : Int) else 0)) := rfl
theorem cutL_succ (l : List (Int × Int × Int)) (lev : Nat → Int) (k : Nat) : cutL l lev (k + 1) = cutL l lev k + (if 0 ≤ lev (fromL l k) ∧ lev (toL l k) < 0 then (capL l k : Int) else 0) := rfl
theorem range_map_getD (fl : Nat → Nat) {k n : Nat} (hk : k < n) : ((List.range n).map fl).getD k 0 = fl k := by simp [List.getD, hk]

/-- The law's two tables: what flows out of each node, and which are reached. -/
structure TS (w0 wr : World) (bO bI N : Nat) (f : Nat → Int) (I : Nat → Bool) : Prop where
  hb : Below w0.heap.size w0 wr
  ro : wr.rowIs bO 3 N (ri f)
  rn : wr.rowIs bI 4 N (rb I)
  hO : w0.heap.size ≤ bO
  hI : w0.heap.size ≤ bI
  hne : bO ≠ bI
section
variable {w0 wr w' : World} {bO bI N : Nat} {f : Nat → Int} {I : Nat → Bool}
theorem TS.below (h : TS w0 wr bO bI N f I) (hb : Below wr.heap.size wr w') : TS w0 w' bO bI N f I :=
  ⟨h.hb.trans (hb.mono h.hb.size), h.ro.of_block (hb.block _ h.ro.lt), h.rn.of_block (hb.block _ h.rn.lt), h.hO, h.hI, h.hne⟩
theorem TS.setO (h : TS w0 wr bO bI N f I) (k : Nat) (x : Int) : TS w0 (wr.setCell ⟨bO, k, none⟩ (.int .i64 x)) bO bI N (fun q => if q = k then x else f q) I :=
  ⟨h.hb.setCell h.hO _, row_set_ri h.ro k x, h.rn.setOther (a := ⟨bO, k, none⟩) (Ne.symm h.hne) _, h.hO, h.hI, h.hne⟩
theorem TS.setI (h : TS w0 wr bO bI N f I) (k : Nat) (x : Bool) : TS w0 (wr.setCell ⟨bI, k, none⟩ (.bool x)) bO bI N f (fun q => if q = k then x else I q) :=
  ⟨h.hb.setCell h.hI _, h.ro.setOther (a := ⟨bI, k, none⟩) h.hne _, row_set_rb h.rn k x, h.hO, h.hI, h.hne⟩
theorem TS.congr {g : Nat → Int} {J : Nat → Bool} (h : TS w0 wr bO bI N f I) (e : ∀ k, k < N → f k = g k) (e' : ∀ k, k < N → I k = J k) : TS w0 wr bO bI N g J :=
  ⟨h.hb, row_ri h.ro e, row_rb h.rn e', h.hO, h.hI, h.hne⟩
theorem TS.facts (h : TS w0 wr bO bI N f I) : bO < wr.heap.size ∧ bI < wr.heap.size ∧ bO ≠ bI := ⟨h.ro.lt, h.rn.lt, h.hne⟩
theorem TS.start (w : World) (N : Nat) : TS w ((w.alloc (.cells (madeCells #[Value.int .i64 0] N) 3)).alloc (.cells (madeCells #[Value.bool false] N) 4)) w.heap.size (w.heap.size + 1) N (fun _ => 0) (fun _ => false) := by
  have h1 := World.rowIs_made w (.int .i64 0) N 3
  have h2 := World.rowIs_made (w.alloc (.cells (madeCells #[Value.int .i64 0] N) 3)) (.bool false) N 4
  rw [World.size_alloc] at h2
  exact ⟨below2 w _ _, (h1.alloc _).congr fun _ _ => rfl, h2.congr fun _ _ => rfl, Nat.le_refl _, by omega, by omega⟩
end

end Go.Proofs.Ytfflnpcbpcldeaa
