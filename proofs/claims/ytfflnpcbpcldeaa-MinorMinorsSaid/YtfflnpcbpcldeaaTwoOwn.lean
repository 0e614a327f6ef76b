/- 'p, q := R.Own(g), R.Own(h)': two graphs of one's own. -/
import Derived.Test.YtfflnpcbpcldeaaPutsMem
import Derived.Test.YtfflnpcbpcldeaaTwo
namespace Go.Proofs.Ytfflnpcbpcldeaa
open Go.RowKit

theorem eg_own : ∀ args w, (callFunc 11 args).run Try.prog w = .ok (.enter 11 args) w := enters_of Try.func11 (by kernel_rfl) rfl

/-- A graph in a block of one's own, between B and T. -/
def GraphIn (n : Int) (l : List (Int × Int)) (B T : Nat) (w : World) (v : Value) : Prop := ∃ s, v = .agg #[.int .i64 n, s] ∧ EdgesIn w B T s l
theorem GraphIn.stays (n : Int) (l : List (Int × Int)) : Stays (GraphIn n l) := fun _ _ _ _ _ ⟨s, h1, h2⟩ _ hb => ⟨s, h1, h2.below hb⟩
theorem OwnPost.inside {n : Int} {l : List (Int × Int)} {w w' : World} {e : Ending} (h : OwnPost n l w e w') : ∃ v, e = .returned v ∧ GraphIn n l w.heap.size w'.heap.size w' v ∧ Below w.heap.size w w' := by
  obtain ⟨v, h1, h2, h3⟩ := h
  exact ⟨_, h1, ⟨v, rfl, h2.inside⟩, h3⟩

/-- What stands when both are stored. -/
theorem own_two {w w0 w4 : World} {n m : Int} {s t p q : Value} {l k : List (Int × Int)} {obj : Obj} {X Y BA TA BB TB : Nat} {f g : Nat → Value} (hst : TwoSt w w0 n s l m t k)
    (hI : TwoI w0 (GraphIn n l) (GraphIn m k) obj true true true true w4 (.agg #[.int .i64 n, p]) (.agg #[.int .i64 m, q]) X Y BA TA BB TB)
    (hX : w4.rowIs X 24 2 f) (hY : w4.rowIs Y 24 2 g) :
    PEnv w ((((w4.setCell ⟨X, 0, none⟩ (.int .i64 n)).setCell ⟨X, 1, none⟩ p).setCell ⟨Y, 0, none⟩ (.int .i64 m)).setCell ⟨Y, 1, none⟩ q) n s l m t k X p Y q := by
  obtain ⟨⟨p', hp, hpe⟩, -⟩ := hI.hA rfl
  obtain ⟨⟨q', hq, hqe⟩, -⟩ := hI.hB rfl
  simp only [Value.agg.injEq, Array.mk.injEq, List.cons.injEq, true_and, and_true] at hp hq
  subst hp hq
  obtain ⟨_, x1, _⟩ := hI.hX rfl
  obtain ⟨_, y1, _⟩ := hI.hY rfl
  have hXY := hI.xy rfl rfl
  have xA := hI.xA rfl rfl
  have yA := hI.yA rfl rfl
  have xB := hI.xB rfl rfl
  have yB := hI.yB rfl rfl
  have hb : Below w0.heap.size w0 ((((w4.setCell ⟨X, 0, none⟩ (.int .i64 n)).setCell ⟨X, 1, none⟩ p).setCell ⟨Y, 0, none⟩ (.int .i64 m)).setCell ⟨Y, 1, none⟩ q) := four_below hI.below x1 y1 _ _ _ _
  obtain ⟨e0, e1, e2, e3⟩ := four_set hX hY hXY (.int .i64 n) p (.int .i64 m) q
  exact ⟨hst.below hb, ⟨e0, e1, ((((hpe.set xA 0 _).set xA 1 _).set yA 0 _).set yA 1 _).edges⟩, ⟨e2, e3, ((((hqe.set xB 0 _).set xB 1 _).set yB 0 _).set yB 1 _).edges⟩⟩

/-- A new block that is a row of two cells. -/
theorem row_of_block {w : World} {X : Nat} {c d : Value} {T : TypeId} (h : w.heap[X]? = some (.cells #[c, d] T (0, 0))) : w.rowIs X T 2 (fun i => if i = 0 then c else d) :=
  ⟨_, h, rfl, fun i hi => by
    match i, hi with
    | 0, _ => rfl
    | 1, _ => rfl⟩

end Go.Proofs.Ytfflnpcbpcldeaa
