/- Pairs of integers are compared. -/
import Derived.Test.YtnhhohhhpaejmaaPairMap
import Derived.ChangeKeysEq
namespace Go.Proofs.Ytnhhohhhpaejmaa
open Go.RowKit

theorem pair_equalIn (d : Nat) (x y x' y' : Int) (w : World) : (Op.equalIn (d + 1 + 1) 52 (.agg #[.int .i64 x, .int .i64 y]) (.agg #[.int .i64 x', .int .i64 y'])).run Try.prog w = .ok (decide (x = x' ∧ y = y')) w := by
  obtain ⟨i, hi, -⟩ := info_parts info3
  have hp : Try.prog.plainKey 3 = true := by kernel_rfl
  have p0 : ∀ (a b : Int), (part 3 #[.int .i64 a, .int .i64 b] 0).run Try.prog w = .ok (.int .i64 a) w := fun a b => run_part_plain w hp rfl
  have p1 : ∀ (a b : Int), (part 3 #[.int .i64 a, .int .i64 b] 1).run Try.prog w = .ok (.int .i64 b) w := fun a b => run_part_plain w hp rfl
  have q : ∀ (a b : Int), (Op.equalIn (d + 1) 3 (.int .i64 a) (.int .i64 b)).run Try.prog w = .ok (decide (a = b)) w := fun a b => by
    rw [run_equalIn_int w d _ .i64 .i64 a b Try.underlying3]
    by_cases h : a = b <;> simp [h]
  rw [run_equalIn_array w (d + 1) _ _ pair_type hi, Try.cellsInt]
  simp only [List.range, List.range.loop, Op.eqItems, Sem.run_bind, Nat.zero_mul, Nat.one_mul, Nat.mul_one, p0, p1, q, Result.andThen_ok]
  by_cases h1 : x = x' <;> by_cases h2 : y = y' <;> simp [h1, h2, p0, p1, q]

theorem pair_neq (x y x' y' : Int) (w : World) : (Op.equalIn 10000 52 (.agg #[.int .i64 x, .int .i64 y]) (.agg #[.int .i64 x', .int .i64 y'])).run Try.prog w = .ok (decide (x = x' ∧ y = y')) w := pair_equalIn 9998 x y x' y' w

end Go.Proofs.Ytnhhohhhpaejmaa
