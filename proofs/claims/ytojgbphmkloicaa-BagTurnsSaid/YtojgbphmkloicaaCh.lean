/- Two keys compared. -/
import Derived.ChangeKeysEq
import Derived.Test.YtojgbphmkloicaaBa
namespace Go.Proofs.Ytojgbphmkloicaa
open Go Go.RowKit Go.Sort
set_option maxHeartbeats 800000
theorem part0 (a b c : Value) (w : World) : (part 3 #[a, b, c] 0).run Try.prog w = .ok a w := by kernel_rfl
theorem part1 (a b c : Value) (w : World) : (part 3 #[a, b, c] 1).run Try.prog w = .ok b w := by kernel_rfl
theorem part2 (a b c : Value) (w : World) : (part 3 #[a, b, c] 2).run Try.prog w = .ok c w := by kernel_rfl
theorem eqItems3 (x y : Key) (w : World) : (Op.eqItems 9999 3 1 #[.int .i64 x.a, .int .i64 x.b, .int .i64 x.c] #[.int .i64 y.a, .int .i64 y.b, .int .i64 y.c] [0, 1, 2]).run Try.prog w = .ok (decide (x = y)) w := by
  have hu : Try.prog.underlying 3 = some (.int .i64) := by kernel_rfl
  have he : ∀ (a b : Int) (w : World), (Op.equalIn 9999 3 (.int .i64 a) (.int .i64 b)).run Try.prog w = .ok (a == b) w := fun a b w => run_equalIn_int (P := Try.prog) w 9998 3 .i64 .i64 a b hu
  obtain ⟨a, b, c⟩ := x
  obtain ⟨a', b', c'⟩ := y
  simp only [Op.eqItems, Sem.run_bind, Nat.mul_one, part0, he, Result.andThen_ok]
  by_cases h1 : a = a'
  · by_cases h2 : b = b'
    · by_cases h3 : c = c' <;> simp [h1, h2, h3, part1, part2, he]
    · simp [h1, h2, part1, he]
  · simp [h1]
theorem eqKk (x y : Key) (w : World) : (Op.equalIn 10000 36 (.agg #[.int .i64 x.a, .int .i64 x.b, .int .i64 x.c]) (.agg #[.int .i64 y.a, .int .i64 y.b, .int .i64 y.c])).run Try.prog w = .ok (decide (x = y)) w := by
  obtain ⟨i, hi⟩ := Option.isSome_iff_exists.1 (show (Try.prog.info? 3).isSome = true by kernel_rfl)
  rw [show (10000 : Nat) = 9999 + 1 from rfl, run_equalIn_array w 9999 _ _ (show Try.prog.underlying 36 = some (.array 3 3) by kernel_rfl) hi, show Try.prog.cellsOf 3 = 1 by kernel_rfl]
  exact eqItems3 x y w
end Go.Proofs.Ytojgbphmkloicaa
