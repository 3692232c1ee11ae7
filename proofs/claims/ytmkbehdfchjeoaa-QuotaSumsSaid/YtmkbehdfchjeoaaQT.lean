/- How arrays of four ints are held against each other. -/
import Derived.Test.YtmkbehdfchjeoaaQF
set_option linter.unusedVariables false
set_option linter.unusedSimpArgs false
set_option linter.unnecessarySimpa false
namespace Go.Proofs.Ytmkbehdfchjeoaa
open Go.RowKit Go.ChangeShapes Go.WideShapes Go.ChangeAt
theorem part0 (a b c d : Value) (w : World) : (part 3 #[a, b, c, d] 0).run Try.prog w = .ok a w := by kernel_rfl
theorem part1 (a b c d : Value) (w : World) : (part 3 #[a, b, c, d] 1).run Try.prog w = .ok b w := by kernel_rfl
theorem part2 (a b c d : Value) (w : World) : (part 3 #[a, b, c, d] 2).run Try.prog w = .ok c w := by kernel_rfl
theorem part3 (a b c d : Value) (w : World) : (part 3 #[a, b, c, d] 3).run Try.prog w = .ok d w := by kernel_rfl
theorem eqArr (w : World) (d : Nat) (a0 a1 a2 a3 b0 b1 b2 b3 : Int) :
    (Op.equalIn (d + 2) 34 (.agg #[.int .i64 a0, .int .i64 a1, .int .i64 a2, .int .i64 a3]) (.agg #[.int .i64 b0, .int .i64 b1, .int .i64 b2, .int .i64 b3])).run Try.prog w = .ok ((a0 == b0) && ((a1 == b1) && ((a2 == b2) && (a3 == b3)))) w := by
  rw [Op.equalIn]
  simp [run_underlying Try.underlying34]
  rw [show List.range' 0 4 = [0, 1, 2, 3] from rfl]
  have e : ∀ (w : World) (a b : Int), (Op.equalIn (d + 1) 3 (.int .i64 a) (.int .i64 b)).run Try.prog w = .ok (a == b) w := fun w a b => run_equalIn_int w d 3 .i64 .i64 a b Try.underlying3
  by_cases h0 : a0 = b0
  · by_cases h1 : a1 = b1
    · by_cases h2 : a2 = b2
      · by_cases h3 : a3 = b3
        · simp [part0, part1, part2, part3, e, h0, h1, h2, h3]
        · simp [part0, part1, part2, part3, e, h0, h1, h2, h3]
      · simp [part0, part1, part2, part3, e, h0, h1, h2]
    · simp [part0, part1, part2, part3, e, h0, h1]
  · simp [part0, part1, part2, part3, e, h0]
theorem eqArr9 (w : World) (a0 a1 a2 a3 b0 b1 b2 b3 : Int) :
    (Op.equalIn 9999 34 (.agg #[.int .i64 a0, .int .i64 a1, .int .i64 a2, .int .i64 a3]) (.agg #[.int .i64 b0, .int .i64 b1, .int .i64 b2, .int .i64 b3])).run Try.prog w = .ok ((a0 == b0) && ((a1 == b1) && ((a2 == b2) && (a3 == b3)))) w := eqArr w 9997 a0 a1 a2 a3 b0 b1 b2 b3
end Go.Proofs.Ytmkbehdfchjeoaa
