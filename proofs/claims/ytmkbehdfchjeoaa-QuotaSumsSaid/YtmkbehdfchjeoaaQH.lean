/- The walk of QuotaMakes beside the reading of its arguments; the wf facts of plain ints are not wanted. -/
import Derived.Test.YtmkbehdfchjeoaaQG
import Derived.Test.YtmkbehdfchjeoaaQR
set_option linter.unusedVariables false
set_option linter.unusedSimpArgs false
set_option linter.unnecessarySimpa false
namespace Go.Proofs.Ytmkbehdfchjeoaa
open Go.RowKit
theorem quotaMakes_walk' (l o p0 p1 p2 p3 : Int) (w : World) (_ : (Lit.int .i64 l).wf = true) (_ : (Lit.int .i64 o).wf = true) :
    Calls Try.prog 4 #[.int .i64 l, .int .i64 o, .agg #[.int .i64 p0, .int .i64 p1, .int .i64 p2, .int .i64 p3]] w fun e w' => e = .returned (.bool true) ∧ Below w.heap.size w w' := quotaMakes_walk l o p0 p1 p2 p3 w
end Go.Proofs.Ytmkbehdfchjeoaa
