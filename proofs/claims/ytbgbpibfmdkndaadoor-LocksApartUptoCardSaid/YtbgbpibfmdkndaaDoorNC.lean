/- The document's Next: the rune at a place, by a walk. -/
import Derived.Test.YtbgbpibfmdkndaaDoorNB
set_option linter.unusedVariables false
set_option linter.unusedSimpArgs false
namespace Go.Proofs.YtbgbpibfmdkndaaDoor
open Go.RowKit Go.ChangeShapes Go.WideShapes Go.ChangeAt
def nextV (x : Nat × Nat × Bool) : Value := .tuple #[.int .i64 x.1, .int .i64 x.2.1, .bool x.2.2]
theorem byte_of (s : ByteArray) (i : Nat) (h : i < s.size) : (s[i]'h).toNat = NM.byteAt s i := by
  unfold NM.byteAt
  congr 1
  simp [ByteArray.get!, getElem!_pos, h]
  rfl
end Go.Proofs.YtbgbpibfmdkndaaDoor
