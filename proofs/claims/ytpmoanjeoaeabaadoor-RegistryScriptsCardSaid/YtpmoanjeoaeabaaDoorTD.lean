/- The walk of RegistryScripts as the row wants it. -/
import Derived.Test.YtpmoanjeoaeabaaDoorTC
import Derived.Test.YtpmoanjeoaeabaaDoorRS
set_option linter.unusedVariables false
set_option linter.unusedSimpArgs false
namespace Go.Proofs.YtpmoanjeoaeabaaDoor
open Go.RowKit Go.ChangeShapes Go.WideShapes Go.ChangeAt
theorem registryScripts_walk (A : Option Addr) (n c : Nat) (l : List ROp) (w : World) (hT : Lib.Utf8Tabs 0 1 w) (w0 : n = l.length ∧ ROpsAt w A c l) (_ : n * 72 ≤ 140737488351232) :
    Calls Tryd.prog 10 #[.slice A n c] w fun e w' => e = .returned (.bool true) ∧ Below w.heap.size w w' := scripts_any n w0.1 w0.2 hT
end Go.Proofs.YtpmoanjeoaeabaaDoor
