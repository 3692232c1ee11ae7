/- The walk of RegistryForEver as the row wants it. -/
import Derived.Test.YtpmoanjeoaeabaaDoorRR
import Derived.Test.YtpmoanjeoaeabaaDoorDQ
set_option linter.unusedVariables false
set_option linter.unusedSimpArgs false
namespace Go.Proofs.YtpmoanjeoaeabaaDoor
open Go.RowKit Go.ChangeShapes Go.WideShapes Go.ChangeAt
theorem sized_of {P : Program} {H : Type} {ts : List TypeId} {ds : List (DataW H)} (h : (DataW.weightsEach P ts ds).all (· ≤ reachBytes) = true) {j : Nat} {t e : TypeId} {d : DataW H} {n b : Nat} (ht : ts[j]? = some t) (hd : ds[j]? = some d) (hu : P.underlying t = some (.slice e))
    (hb : P.bytesOf e = b) (he : n = 0 ∨ ∃ ys rs, d = .slice ys rs ∧ ys.length = n) : n * b ≤ 140737488351232 := by
  rcases he with rfl | ⟨ys, rs, rfl, rfl⟩
  · simp
  · have h1 := sized_slice h ht hd hu
    rw [hb] at h1
    have h2 : ys.length * b ≤ (ys.length + rs.length) * b := Nat.mul_le_mul_right _ (by omega)
    have h3 : reachBytes = 140737488351232 := by decide
    omega
theorem registryForEver_walk (A : Option Addr) (n c : Nat) (l : List Df) (w : World) (hT : Lib.Utf8Tabs 0 1 w) (w0 : n = l.length ∧ DefsAt w A c l) (_ : n * 40 ≤ 140737488351232) :
    Calls Tryd.prog 9 #[.slice A n c] w fun e w' => e = .returned (.bool true) ∧ Below w.heap.size w w' := forEver_any n w0.1 w0.2 hT
end Go.Proofs.YtpmoanjeoaeabaaDoor
