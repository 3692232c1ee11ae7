/- The tables from the statements' own words; a world in which they stand; the walk of CheckTells as the row wants it. -/
import Derived.Test.YtpmoanjeoaeabaaDoorA9
import Derived.Test.YtpmoanjeoaeabaaDoorRows
import Derived.Lib.LaidU8
import Derived.MakeChecks
set_option linter.unusedVariables false
set_option linter.unusedSimpArgs false
namespace Go.Proofs.YtpmoanjeoaeabaaDoor
open Go.RowKit Go.ChangeShapes Go.WideShapes Go.ChangeAt
theorem first_same : Rows.laid_unicode_utf8_first = Lib.firstData := by kernel_rfl
theorem accept_same : (Rows.laid_unicode_utf8_acceptRanges : DataW Unit) = Lib.acceptData := by kernel_rfl
theorem of_laid {W : World} (h : laidMetH Tryd.prog [("unicode/utf8.acceptRanges", Rows.laid_unicode_utf8_acceptRanges), ("unicode/utf8.first", Rows.laid_unicode_utf8_first)] W) : Lib.Utf8Tabs 0 1 W := by
  rw [MakeChecks.laidMetH_plain _ _ _ (by kernel_rfl), first_same, accept_same] at h
  exact utf8Tabs_of_reads Tryd.lays260 ⟨by kernel_rfl, by kernel_rfl, by kernel_rfl, by kernel_rfl, by kernel_rfl, by kernel_rfl, by kernel_rfl⟩ (Lib.laidMet.reads h (.tail _ (.head _))) (Lib.laidMet.reads h (.head _))
/-- a world in which the two tables stand -/
noncomputable def laidWorld (os : Os) : World :=
  let w0 := World.holding Tryd.prog os ⟨#[], #[], []⟩
  let put (h : Array Obj) (g : Nat) (cs : Array Value) : Array Obj := h.modify g fun
    | .cells _ t frozen => .cells cs t frozen
    | o => o
  let h1 := put w0.heap 0 (Lib.firstTab.map fun z => Value.int .u8 z).toArray
  let h2 := put h1 1 ((List.range 16).flatMap fun i => [Value.int .u8 (Lib.accLo i), Value.int .u8 (Lib.accHi i)]).toArray
  { w0 with heap := h2 }
theorem open24r {H : Type} {enc : TypeId × Value → H} {W : World} {base : Nat} {spare : Nat → Bool} {held : Bool} {v : Value} {d : DataW H} {ps : List MemPlace} {ts : List TypeId} {ds : List (DataW H)}
    (hsz : (DataW.weightsEach Tryd.prog (24 :: ts) (d :: ds)).all (· ≤ reachBytes) = true) (h : DataW.Trod enc Tryd.prog W base spare held 24 v d ps) : ∃ D : Df, v = D.v ∧ DefAt W D ∧ Fits D := open24s (wb_of (j := 0) hsz rfl rfl) h
theorem checkTells_walk (D : Df) (w : World) (hT : Lib.Utf8Tabs 0 1 w) (w0 : DefAt w D) (w1 : Fits D) : Calls Tryd.prog 3 #[D.v] w fun e w' => e = .returned (.bool true) ∧ Below w.heap.size w w' := checkTells_any D w0 w1 hT
end Go.Proofs.YtpmoanjeoaeabaaDoor
