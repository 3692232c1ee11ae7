/- The tables from the statements' own words; a world in which they stand; the walks as the rows want them. -/
import Derived.Test.YtbgbpibfmdkndaaDoorLR
import Derived.Test.YtbgbpibfmdkndaaDoorLT
import Derived.Test.YtbgbpibfmdkndaaDoorLU
import Derived.Test.YtbgbpibfmdkndaaDoorLV
import Derived.Test.YtbgbpibfmdkndaaDoorRows
import Derived.Lib.LaidU8
import Derived.MakeChecks
set_option linter.unusedVariables false
set_option linter.unusedSimpArgs false
namespace Go.Proofs.YtbgbpibfmdkndaaDoor
open Go.RowKit Go.ChangeShapes Go.WideShapes Go.ChangeAt
theorem first_same : Rows.laid_unicode_utf8_first = Lib.firstData := by kernel_rfl
theorem accept_same : (Rows.laid_unicode_utf8_acceptRanges : DataW Unit) = Lib.acceptData := by kernel_rfl
theorem of_laid_upto {W : World} (h : laidMet Tryd.prog [("unicode/utf8.acceptRanges", Rows.laid_unicode_utf8_acceptRanges), ("unicode/utf8.first", Rows.laid_unicode_utf8_first)] W) : Lib.Utf8Tabs 0 1 W := by
  rw [first_same, accept_same] at h
  exact utf8Tabs_of_reads Tryd.lays260 ⟨by kernel_rfl, by kernel_rfl, by kernel_rfl, by kernel_rfl, by kernel_rfl, by kernel_rfl, by kernel_rfl⟩ (Lib.laidMet.reads h (.tail _ (.head _))) (Lib.laidMet.reads h (.head _))
/-- a world in which the two tables stand -/
noncomputable def laidWorld (os : Os) : World :=
  let w0 := World.holding Tryd.prog os ⟨#[], #[], []⟩
  let put (h : Array Obj) (g : Nat) (cs : Array Value) : Array Obj := h.modify g fun
    | .cells _ t frozen => .cells cs t frozen
    | o => o
  let h1 := put w0.heap 0 (Lib.firstTab.map fun z => Value.int .u8 z).toArray
  let h2 := put h1 1 ((List.range 16).flatMap fun i => [Value.int .u8 (Lib.accLo i), Value.int .u8 (Lib.accHi i)]).toArray
  { w0 with heap := h2 }
section
variable (a0 : Option Addr) (len0 cap0 : Nat) (z0 : List LOp) (a1 : Int) (a2 : Option Addr) (len2 cap2 : Nat) (z2 : List ByteArray) (w : World)
theorem elems_cap {w : World} {A : Option Addr} {n c sz : Nat} {L : List (List Value)} (h : Elems w (.slice A n c) sz L) : L.length ≤ c := by
  obtain ⟨A', c', e, hc, _⟩ := h
  injection e with e1 e2 e3
  omega
theorem locksScripts_walk (hT : Lib.Utf8Tabs 0 1 w) (w0 : len0 = z0.length ∧ OpsAt w a0 cap0 z0) (y0 : bulkO z0 ≤ 1048576) :
    Calls Tryd.prog 3 #[.slice a0 len0 cap0] w fun e w' => e = .returned (.bool true) ∧ Below w.heap.size w w' := by
  obtain ⟨rfl, h0⟩ := w0
  refine (scripts_any hT (by simp) h0 y0 (Sat.start w)).mono ?_
  rintro e w' ⟨rfl, h⟩
  exact ⟨rfl, h.old (by simp)⟩
theorem locksAll_walk (hT : Lib.Utf8Tabs 0 1 w) (w0 : len0 = z0.length ∧ OpsAt w a0 cap0 z0) (y0 : bulkO z0 ≤ 1048576) (w1 : (Lit.int .i64 a1).wf = true) (w2 : len2 = z2.length ∧ Elems w (.slice a2 len2 cap2) 1 (z2.map strC)) (y2 : bulkS z2 ≤ 1048576) :
    Calls Tryd.prog 4 #[.slice a0 len0 cap0, .int .i64 a1, .slice a2 len2 cap2] w fun e w' => e = .returned (.bool true) ∧ Below w.heap.size w w' := by
  obtain ⟨rfl, h0⟩ := w0
  obtain ⟨rfl, h2⟩ := w2
  refine (all_any a1 hT (by simp) h0 y0 (wf64_of w1) (elems_keys h2) (bulkS_ok y2) (Sat.start w)).mono ?_
  rintro e w' ⟨rfl, h⟩
  exact ⟨rfl, h.old (by simp)⟩
theorem locksBack_walk (hT : Lib.Utf8Tabs 0 1 w) (w0 : len0 = z0.length ∧ OpsAt w a0 cap0 z0) (y0 : bulkO z0 ≤ 1048576) (w1 : (Lit.int .i64 a1).wf = true) (w2 : len2 = z2.length ∧ Elems w (.slice a2 len2 cap2) 1 (z2.map strC)) (y2 : bulkS z2 ≤ 1048576) :
    Calls Tryd.prog 5 #[.slice a0 len0 cap0, .int .i64 a1, .slice a2 len2 cap2] w fun e w' => e = .returned (.bool true) ∧ Below w.heap.size w w' := by
  obtain ⟨rfl, h0⟩ := w0
  obtain ⟨rfl, h2⟩ := w2
  have hc := elems_cap h2
  rw [List.length_map] at hc
  refine (back_any a1 hT (by simp) h0 y0 (wf64_of w1) (elems_keys h2) (bulkS_ok y2) hc (Sat.start w)).mono ?_
  rintro e w' ⟨rfl, h⟩
  exact ⟨rfl, h.old (by simp)⟩
theorem locksApart_walk (hT : Lib.Utf8Tabs 0 1 w) (w0 : len0 = z0.length ∧ OpsAt w a0 cap0 z0) (y0 : bulkO z0 ≤ 1048576) (w1 : (Lit.int .i64 a1).wf = true) :
    Calls Tryd.prog 6 #[.slice a0 len0 cap0, .int .i64 a1] w fun e w' => e = .returned (.bool true) ∧ Below w.heap.size w w' := by
  obtain ⟨rfl, h0⟩ := w0
  refine (apart_any a1 hT (by simp) h0 y0 (wf64_of w1) (Sat.start w)).mono ?_
  rintro e w' ⟨rfl, h⟩
  exact ⟨rfl, h.old (by simp)⟩
end
end Go.Proofs.YtbgbpibfmdkndaaDoor
