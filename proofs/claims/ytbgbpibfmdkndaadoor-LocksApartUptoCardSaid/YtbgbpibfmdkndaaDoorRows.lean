/-
  NARROWER THAN 'FOR EVERY INPUT', by the rows' own cells (each row's printed sentence says how): LocksScripts: laid · LocksAll: laid · LocksBack: laid · LocksApart: laid.
  DERIVED. THE GIVEN ROWS OF THIS SEAT. 4 by the template 'for every input the law returns true; each argument reads behind the call as it read before'; 0 by the template 'total and deterministic' (their statements: YtbgbpibfmdkndaaDoorTotals.lean).
  GIVEN WITH THE SEED: the statements are not yours to turn. If you find one false, say at which input.
  Laid BY PROGRAM, IN A SANDBOX (cutbox-rows.mjs): the forced cells as the released guide's own fill.sh prints them over the translation 095853af8e293898… (all of the seat's roots in one cut). By AI agents, Wed Nov 11 2026. No macro, syntax, notation, axiom, sorry.
-/
import Derived.Test.YtbgbpibfmdkndaaDoorChecked
import GoSem.PinnedTables
import GoSem.Claim
import GoSem.ClaimJoined
import GoSem.ClaimMapViews
import Derived.JoinedTies
import Derived.KernelRfl
namespace Go.Proofs.YtbgbpibfmdkndaaDoor
/- THE CELL 'sum', in the pinned program and in every row, IS THE sha256 OF THE DUMP (.gsa) THAT YtbgbpibfmdkndaaDoorProg.lean LOADS. Nothing in Lean hashes anything: it is a label: what it is worth is what the hold of that sum in a sandbox is worth. -/
noncomputable def Tryd.pinned : Pinned := { name := "ytbgbpibfmdkndaadoor", sum := "095853af8e2938984685389a20f8168ce3aa68f7e5854c1bafd1e5a31c38af2d", checked := Tryd.checked }
namespace Rows
def none {H : Type} : Left H := { results := [], args := [] }

/- WHAT THE LISTED PACKAGE-LEVEL VARIABLES READ AS WHEN THE CALL BEGINS. Each datum BY PROGRAM (the guide's laid-datum.mjs) off the statement by which the dump's own 'gosem.cut.vars' lays the variable. In a bare row this is a premise. The card (YtbgbpibfmdkndaaDoorCards.lean) ties it to the program's text. -/
def laid_unicode_utf8_acceptRanges {H : Type} : DataW H := .agg [.agg [.lit (.int .u8 128), .lit (.int .u8 191)], .agg [.lit (.int .u8 160), .lit (.int .u8 191)], .agg [.lit (.int .u8 128), .lit (.int .u8 159)], .agg [.lit (.int .u8 144), .lit (.int .u8 191)], .agg [.lit (.int .u8 128), .lit (.int .u8 143)], .agg [.lit (.int .u8 0), .lit (.int .u8 0)], .agg [.lit (.int .u8 0), .lit (.int .u8 0)], .agg [.lit (.int .u8 0), .lit (.int .u8 0)], .agg [.lit (.int .u8 0), .lit (.int .u8 0)], .agg [.lit (.int .u8 0), .lit (.int .u8 0)], .agg [.lit (.int .u8 0), .lit (.int .u8 0)], .agg [.lit (.int .u8 0), .lit (.int .u8 0)], .agg [.lit (.int .u8 0), .lit (.int .u8 0)], .agg [.lit (.int .u8 0), .lit (.int .u8 0)], .agg [.lit (.int .u8 0), .lit (.int .u8 0)], .agg [.lit (.int .u8 0), .lit (.int .u8 0)]]
/-- One of Go's own tables, pinned by name: the form's constant. -/
def laid_unicode_utf8_first : DataW Unit := Go.Pinned.utf8First

/-- 'odysseylaw16.LocksScripts': WHATEVER THE INPUT: true; the input reads as it did. -/
def locksScriptsSpec : ChangeSpec := { name := "locksScripts", fn := fun _ => fun
  | [d] => { results := [.lit (.bool true)], args := [d] }
  | _ => none }
def locksScriptsRow : OpenClaim := { program := "ytbgbpibfmdkndaadoor", sum := "095853af8e2938984685389a20f8168ce3aa68f7e5854c1bafd1e5a31c38af2d", func := "odyssey/odysseylaw16.LocksScripts", spec := "locksScripts", unfollowed := true, recurses := true, named := ["unicode/utf8.first", "unicode/utf8.acceptRanges"], apart := false, laid := [("unicode/utf8.acceptRanges", laid_unicode_utf8_acceptRanges), ("unicode/utf8.first", laid_unicode_utf8_first)] }
def LocksScriptsSaid : Prop := locksScriptsRow.holds Tryd.pinned (OpenSpec.ofChange locksScriptsSpec)

/-- ITS FALSE NEIGHBOUR: 'it returns false'. Refute it at one input. -/
def locksScriptsWrong : ChangeSpec := { name := "locksScripts", fn := fun _ => fun
  | [d] => { results := [.lit (.bool false)], args := [d] }
  | _ => none }
def LocksScriptsWrongFalsely : Prop := locksScriptsRow.holds Tryd.pinned (OpenSpec.ofChange locksScriptsWrong)

/-- 'odysseylaw16.LocksAll': WHATEVER THE INPUT: true; the input reads as it did. -/
def locksAllSpec : ChangeSpec := { name := "locksAll", fn := fun _ => fun
  | [d1, d2, d3] => { results := [.lit (.bool true)], args := [d1, d2, d3] }
  | _ => none }
def locksAllRow : OpenClaim := { program := "ytbgbpibfmdkndaadoor", sum := "095853af8e2938984685389a20f8168ce3aa68f7e5854c1bafd1e5a31c38af2d", func := "odyssey/odysseylaw16.LocksAll", spec := "locksAll", unfollowed := true, recurses := true, named := ["unicode/utf8.first", "unicode/utf8.acceptRanges"], apart := false, laid := [("unicode/utf8.acceptRanges", laid_unicode_utf8_acceptRanges), ("unicode/utf8.first", laid_unicode_utf8_first)] }
def LocksAllSaid : Prop := locksAllRow.holds Tryd.pinned (OpenSpec.ofChange locksAllSpec)

/-- ITS FALSE NEIGHBOUR: 'it returns false'. Refute it at one input. -/
def locksAllWrong : ChangeSpec := { name := "locksAll", fn := fun _ => fun
  | [d1, d2, d3] => { results := [.lit (.bool false)], args := [d1, d2, d3] }
  | _ => none }
def LocksAllWrongFalsely : Prop := locksAllRow.holds Tryd.pinned (OpenSpec.ofChange locksAllWrong)

/-- 'odysseylaw16.LocksBack': WHATEVER THE INPUT: true; the input reads as it did. -/
def locksBackSpec : ChangeSpec := { name := "locksBack", fn := fun _ => fun
  | [d1, d2, d3] => { results := [.lit (.bool true)], args := [d1, d2, d3] }
  | _ => none }
def locksBackRow : OpenClaim := { program := "ytbgbpibfmdkndaadoor", sum := "095853af8e2938984685389a20f8168ce3aa68f7e5854c1bafd1e5a31c38af2d", func := "odyssey/odysseylaw16.LocksBack", spec := "locksBack", unfollowed := true, recurses := true, named := ["unicode/utf8.first", "unicode/utf8.acceptRanges"], apart := false, laid := [("unicode/utf8.acceptRanges", laid_unicode_utf8_acceptRanges), ("unicode/utf8.first", laid_unicode_utf8_first)] }
def LocksBackSaid : Prop := locksBackRow.holds Tryd.pinned (OpenSpec.ofChange locksBackSpec)

/-- ITS FALSE NEIGHBOUR: 'it returns false'. Refute it at one input. -/
def locksBackWrong : ChangeSpec := { name := "locksBack", fn := fun _ => fun
  | [d1, d2, d3] => { results := [.lit (.bool false)], args := [d1, d2, d3] }
  | _ => none }
def LocksBackWrongFalsely : Prop := locksBackRow.holds Tryd.pinned (OpenSpec.ofChange locksBackWrong)

/-- 'odysseylaw16.LocksApart': WHATEVER THE INPUT: true; the input reads as it did. -/
def locksApartSpec : ChangeSpec := { name := "locksApart", fn := fun _ => fun
  | [d1, d2] => { results := [.lit (.bool true)], args := [d1, d2] }
  | _ => none }
def locksApartRow : OpenClaim := { program := "ytbgbpibfmdkndaadoor", sum := "095853af8e2938984685389a20f8168ce3aa68f7e5854c1bafd1e5a31c38af2d", func := "odyssey/odysseylaw16.LocksApart", spec := "locksApart", unfollowed := true, recurses := true, named := ["unicode/utf8.first", "unicode/utf8.acceptRanges"], apart := false, laid := [("unicode/utf8.acceptRanges", laid_unicode_utf8_acceptRanges), ("unicode/utf8.first", laid_unicode_utf8_first)] }
def LocksApartSaid : Prop := locksApartRow.holds Tryd.pinned (OpenSpec.ofChange locksApartSpec)

/-- ITS FALSE NEIGHBOUR: 'it returns false'. Refute it at one input. -/
def locksApartWrong : ChangeSpec := { name := "locksApart", fn := fun _ => fun
  | [d1, d2] => { results := [.lit (.bool false)], args := [d1, d2] }
  | _ => none }
def LocksApartWrongFalsely : Prop := locksApartRow.holds Tryd.pinned (OpenSpec.ofChange locksApartWrong)

/- THE SECOND FORM. 'bulk': how many values and letters a reading holds, each counted each time it is reached (what is shared counts as often as it is met; a slice's spare places count too). A statement '..UptoSaid' is the law's where the arguments, and the package variables that the reading takes, are together of bulk at most 1048576: NARROWER than '..Said'. Prove '..Said' where nothing that the law and all that it calls make is longer than what came in: it says more and counts as full. Else prove '..UptoSaid'. A law counts once. -/
mutual
def uptoBulk {H : Type} : DataW H → Nat
  | .lit (.string bytes) => bytes.length + 1
  | .lit _ => 1
  | .nil => 1
  | .ptr d => uptoBulk d + 1
  | .slice elems spare => uptoBulkAll elems + uptoBulkAll spare + 1
  | .agg parts => uptoBulkAll parts + 1
  | .iface _ d => uptoBulk d + 1
  | .map entries => uptoBulkEntries entries + 1
  | .held _ => 1
def uptoBulkAll {H : Type} : List (DataW H) → Nat
  | [] => 0
  | d :: r => uptoBulk d + uptoBulkAll r
def uptoBulkEntries {H : Type} : List (Lit × DataW H) → Nat
  | [] => 0
  | x :: r => uptoBulkEntry x + uptoBulkEntries r
def uptoBulkEntry {H : Type} : Lit × DataW H → Nat
  | (.string bytes, d) => bytes.length + uptoBulk d + 1
  | (_, d) => uptoBulk d + 1
 end
def uptoSmall : (H : Type) → List (DataW H) → Bool := fun _ ds => decide (uptoBulkAll ds ≤ 1048576)
def OpenSpec.upto (s : _root_.Go.ChangeSpec) : _root_.Go.OpenSpec := { _root_.Go.OpenSpec.ofChange s with cond := some uptoSmall }

/-- 'odysseylaw16.LocksScripts', WHERE WHAT IT READS IS OF BULK AT MOST 1048576: true; the input reads as it did. -/
def locksScriptsUptoRow : OpenClaim := { program := "ytbgbpibfmdkndaadoor", sum := "095853af8e2938984685389a20f8168ce3aa68f7e5854c1bafd1e5a31c38af2d", func := "odyssey/odysseylaw16.LocksScripts", spec := "locksScripts", unfollowed := true, recurses := true, named := ["unicode/utf8.first", "unicode/utf8.acceptRanges"], apart := false, laid := [("unicode/utf8.acceptRanges", laid_unicode_utf8_acceptRanges), ("unicode/utf8.first", laid_unicode_utf8_first)], narrowed := true }
def LocksScriptsUptoSaid : Prop := locksScriptsUptoRow.holds Tryd.pinned (OpenSpec.upto locksScriptsSpec)

/-- 'odysseylaw16.LocksAll', WHERE WHAT IT READS IS OF BULK AT MOST 1048576: true; the input reads as it did. -/
def locksAllUptoRow : OpenClaim := { program := "ytbgbpibfmdkndaadoor", sum := "095853af8e2938984685389a20f8168ce3aa68f7e5854c1bafd1e5a31c38af2d", func := "odyssey/odysseylaw16.LocksAll", spec := "locksAll", unfollowed := true, recurses := true, named := ["unicode/utf8.first", "unicode/utf8.acceptRanges"], apart := false, laid := [("unicode/utf8.acceptRanges", laid_unicode_utf8_acceptRanges), ("unicode/utf8.first", laid_unicode_utf8_first)], narrowed := true }
def LocksAllUptoSaid : Prop := locksAllUptoRow.holds Tryd.pinned (OpenSpec.upto locksAllSpec)

/-- 'odysseylaw16.LocksBack', WHERE WHAT IT READS IS OF BULK AT MOST 1048576: true; the input reads as it did. -/
def locksBackUptoRow : OpenClaim := { program := "ytbgbpibfmdkndaadoor", sum := "095853af8e2938984685389a20f8168ce3aa68f7e5854c1bafd1e5a31c38af2d", func := "odyssey/odysseylaw16.LocksBack", spec := "locksBack", unfollowed := true, recurses := true, named := ["unicode/utf8.first", "unicode/utf8.acceptRanges"], apart := false, laid := [("unicode/utf8.acceptRanges", laid_unicode_utf8_acceptRanges), ("unicode/utf8.first", laid_unicode_utf8_first)], narrowed := true }
def LocksBackUptoSaid : Prop := locksBackUptoRow.holds Tryd.pinned (OpenSpec.upto locksBackSpec)

/-- 'odysseylaw16.LocksApart', WHERE WHAT IT READS IS OF BULK AT MOST 1048576: true; the input reads as it did. -/
def locksApartUptoRow : OpenClaim := { program := "ytbgbpibfmdkndaadoor", sum := "095853af8e2938984685389a20f8168ce3aa68f7e5854c1bafd1e5a31c38af2d", func := "odyssey/odysseylaw16.LocksApart", spec := "locksApart", unfollowed := true, recurses := true, named := ["unicode/utf8.first", "unicode/utf8.acceptRanges"], apart := false, laid := [("unicode/utf8.acceptRanges", laid_unicode_utf8_acceptRanges), ("unicode/utf8.first", laid_unicode_utf8_first)], narrowed := true }
def LocksApartUptoSaid : Prop := locksApartUptoRow.holds Tryd.pinned (OpenSpec.upto locksApartSpec)

end Rows
end Go.Proofs.YtbgbpibfmdkndaaDoor
