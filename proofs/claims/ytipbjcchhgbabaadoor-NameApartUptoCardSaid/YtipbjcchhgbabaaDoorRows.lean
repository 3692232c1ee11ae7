/-
  NARROWER THAN 'FOR EVERY INPUT', by the rows' own cells (each row's printed sentence says how): NameIs: laid · NameFolds: laid · NameCompares: laid · NameOwners: laid · NameWords: laid · NameFolded: laid · NameOrdered: laid · NameRejoined: laid · NameApart: laid · NameFoldedWords: laid.
  DERIVED. THE GIVEN ROWS OF THIS SEAT. 10 by the template 'for every input the law returns true; each argument reads behind the call as it read before'; 0 by the template 'total and deterministic' (their statements: YtipbjcchhgbabaaDoorTotals.lean).
  GIVEN WITH THE SEED: the statements are not yours to turn. If you find one false, say at which input.
  Laid BY PROGRAM, IN A SANDBOX (cutbox-rows.mjs): the forced cells as the released guide's own fill.sh prints them over the translation 610dde83c52924c6… (all of the seat's roots in one cut). By AI agents, Wed Nov 11 2026. No macro, syntax, notation, axiom, sorry.
-/
import Derived.Test.YtipbjcchhgbabaaDoorChecked
import GoSem.PinnedTables
import GoSem.Claim
import GoSem.ClaimJoined
import GoSem.ClaimMapViews
import Derived.JoinedTies
import Derived.KernelRfl
namespace Go.Proofs.YtipbjcchhgbabaaDoor
/- THE CELL 'sum', in the pinned program and in every row, IS THE sha256 OF THE DUMP (.gsa) THAT YtipbjcchhgbabaaDoorProg.lean LOADS. Nothing in Lean hashes anything: it is a label: what it is worth is what the hold of that sum in a sandbox is worth. -/
noncomputable def Tryd.pinned : Pinned := { name := "ytipbjcchhgbabaadoor", sum := "610dde83c52924c6cd424e8645568607811ad2fd013e027c882f4ecc2b0ec159", checked := Tryd.checked }
namespace Rows
def none {H : Type} : Left H := { results := [], args := [] }

/- WHAT THE LISTED PACKAGE-LEVEL VARIABLES READ AS WHEN THE CALL BEGINS. Each datum BY PROGRAM (the guide's laid-datum.mjs) off the statement by which the dump's own 'gosem.cut.vars' lays the variable. In a bare row this is a premise. The card (YtipbjcchhgbabaaDoorCards.lean) ties it to the program's text. -/
def laid_unicode_utf8_acceptRanges {H : Type} : DataW H := .agg [.agg [.lit (.int .u8 128), .lit (.int .u8 191)], .agg [.lit (.int .u8 160), .lit (.int .u8 191)], .agg [.lit (.int .u8 128), .lit (.int .u8 159)], .agg [.lit (.int .u8 144), .lit (.int .u8 191)], .agg [.lit (.int .u8 128), .lit (.int .u8 143)], .agg [.lit (.int .u8 0), .lit (.int .u8 0)], .agg [.lit (.int .u8 0), .lit (.int .u8 0)], .agg [.lit (.int .u8 0), .lit (.int .u8 0)], .agg [.lit (.int .u8 0), .lit (.int .u8 0)], .agg [.lit (.int .u8 0), .lit (.int .u8 0)], .agg [.lit (.int .u8 0), .lit (.int .u8 0)], .agg [.lit (.int .u8 0), .lit (.int .u8 0)], .agg [.lit (.int .u8 0), .lit (.int .u8 0)], .agg [.lit (.int .u8 0), .lit (.int .u8 0)], .agg [.lit (.int .u8 0), .lit (.int .u8 0)], .agg [.lit (.int .u8 0), .lit (.int .u8 0)]]
/-- One of Go's own tables, pinned by name: the form's constant. -/
def laid_unicode_utf8_first : DataW Unit := Go.Pinned.utf8First

/-- 'odysseylaw01.NameIs': WHATEVER THE INPUT: true; the input reads as it did. -/
def nameIsSpec : ChangeSpec := { name := "nameIs", fn := fun _ => fun
  | [d] => { results := [.lit (.bool true)], args := [d] }
  | _ => none }
def nameIsRow : OpenClaim := { program := "ytipbjcchhgbabaadoor", sum := "610dde83c52924c6cd424e8645568607811ad2fd013e027c882f4ecc2b0ec159", func := "odyssey/odysseylaw01.NameIs", spec := "nameIs", named := ["unicode/utf8.first", "unicode/utf8.acceptRanges"], apart := false, laid := [("unicode/utf8.acceptRanges", laid_unicode_utf8_acceptRanges), ("unicode/utf8.first", laid_unicode_utf8_first)] }
def NameIsSaid : Prop := nameIsRow.holds Tryd.pinned (OpenSpec.ofChange nameIsSpec)

/-- ITS FALSE NEIGHBOUR: 'it returns false'. Refute it at one input. -/
def nameIsWrong : ChangeSpec := { name := "nameIs", fn := fun _ => fun
  | [d] => { results := [.lit (.bool false)], args := [d] }
  | _ => none }
def NameIsWrongFalsely : Prop := nameIsRow.holds Tryd.pinned (OpenSpec.ofChange nameIsWrong)

/-- 'odysseylaw01.NameFolds': WHATEVER THE INPUT: true; the input reads as it did. -/
def nameFoldsSpec : ChangeSpec := { name := "nameFolds", fn := fun _ => fun
  | [d] => { results := [.lit (.bool true)], args := [d] }
  | _ => none }
def nameFoldsRow : OpenClaim := { program := "ytipbjcchhgbabaadoor", sum := "610dde83c52924c6cd424e8645568607811ad2fd013e027c882f4ecc2b0ec159", func := "odyssey/odysseylaw01.NameFolds", spec := "nameFolds", named := ["unicode/utf8.first", "unicode/utf8.acceptRanges"], apart := false, laid := [("unicode/utf8.acceptRanges", laid_unicode_utf8_acceptRanges), ("unicode/utf8.first", laid_unicode_utf8_first)] }
def NameFoldsSaid : Prop := nameFoldsRow.holds Tryd.pinned (OpenSpec.ofChange nameFoldsSpec)

/-- ITS FALSE NEIGHBOUR: 'it returns false'. Refute it at one input. -/
def nameFoldsWrong : ChangeSpec := { name := "nameFolds", fn := fun _ => fun
  | [d] => { results := [.lit (.bool false)], args := [d] }
  | _ => none }
def NameFoldsWrongFalsely : Prop := nameFoldsRow.holds Tryd.pinned (OpenSpec.ofChange nameFoldsWrong)

/-- 'odysseylaw01.NameCompares': WHATEVER THE INPUT: true; the input reads as it did. -/
def nameComparesSpec : ChangeSpec := { name := "nameCompares", fn := fun _ => fun
  | [d1, d2] => { results := [.lit (.bool true)], args := [d1, d2] }
  | _ => none }
def nameComparesRow : OpenClaim := { program := "ytipbjcchhgbabaadoor", sum := "610dde83c52924c6cd424e8645568607811ad2fd013e027c882f4ecc2b0ec159", func := "odyssey/odysseylaw01.NameCompares", spec := "nameCompares", named := ["unicode/utf8.first", "unicode/utf8.acceptRanges"], apart := false, laid := [("unicode/utf8.acceptRanges", laid_unicode_utf8_acceptRanges), ("unicode/utf8.first", laid_unicode_utf8_first)] }
def NameComparesSaid : Prop := nameComparesRow.holds Tryd.pinned (OpenSpec.ofChange nameComparesSpec)

/-- ITS FALSE NEIGHBOUR: 'it returns false'. Refute it at one input. -/
def nameComparesWrong : ChangeSpec := { name := "nameCompares", fn := fun _ => fun
  | [d1, d2] => { results := [.lit (.bool false)], args := [d1, d2] }
  | _ => none }
def NameComparesWrongFalsely : Prop := nameComparesRow.holds Tryd.pinned (OpenSpec.ofChange nameComparesWrong)

/-- 'odysseylaw01.NameOwners': WHATEVER THE INPUT: true; the input reads as it did. -/
def nameOwnersSpec : ChangeSpec := { name := "nameOwners", fn := fun _ => fun
  | [d] => { results := [.lit (.bool true)], args := [d] }
  | _ => none }
def nameOwnersRow : OpenClaim := { program := "ytipbjcchhgbabaadoor", sum := "610dde83c52924c6cd424e8645568607811ad2fd013e027c882f4ecc2b0ec159", func := "odyssey/odysseylaw01.NameOwners", spec := "nameOwners", named := ["unicode/utf8.first", "unicode/utf8.acceptRanges"], apart := false, laid := [("unicode/utf8.acceptRanges", laid_unicode_utf8_acceptRanges), ("unicode/utf8.first", laid_unicode_utf8_first)] }
def NameOwnersSaid : Prop := nameOwnersRow.holds Tryd.pinned (OpenSpec.ofChange nameOwnersSpec)

/-- ITS FALSE NEIGHBOUR: 'it returns false'. Refute it at one input. -/
def nameOwnersWrong : ChangeSpec := { name := "nameOwners", fn := fun _ => fun
  | [d] => { results := [.lit (.bool false)], args := [d] }
  | _ => none }
def NameOwnersWrongFalsely : Prop := nameOwnersRow.holds Tryd.pinned (OpenSpec.ofChange nameOwnersWrong)

/-- 'odysseylaw01.NameWords': WHATEVER THE INPUT: true; the input reads as it did. -/
def nameWordsSpec : ChangeSpec := { name := "nameWords", fn := fun _ => fun
  | [d] => { results := [.lit (.bool true)], args := [d] }
  | _ => none }
def nameWordsRow : OpenClaim := { program := "ytipbjcchhgbabaadoor", sum := "610dde83c52924c6cd424e8645568607811ad2fd013e027c882f4ecc2b0ec159", func := "odyssey/odysseylaw01.NameWords", spec := "nameWords", named := ["unicode/utf8.first", "unicode/utf8.acceptRanges"], apart := false, laid := [("unicode/utf8.acceptRanges", laid_unicode_utf8_acceptRanges), ("unicode/utf8.first", laid_unicode_utf8_first)] }
def NameWordsSaid : Prop := nameWordsRow.holds Tryd.pinned (OpenSpec.ofChange nameWordsSpec)

/-- ITS FALSE NEIGHBOUR: 'it returns false'. Refute it at one input. -/
def nameWordsWrong : ChangeSpec := { name := "nameWords", fn := fun _ => fun
  | [d] => { results := [.lit (.bool false)], args := [d] }
  | _ => none }
def NameWordsWrongFalsely : Prop := nameWordsRow.holds Tryd.pinned (OpenSpec.ofChange nameWordsWrong)

/-- 'odysseylaw01.NameFolded': WHATEVER THE INPUT: true; the input reads as it did. -/
def nameFoldedSpec : ChangeSpec := { name := "nameFolded", fn := fun _ => fun
  | [d] => { results := [.lit (.bool true)], args := [d] }
  | _ => none }
def nameFoldedRow : OpenClaim := { program := "ytipbjcchhgbabaadoor", sum := "610dde83c52924c6cd424e8645568607811ad2fd013e027c882f4ecc2b0ec159", func := "odyssey/odysseylaw01.NameFolded", spec := "nameFolded", named := ["unicode/utf8.first", "unicode/utf8.acceptRanges"], apart := false, laid := [("unicode/utf8.acceptRanges", laid_unicode_utf8_acceptRanges), ("unicode/utf8.first", laid_unicode_utf8_first)] }
def NameFoldedSaid : Prop := nameFoldedRow.holds Tryd.pinned (OpenSpec.ofChange nameFoldedSpec)

/-- ITS FALSE NEIGHBOUR: 'it returns false'. Refute it at one input. -/
def nameFoldedWrong : ChangeSpec := { name := "nameFolded", fn := fun _ => fun
  | [d] => { results := [.lit (.bool false)], args := [d] }
  | _ => none }
def NameFoldedWrongFalsely : Prop := nameFoldedRow.holds Tryd.pinned (OpenSpec.ofChange nameFoldedWrong)

/-- 'odysseylaw01.NameOrdered': WHATEVER THE INPUT: true; the input reads as it did. -/
def nameOrderedSpec : ChangeSpec := { name := "nameOrdered", fn := fun _ => fun
  | [d1, d2, d3] => { results := [.lit (.bool true)], args := [d1, d2, d3] }
  | _ => none }
def nameOrderedRow : OpenClaim := { program := "ytipbjcchhgbabaadoor", sum := "610dde83c52924c6cd424e8645568607811ad2fd013e027c882f4ecc2b0ec159", func := "odyssey/odysseylaw01.NameOrdered", spec := "nameOrdered", named := ["unicode/utf8.first", "unicode/utf8.acceptRanges"], apart := false, laid := [("unicode/utf8.acceptRanges", laid_unicode_utf8_acceptRanges), ("unicode/utf8.first", laid_unicode_utf8_first)] }
def NameOrderedSaid : Prop := nameOrderedRow.holds Tryd.pinned (OpenSpec.ofChange nameOrderedSpec)

/-- ITS FALSE NEIGHBOUR: 'it returns false'. Refute it at one input. -/
def nameOrderedWrong : ChangeSpec := { name := "nameOrdered", fn := fun _ => fun
  | [d1, d2, d3] => { results := [.lit (.bool false)], args := [d1, d2, d3] }
  | _ => none }
def NameOrderedWrongFalsely : Prop := nameOrderedRow.holds Tryd.pinned (OpenSpec.ofChange nameOrderedWrong)

/-- 'odysseylaw01.NameRejoined': WHATEVER THE INPUT: true; the input reads as it did. -/
def nameRejoinedSpec : ChangeSpec := { name := "nameRejoined", fn := fun _ => fun
  | [d] => { results := [.lit (.bool true)], args := [d] }
  | _ => none }
def nameRejoinedRow : OpenClaim := { program := "ytipbjcchhgbabaadoor", sum := "610dde83c52924c6cd424e8645568607811ad2fd013e027c882f4ecc2b0ec159", func := "odyssey/odysseylaw01.NameRejoined", spec := "nameRejoined", named := ["unicode/utf8.first", "unicode/utf8.acceptRanges"], apart := false, laid := [("unicode/utf8.acceptRanges", laid_unicode_utf8_acceptRanges), ("unicode/utf8.first", laid_unicode_utf8_first)] }
def NameRejoinedSaid : Prop := nameRejoinedRow.holds Tryd.pinned (OpenSpec.ofChange nameRejoinedSpec)

/-- ITS FALSE NEIGHBOUR: 'it returns false'. Refute it at one input. -/
def nameRejoinedWrong : ChangeSpec := { name := "nameRejoined", fn := fun _ => fun
  | [d] => { results := [.lit (.bool false)], args := [d] }
  | _ => none }
def NameRejoinedWrongFalsely : Prop := nameRejoinedRow.holds Tryd.pinned (OpenSpec.ofChange nameRejoinedWrong)

/-- 'odysseylaw01.NameApart': WHATEVER THE INPUT: true; the input reads as it did. -/
def nameApartSpec : ChangeSpec := { name := "nameApart", fn := fun _ => fun
  | [d1, d2] => { results := [.lit (.bool true)], args := [d1, d2] }
  | _ => none }
def nameApartRow : OpenClaim := { program := "ytipbjcchhgbabaadoor", sum := "610dde83c52924c6cd424e8645568607811ad2fd013e027c882f4ecc2b0ec159", func := "odyssey/odysseylaw01.NameApart", spec := "nameApart", named := ["unicode/utf8.first", "unicode/utf8.acceptRanges"], apart := false, laid := [("unicode/utf8.acceptRanges", laid_unicode_utf8_acceptRanges), ("unicode/utf8.first", laid_unicode_utf8_first)] }
def NameApartSaid : Prop := nameApartRow.holds Tryd.pinned (OpenSpec.ofChange nameApartSpec)

/-- ITS FALSE NEIGHBOUR: 'it returns false'. Refute it at one input. -/
def nameApartWrong : ChangeSpec := { name := "nameApart", fn := fun _ => fun
  | [d1, d2] => { results := [.lit (.bool false)], args := [d1, d2] }
  | _ => none }
def NameApartWrongFalsely : Prop := nameApartRow.holds Tryd.pinned (OpenSpec.ofChange nameApartWrong)

/-- 'odysseylaw01.NameFoldedWords': WHATEVER THE INPUT: true; the input reads as it did. -/
def nameFoldedWordsSpec : ChangeSpec := { name := "nameFoldedWords", fn := fun _ => fun
  | [d] => { results := [.lit (.bool true)], args := [d] }
  | _ => none }
def nameFoldedWordsRow : OpenClaim := { program := "ytipbjcchhgbabaadoor", sum := "610dde83c52924c6cd424e8645568607811ad2fd013e027c882f4ecc2b0ec159", func := "odyssey/odysseylaw01.NameFoldedWords", spec := "nameFoldedWords", named := ["unicode/utf8.first", "unicode/utf8.acceptRanges"], apart := false, laid := [("unicode/utf8.acceptRanges", laid_unicode_utf8_acceptRanges), ("unicode/utf8.first", laid_unicode_utf8_first)] }
def NameFoldedWordsSaid : Prop := nameFoldedWordsRow.holds Tryd.pinned (OpenSpec.ofChange nameFoldedWordsSpec)

/-- ITS FALSE NEIGHBOUR: 'it returns false'. Refute it at one input. -/
def nameFoldedWordsWrong : ChangeSpec := { name := "nameFoldedWords", fn := fun _ => fun
  | [d] => { results := [.lit (.bool false)], args := [d] }
  | _ => none }
def NameFoldedWordsWrongFalsely : Prop := nameFoldedWordsRow.holds Tryd.pinned (OpenSpec.ofChange nameFoldedWordsWrong)

/- THE SECOND FORM. 'bulk': how many values and letters a reading holds, each counted each time it is reached (what is shared counts as often as it is met; a slice's spare places count too). A statement '..UptoSaid' is the law's where the arguments, and the package variables that the reading takes, are together of bulk at most 1048576: NARROWER than '..Said'. Prove '..Said' where nothing that the law and all that it calls make is longer than what came in: it says more and counts as full. Else prove '..UptoSaid'. A law counts once. -/
mutual
def uptoBulk {H : Type} : DataW H → Nat
  | .lit (.string bytes) => bytes.length + 1
  | .lit _ => 1
  | .nil => 1
  | .ptr d => uptoBulk d + 1
  | .slice elems spare => uptoBulkAll elems + uptoBulkAll spare + 1
  | .agg parts => uptoBulkAll parts + 1
  | .iface _ d => uptoBulk d + 1
  | .map entries => uptoBulkEntries entries + 1
  | .held _ => 1
def uptoBulkAll {H : Type} : List (DataW H) → Nat
  | [] => 0
  | d :: r => uptoBulk d + uptoBulkAll r
def uptoBulkEntries {H : Type} : List (Lit × DataW H) → Nat
  | [] => 0
  | x :: r => uptoBulkEntry x + uptoBulkEntries r
def uptoBulkEntry {H : Type} : Lit × DataW H → Nat
  | (.string bytes, d) => bytes.length + uptoBulk d + 1
  | (_, d) => uptoBulk d + 1
 end
def uptoSmall : (H : Type) → List (DataW H) → Bool := fun _ ds => decide (uptoBulkAll ds ≤ 1048576)
def OpenSpec.upto (s : _root_.Go.ChangeSpec) : _root_.Go.OpenSpec := { _root_.Go.OpenSpec.ofChange s with cond := some uptoSmall }

/-- 'odysseylaw01.NameIs', WHERE WHAT IT READS IS OF BULK AT MOST 1048576: true; the input reads as it did. -/
def nameIsUptoRow : OpenClaim := { program := "ytipbjcchhgbabaadoor", sum := "610dde83c52924c6cd424e8645568607811ad2fd013e027c882f4ecc2b0ec159", func := "odyssey/odysseylaw01.NameIs", spec := "nameIs", named := ["unicode/utf8.first", "unicode/utf8.acceptRanges"], apart := false, laid := [("unicode/utf8.acceptRanges", laid_unicode_utf8_acceptRanges), ("unicode/utf8.first", laid_unicode_utf8_first)], narrowed := true }
def NameIsUptoSaid : Prop := nameIsUptoRow.holds Tryd.pinned (OpenSpec.upto nameIsSpec)

/-- 'odysseylaw01.NameFolds', WHERE WHAT IT READS IS OF BULK AT MOST 1048576: true; the input reads as it did. -/
def nameFoldsUptoRow : OpenClaim := { program := "ytipbjcchhgbabaadoor", sum := "610dde83c52924c6cd424e8645568607811ad2fd013e027c882f4ecc2b0ec159", func := "odyssey/odysseylaw01.NameFolds", spec := "nameFolds", named := ["unicode/utf8.first", "unicode/utf8.acceptRanges"], apart := false, laid := [("unicode/utf8.acceptRanges", laid_unicode_utf8_acceptRanges), ("unicode/utf8.first", laid_unicode_utf8_first)], narrowed := true }
def NameFoldsUptoSaid : Prop := nameFoldsUptoRow.holds Tryd.pinned (OpenSpec.upto nameFoldsSpec)

/-- 'odysseylaw01.NameCompares', WHERE WHAT IT READS IS OF BULK AT MOST 1048576: true; the input reads as it did. -/
def nameComparesUptoRow : OpenClaim := { program := "ytipbjcchhgbabaadoor", sum := "610dde83c52924c6cd424e8645568607811ad2fd013e027c882f4ecc2b0ec159", func := "odyssey/odysseylaw01.NameCompares", spec := "nameCompares", named := ["unicode/utf8.first", "unicode/utf8.acceptRanges"], apart := false, laid := [("unicode/utf8.acceptRanges", laid_unicode_utf8_acceptRanges), ("unicode/utf8.first", laid_unicode_utf8_first)], narrowed := true }
def NameComparesUptoSaid : Prop := nameComparesUptoRow.holds Tryd.pinned (OpenSpec.upto nameComparesSpec)

/-- 'odysseylaw01.NameOwners', WHERE WHAT IT READS IS OF BULK AT MOST 1048576: true; the input reads as it did. -/
def nameOwnersUptoRow : OpenClaim := { program := "ytipbjcchhgbabaadoor", sum := "610dde83c52924c6cd424e8645568607811ad2fd013e027c882f4ecc2b0ec159", func := "odyssey/odysseylaw01.NameOwners", spec := "nameOwners", named := ["unicode/utf8.first", "unicode/utf8.acceptRanges"], apart := false, laid := [("unicode/utf8.acceptRanges", laid_unicode_utf8_acceptRanges), ("unicode/utf8.first", laid_unicode_utf8_first)], narrowed := true }
def NameOwnersUptoSaid : Prop := nameOwnersUptoRow.holds Tryd.pinned (OpenSpec.upto nameOwnersSpec)

/-- 'odysseylaw01.NameWords', WHERE WHAT IT READS IS OF BULK AT MOST 1048576: true; the input reads as it did. -/
def nameWordsUptoRow : OpenClaim := { program := "ytipbjcchhgbabaadoor", sum := "610dde83c52924c6cd424e8645568607811ad2fd013e027c882f4ecc2b0ec159", func := "odyssey/odysseylaw01.NameWords", spec := "nameWords", named := ["unicode/utf8.first", "unicode/utf8.acceptRanges"], apart := false, laid := [("unicode/utf8.acceptRanges", laid_unicode_utf8_acceptRanges), ("unicode/utf8.first", laid_unicode_utf8_first)], narrowed := true }
def NameWordsUptoSaid : Prop := nameWordsUptoRow.holds Tryd.pinned (OpenSpec.upto nameWordsSpec)

/-- 'odysseylaw01.NameFolded', WHERE WHAT IT READS IS OF BULK AT MOST 1048576: true; the input reads as it did. -/
def nameFoldedUptoRow : OpenClaim := { program := "ytipbjcchhgbabaadoor", sum := "610dde83c52924c6cd424e8645568607811ad2fd013e027c882f4ecc2b0ec159", func := "odyssey/odysseylaw01.NameFolded", spec := "nameFolded", named := ["unicode/utf8.first", "unicode/utf8.acceptRanges"], apart := false, laid := [("unicode/utf8.acceptRanges", laid_unicode_utf8_acceptRanges), ("unicode/utf8.first", laid_unicode_utf8_first)], narrowed := true }
def NameFoldedUptoSaid : Prop := nameFoldedUptoRow.holds Tryd.pinned (OpenSpec.upto nameFoldedSpec)

/-- 'odysseylaw01.NameOrdered', WHERE WHAT IT READS IS OF BULK AT MOST 1048576: true; the input reads as it did. -/
def nameOrderedUptoRow : OpenClaim := { program := "ytipbjcchhgbabaadoor", sum := "610dde83c52924c6cd424e8645568607811ad2fd013e027c882f4ecc2b0ec159", func := "odyssey/odysseylaw01.NameOrdered", spec := "nameOrdered", named := ["unicode/utf8.first", "unicode/utf8.acceptRanges"], apart := false, laid := [("unicode/utf8.acceptRanges", laid_unicode_utf8_acceptRanges), ("unicode/utf8.first", laid_unicode_utf8_first)], narrowed := true }
def NameOrderedUptoSaid : Prop := nameOrderedUptoRow.holds Tryd.pinned (OpenSpec.upto nameOrderedSpec)

/-- 'odysseylaw01.NameRejoined', WHERE WHAT IT READS IS OF BULK AT MOST 1048576: true; the input reads as it did. -/
def nameRejoinedUptoRow : OpenClaim := { program := "ytipbjcchhgbabaadoor", sum := "610dde83c52924c6cd424e8645568607811ad2fd013e027c882f4ecc2b0ec159", func := "odyssey/odysseylaw01.NameRejoined", spec := "nameRejoined", named := ["unicode/utf8.first", "unicode/utf8.acceptRanges"], apart := false, laid := [("unicode/utf8.acceptRanges", laid_unicode_utf8_acceptRanges), ("unicode/utf8.first", laid_unicode_utf8_first)], narrowed := true }
def NameRejoinedUptoSaid : Prop := nameRejoinedUptoRow.holds Tryd.pinned (OpenSpec.upto nameRejoinedSpec)

/-- 'odysseylaw01.NameApart', WHERE WHAT IT READS IS OF BULK AT MOST 1048576: true; the input reads as it did. -/
def nameApartUptoRow : OpenClaim := { program := "ytipbjcchhgbabaadoor", sum := "610dde83c52924c6cd424e8645568607811ad2fd013e027c882f4ecc2b0ec159", func := "odyssey/odysseylaw01.NameApart", spec := "nameApart", named := ["unicode/utf8.first", "unicode/utf8.acceptRanges"], apart := false, laid := [("unicode/utf8.acceptRanges", laid_unicode_utf8_acceptRanges), ("unicode/utf8.first", laid_unicode_utf8_first)], narrowed := true }
def NameApartUptoSaid : Prop := nameApartUptoRow.holds Tryd.pinned (OpenSpec.upto nameApartSpec)

/-- 'odysseylaw01.NameFoldedWords', WHERE WHAT IT READS IS OF BULK AT MOST 1048576: true; the input reads as it did. -/
def nameFoldedWordsUptoRow : OpenClaim := { program := "ytipbjcchhgbabaadoor", sum := "610dde83c52924c6cd424e8645568607811ad2fd013e027c882f4ecc2b0ec159", func := "odyssey/odysseylaw01.NameFoldedWords", spec := "nameFoldedWords", named := ["unicode/utf8.first", "unicode/utf8.acceptRanges"], apart := false, laid := [("unicode/utf8.acceptRanges", laid_unicode_utf8_acceptRanges), ("unicode/utf8.first", laid_unicode_utf8_first)], narrowed := true }
def NameFoldedWordsUptoSaid : Prop := nameFoldedWordsUptoRow.holds Tryd.pinned (OpenSpec.upto nameFoldedWordsSpec)

end Rows
end Go.Proofs.YtipbjcchhgbabaaDoor
