/-
  NARROWER THAN 'FOR EVERY INPUT', by the rows' own cells (each row's printed sentence says how): JournalMakes: laid · JournalAgain: laid · JournalShort: laid · JournalScripts: laid · JournalOpens: laid · JournalCrash: laid.
  DERIVED. THE GIVEN ROWS OF THIS SEAT. 6 by the template 'for every input the law returns true; each argument reads behind the call as it read before'; 0 by the template 'total and deterministic' (their statements: YtjlpgjfgeikdeaaDoorTotals.lean).
  GIVEN WITH THE SEED: the statements are not yours to turn. If you find one false, say at which input.
  Laid BY PROGRAM, IN A SANDBOX (cutbox-rows.mjs): the forced cells as the released guide's own fill.sh prints them over the translation db3417270d5a4e7c… (all of the seat's roots in one cut). By AI agents, Wed Nov 11 2026. No macro, syntax, notation, axiom, sorry.
-/
import Derived.Test.YtjlpgjfgeikdeaaDoorChecked
import GoSem.Claim
import GoSem.ClaimJoined
import GoSem.ClaimMapViews
import Derived.JoinedTies
import Derived.KernelRfl
namespace Go.Proofs.YtjlpgjfgeikdeaaDoor
/- THE CELL 'sum', in the pinned program and in every row, IS THE sha256 OF THE DUMP (.gsa) THAT YtjlpgjfgeikdeaaDoorProg.lean LOADS. Nothing in Lean hashes anything: it is a label: what it is worth is what the hold of that sum in a sandbox is worth. -/
noncomputable def Tryd.pinned : Pinned := { name := "ytjlpgjfgeikdeaadoor", sum := "db3417270d5a4e7cfa7fc40ffe52a450ac53ee7914a064ea587132147f95829f", checked := Tryd.checked }
namespace Rows
def none {H : Type} : Left H := { results := [], args := [] }

/- WHAT THE LISTED PACKAGE-LEVEL VARIABLES READ AS WHEN THE CALL BEGINS. Each datum BY PROGRAM (the guide's laid-datum.mjs) off the statement by which the dump's own 'gosem.cut.vars' lays the variable. In a bare row this is a premise. The card (YtjlpgjfgeikdeaaDoorCards.lean) ties it to the program's text. -/
def laid_odyssey_crc_table {H : Type} : DataW H := .agg [.lit (.int .u32 0), .lit (.int .u32 498536548), .lit (.int .u32 997073096), .lit (.int .u32 651767980), .lit (.int .u32 1994146192), .lit (.int .u32 1802195444), .lit (.int .u32 1303535960), .lit (.int .u32 1342533948), .lit (.int .u32 3988292384), .lit (.int .u32 4027552580), .lit (.int .u32 3604390888), .lit (.int .u32 3412177804), .lit (.int .u32 2607071920), .lit (.int .u32 2262029012), .lit (.int .u32 2685067896), .lit (.int .u32 3183342108)]

/-- 'odysseylaw06.JournalMakes': WHATEVER THE INPUT: true; the input reads as it did. -/
def journalMakesSpec : ChangeSpec := { name := "journalMakes", fn := fun _ => fun
  | [d1, d2] => { results := [.lit (.bool true)], args := [d1, d2] }
  | _ => none }
def journalMakesRow : OpenClaim := { program := "ytjlpgjfgeikdeaadoor", sum := "db3417270d5a4e7cfa7fc40ffe52a450ac53ee7914a064ea587132147f95829f", func := "odyssey/odysseylaw06.JournalMakes", spec := "journalMakes", unfollowed := true, recurses := true, named := ["odyssey/crc.table"], apart := false, laid := [("odyssey/crc.table", laid_odyssey_crc_table)] }
def JournalMakesSaid : Prop := journalMakesRow.holds Tryd.pinned (OpenSpec.ofChange journalMakesSpec)

/-- ITS FALSE NEIGHBOUR: 'it returns false'. Refute it at one input. -/
def journalMakesWrong : ChangeSpec := { name := "journalMakes", fn := fun _ => fun
  | [d1, d2] => { results := [.lit (.bool false)], args := [d1, d2] }
  | _ => none }
def JournalMakesWrongFalsely : Prop := journalMakesRow.holds Tryd.pinned (OpenSpec.ofChange journalMakesWrong)

/-- 'odysseylaw06.JournalAgain': WHATEVER THE INPUT: true; the input reads as it did. -/
def journalAgainSpec : ChangeSpec := { name := "journalAgain", fn := fun _ => fun
  | [d1, d2, d3] => { results := [.lit (.bool true)], args := [d1, d2, d3] }
  | _ => none }
def journalAgainRow : OpenClaim := { program := "ytjlpgjfgeikdeaadoor", sum := "db3417270d5a4e7cfa7fc40ffe52a450ac53ee7914a064ea587132147f95829f", func := "odyssey/odysseylaw06.JournalAgain", spec := "journalAgain", unfollowed := true, recurses := true, named := ["odyssey/crc.table"], apart := false, laid := [("odyssey/crc.table", laid_odyssey_crc_table)] }
def JournalAgainSaid : Prop := journalAgainRow.holds Tryd.pinned (OpenSpec.ofChange journalAgainSpec)

/-- ITS FALSE NEIGHBOUR: 'it returns false'. Refute it at one input. -/
def journalAgainWrong : ChangeSpec := { name := "journalAgain", fn := fun _ => fun
  | [d1, d2, d3] => { results := [.lit (.bool false)], args := [d1, d2, d3] }
  | _ => none }
def JournalAgainWrongFalsely : Prop := journalAgainRow.holds Tryd.pinned (OpenSpec.ofChange journalAgainWrong)

/-- 'odysseylaw06.JournalShort': WHATEVER THE INPUT: true; the input reads as it did. -/
def journalShortSpec : ChangeSpec := { name := "journalShort", fn := fun _ => fun
  | [d1, d2, d3] => { results := [.lit (.bool true)], args := [d1, d2, d3] }
  | _ => none }
def journalShortRow : OpenClaim := { program := "ytjlpgjfgeikdeaadoor", sum := "db3417270d5a4e7cfa7fc40ffe52a450ac53ee7914a064ea587132147f95829f", func := "odyssey/odysseylaw06.JournalShort", spec := "journalShort", unfollowed := true, recurses := true, named := ["odyssey/crc.table"], apart := false, laid := [("odyssey/crc.table", laid_odyssey_crc_table)] }
def JournalShortSaid : Prop := journalShortRow.holds Tryd.pinned (OpenSpec.ofChange journalShortSpec)

/-- ITS FALSE NEIGHBOUR: 'it returns false'. Refute it at one input. -/
def journalShortWrong : ChangeSpec := { name := "journalShort", fn := fun _ => fun
  | [d1, d2, d3] => { results := [.lit (.bool false)], args := [d1, d2, d3] }
  | _ => none }
def JournalShortWrongFalsely : Prop := journalShortRow.holds Tryd.pinned (OpenSpec.ofChange journalShortWrong)

/-- 'odysseylaw06.JournalScripts': WHATEVER THE INPUT: true; the input reads as it did. -/
def journalScriptsSpec : ChangeSpec := { name := "journalScripts", fn := fun _ => fun
  | [d1, d2] => { results := [.lit (.bool true)], args := [d1, d2] }
  | _ => none }
def journalScriptsRow : OpenClaim := { program := "ytjlpgjfgeikdeaadoor", sum := "db3417270d5a4e7cfa7fc40ffe52a450ac53ee7914a064ea587132147f95829f", func := "odyssey/odysseylaw06.JournalScripts", spec := "journalScripts", unfollowed := true, recurses := true, named := ["odyssey/crc.table"], apart := false, laid := [("odyssey/crc.table", laid_odyssey_crc_table)] }
def JournalScriptsSaid : Prop := journalScriptsRow.holds Tryd.pinned (OpenSpec.ofChange journalScriptsSpec)

/-- ITS FALSE NEIGHBOUR: 'it returns false'. Refute it at one input. -/
def journalScriptsWrong : ChangeSpec := { name := "journalScripts", fn := fun _ => fun
  | [d1, d2] => { results := [.lit (.bool false)], args := [d1, d2] }
  | _ => none }
def JournalScriptsWrongFalsely : Prop := journalScriptsRow.holds Tryd.pinned (OpenSpec.ofChange journalScriptsWrong)

/-- 'odysseylaw06.JournalOpens': WHATEVER THE INPUT: true; the input reads as it did. -/
def journalOpensSpec : ChangeSpec := { name := "journalOpens", fn := fun _ => fun
  | [d1, d2, d3] => { results := [.lit (.bool true)], args := [d1, d2, d3] }
  | _ => none }
def journalOpensRow : OpenClaim := { program := "ytjlpgjfgeikdeaadoor", sum := "db3417270d5a4e7cfa7fc40ffe52a450ac53ee7914a064ea587132147f95829f", func := "odyssey/odysseylaw06.JournalOpens", spec := "journalOpens", unfollowed := true, recurses := true, named := ["odyssey/crc.table"], apart := false, laid := [("odyssey/crc.table", laid_odyssey_crc_table)] }
def JournalOpensSaid : Prop := journalOpensRow.holds Tryd.pinned (OpenSpec.ofChange journalOpensSpec)

/-- ITS FALSE NEIGHBOUR: 'it returns false'. Refute it at one input. -/
def journalOpensWrong : ChangeSpec := { name := "journalOpens", fn := fun _ => fun
  | [d1, d2, d3] => { results := [.lit (.bool false)], args := [d1, d2, d3] }
  | _ => none }
def JournalOpensWrongFalsely : Prop := journalOpensRow.holds Tryd.pinned (OpenSpec.ofChange journalOpensWrong)

/-- 'odysseylaw06.JournalCrash': WHATEVER THE INPUT: true; the input reads as it did. -/
def journalCrashSpec : ChangeSpec := { name := "journalCrash", fn := fun _ => fun
  | [d1, d2, d3, d4] => { results := [.lit (.bool true)], args := [d1, d2, d3, d4] }
  | _ => none }
def journalCrashRow : OpenClaim := { program := "ytjlpgjfgeikdeaadoor", sum := "db3417270d5a4e7cfa7fc40ffe52a450ac53ee7914a064ea587132147f95829f", func := "odyssey/odysseylaw06.JournalCrash", spec := "journalCrash", unfollowed := true, recurses := true, named := ["odyssey/crc.table"], apart := false, laid := [("odyssey/crc.table", laid_odyssey_crc_table)] }
def JournalCrashSaid : Prop := journalCrashRow.holds Tryd.pinned (OpenSpec.ofChange journalCrashSpec)

/-- ITS FALSE NEIGHBOUR: 'it returns false'. Refute it at one input. -/
def journalCrashWrong : ChangeSpec := { name := "journalCrash", fn := fun _ => fun
  | [d1, d2, d3, d4] => { results := [.lit (.bool false)], args := [d1, d2, d3, d4] }
  | _ => none }
def JournalCrashWrongFalsely : Prop := journalCrashRow.holds Tryd.pinned (OpenSpec.ofChange journalCrashWrong)

/- THE SECOND FORM. 'bulk': how many values and letters a reading holds, each counted each time it is reached (what is shared counts as often as it is met; a slice's spare places count too). A statement '..UptoSaid' is the law's where the arguments, and the package variables that the reading takes, are together of bulk at most 1048576: NARROWER than '..Said'. Prove '..Said' where nothing that the law and all that it calls make is longer than what came in: it says more and counts as full. Else prove '..UptoSaid'. A law counts once. -/
mutual
def uptoBulk {H : Type} : DataW H → Nat
  | .lit (.string bytes) => bytes.length + 1
  | .lit _ => 1
  | .nil => 1
  | .ptr d => uptoBulk d + 1
  | .slice elems spare => uptoBulkAll elems + uptoBulkAll spare + 1
  | .agg parts => uptoBulkAll parts + 1
  | .iface _ d => uptoBulk d + 1
  | .map entries => uptoBulkEntries entries + 1
  | .held _ => 1
def uptoBulkAll {H : Type} : List (DataW H) → Nat
  | [] => 0
  | d :: r => uptoBulk d + uptoBulkAll r
def uptoBulkEntries {H : Type} : List (Lit × DataW H) → Nat
  | [] => 0
  | x :: r => uptoBulkEntry x + uptoBulkEntries r
def uptoBulkEntry {H : Type} : Lit × DataW H → Nat
  | (.string bytes, d) => bytes.length + uptoBulk d + 1
  | (_, d) => uptoBulk d + 1
 end
def uptoSmall : (H : Type) → List (DataW H) → Bool := fun _ ds => decide (uptoBulkAll ds ≤ 1048576)
def OpenSpec.upto (s : _root_.Go.ChangeSpec) : _root_.Go.OpenSpec := { _root_.Go.OpenSpec.ofChange s with cond := some uptoSmall }

/-- 'odysseylaw06.JournalMakes', WHERE WHAT IT READS IS OF BULK AT MOST 1048576: true; the input reads as it did. -/
def journalMakesUptoRow : OpenClaim := { program := "ytjlpgjfgeikdeaadoor", sum := "db3417270d5a4e7cfa7fc40ffe52a450ac53ee7914a064ea587132147f95829f", func := "odyssey/odysseylaw06.JournalMakes", spec := "journalMakes", unfollowed := true, recurses := true, named := ["odyssey/crc.table"], apart := false, laid := [("odyssey/crc.table", laid_odyssey_crc_table)], narrowed := true }
def JournalMakesUptoSaid : Prop := journalMakesUptoRow.holds Tryd.pinned (OpenSpec.upto journalMakesSpec)

/-- 'odysseylaw06.JournalAgain', WHERE WHAT IT READS IS OF BULK AT MOST 1048576: true; the input reads as it did. -/
def journalAgainUptoRow : OpenClaim := { program := "ytjlpgjfgeikdeaadoor", sum := "db3417270d5a4e7cfa7fc40ffe52a450ac53ee7914a064ea587132147f95829f", func := "odyssey/odysseylaw06.JournalAgain", spec := "journalAgain", unfollowed := true, recurses := true, named := ["odyssey/crc.table"], apart := false, laid := [("odyssey/crc.table", laid_odyssey_crc_table)], narrowed := true }
def JournalAgainUptoSaid : Prop := journalAgainUptoRow.holds Tryd.pinned (OpenSpec.upto journalAgainSpec)

/-- 'odysseylaw06.JournalShort', WHERE WHAT IT READS IS OF BULK AT MOST 1048576: true; the input reads as it did. -/
def journalShortUptoRow : OpenClaim := { program := "ytjlpgjfgeikdeaadoor", sum := "db3417270d5a4e7cfa7fc40ffe52a450ac53ee7914a064ea587132147f95829f", func := "odyssey/odysseylaw06.JournalShort", spec := "journalShort", unfollowed := true, recurses := true, named := ["odyssey/crc.table"], apart := false, laid := [("odyssey/crc.table", laid_odyssey_crc_table)], narrowed := true }
def JournalShortUptoSaid : Prop := journalShortUptoRow.holds Tryd.pinned (OpenSpec.upto journalShortSpec)

/-- 'odysseylaw06.JournalScripts', WHERE WHAT IT READS IS OF BULK AT MOST 1048576: true; the input reads as it did. -/
def journalScriptsUptoRow : OpenClaim := { program := "ytjlpgjfgeikdeaadoor", sum := "db3417270d5a4e7cfa7fc40ffe52a450ac53ee7914a064ea587132147f95829f", func := "odyssey/odysseylaw06.JournalScripts", spec := "journalScripts", unfollowed := true, recurses := true, named := ["odyssey/crc.table"], apart := false, laid := [("odyssey/crc.table", laid_odyssey_crc_table)], narrowed := true }
def JournalScriptsUptoSaid : Prop := journalScriptsUptoRow.holds Tryd.pinned (OpenSpec.upto journalScriptsSpec)

/-- 'odysseylaw06.JournalOpens', WHERE WHAT IT READS IS OF BULK AT MOST 1048576: true; the input reads as it did. -/
def journalOpensUptoRow : OpenClaim := { program := "ytjlpgjfgeikdeaadoor", sum := "db3417270d5a4e7cfa7fc40ffe52a450ac53ee7914a064ea587132147f95829f", func := "odyssey/odysseylaw06.JournalOpens", spec := "journalOpens", unfollowed := true, recurses := true, named := ["odyssey/crc.table"], apart := false, laid := [("odyssey/crc.table", laid_odyssey_crc_table)], narrowed := true }
def JournalOpensUptoSaid : Prop := journalOpensUptoRow.holds Tryd.pinned (OpenSpec.upto journalOpensSpec)

/-- 'odysseylaw06.JournalCrash', WHERE WHAT IT READS IS OF BULK AT MOST 1048576: true; the input reads as it did. -/
def journalCrashUptoRow : OpenClaim := { program := "ytjlpgjfgeikdeaadoor", sum := "db3417270d5a4e7cfa7fc40ffe52a450ac53ee7914a064ea587132147f95829f", func := "odyssey/odysseylaw06.JournalCrash", spec := "journalCrash", unfollowed := true, recurses := true, named := ["odyssey/crc.table"], apart := false, laid := [("odyssey/crc.table", laid_odyssey_crc_table)], narrowed := true }
def JournalCrashUptoSaid : Prop := journalCrashUptoRow.holds Tryd.pinned (OpenSpec.upto journalCrashSpec)

end Rows
end Go.Proofs.YtjlpgjfgeikdeaaDoor
