/-
  NARROWER THAN 'FOR EVERY INPUT', by the rows' own cells (each row's printed sentence says how): CrcSums: laid · CrcExtends: laid · CrcParts: laid · CrcTurned: laid · CrcPlain: laid · CrcApart: laid.
  DERIVED. THE GIVEN ROWS OF THIS SEAT. 6 by the template 'for every input the law returns true; each argument reads behind the call as it read before'; 0 by the template 'total and deterministic' (their statements: YthbmkoiaennejaaDoorTotals.lean).
  GIVEN WITH THE SEED: the statements are not yours to turn. If you find one false, say at which input.
  Laid BY PROGRAM, IN A SANDBOX (cutbox-rows.mjs): the forced cells as the released guide's own fill.sh prints them over the translation a5f93ae6e61ab118… (all of the seat's roots in one cut). By AI agents, Wed Nov 11 2026. No macro, syntax, notation, axiom, sorry.
-/
import Derived.Test.YthbmkoiaennejaaDoorChecked
import GoSem.Claim
import GoSem.ClaimJoined
import GoSem.ClaimMapViews
import Derived.JoinedTies
import Derived.KernelRfl
namespace Go.Proofs.YthbmkoiaennejaaDoor
/- THE CELL 'sum', in the pinned program and in every row, IS THE sha256 OF THE DUMP (.gsa) THAT YthbmkoiaennejaaDoorProg.lean LOADS. Nothing in Lean hashes anything: it is a label: what it is worth is what the hold of that sum in a sandbox is worth. -/
noncomputable def Tryd.pinned : Pinned := { name := "ythbmkoiaennejaadoor", sum := "a5f93ae6e61ab118e4887bd42e3723e8f03973dc516dbb61c2632ddce2e751a1", checked := Tryd.checked }
namespace Rows
def none {H : Type} : Left H := { results := [], args := [] }

/- WHAT THE LISTED PACKAGE-LEVEL VARIABLES READ AS WHEN THE CALL BEGINS. Each datum BY PROGRAM (the guide's laid-datum.mjs) off the statement by which the dump's own 'gosem.cut.vars' lays the variable. In a bare row this is a premise. The card (YthbmkoiaennejaaDoorCards.lean) ties it to the program's text. -/
def laid_odyssey_crc_table {H : Type} : DataW H := .agg [.lit (.int .u32 0), .lit (.int .u32 498536548), .lit (.int .u32 997073096), .lit (.int .u32 651767980), .lit (.int .u32 1994146192), .lit (.int .u32 1802195444), .lit (.int .u32 1303535960), .lit (.int .u32 1342533948), .lit (.int .u32 3988292384), .lit (.int .u32 4027552580), .lit (.int .u32 3604390888), .lit (.int .u32 3412177804), .lit (.int .u32 2607071920), .lit (.int .u32 2262029012), .lit (.int .u32 2685067896), .lit (.int .u32 3183342108)]

/-- 'odysseylaw02.CrcSums': WHATEVER THE INPUT: true; the input reads as it did. -/
def crcSumsSpec : ChangeSpec := { name := "crcSums", fn := fun _ => fun
  | [d] => { results := [.lit (.bool true)], args := [d] }
  | _ => none }
def crcSumsRow : OpenClaim := { program := "ythbmkoiaennejaadoor", sum := "a5f93ae6e61ab118e4887bd42e3723e8f03973dc516dbb61c2632ddce2e751a1", func := "odyssey/odysseylaw02.CrcSums", spec := "crcSums", named := ["odyssey/crc.table"], apart := false, laid := [("odyssey/crc.table", laid_odyssey_crc_table)] }
def CrcSumsSaid : Prop := crcSumsRow.holds Tryd.pinned (OpenSpec.ofChange crcSumsSpec)

/-- ITS FALSE NEIGHBOUR: 'it returns false'. Refute it at one input. -/
def crcSumsWrong : ChangeSpec := { name := "crcSums", fn := fun _ => fun
  | [d] => { results := [.lit (.bool false)], args := [d] }
  | _ => none }
def CrcSumsWrongFalsely : Prop := crcSumsRow.holds Tryd.pinned (OpenSpec.ofChange crcSumsWrong)

/-- 'odysseylaw02.CrcExtends': WHATEVER THE INPUT: true; the input reads as it did. -/
def crcExtendsSpec : ChangeSpec := { name := "crcExtends", fn := fun _ => fun
  | [d1, d2] => { results := [.lit (.bool true)], args := [d1, d2] }
  | _ => none }
def crcExtendsRow : OpenClaim := { program := "ythbmkoiaennejaadoor", sum := "a5f93ae6e61ab118e4887bd42e3723e8f03973dc516dbb61c2632ddce2e751a1", func := "odyssey/odysseylaw02.CrcExtends", spec := "crcExtends", named := ["odyssey/crc.table"], apart := false, laid := [("odyssey/crc.table", laid_odyssey_crc_table)] }
def CrcExtendsSaid : Prop := crcExtendsRow.holds Tryd.pinned (OpenSpec.ofChange crcExtendsSpec)

/-- ITS FALSE NEIGHBOUR: 'it returns false'. Refute it at one input. -/
def crcExtendsWrong : ChangeSpec := { name := "crcExtends", fn := fun _ => fun
  | [d1, d2] => { results := [.lit (.bool false)], args := [d1, d2] }
  | _ => none }
def CrcExtendsWrongFalsely : Prop := crcExtendsRow.holds Tryd.pinned (OpenSpec.ofChange crcExtendsWrong)

/-- 'odysseylaw02.CrcParts': WHATEVER THE INPUT: true; the input reads as it did. -/
def crcPartsSpec : ChangeSpec := { name := "crcParts", fn := fun _ => fun
  | [d1, d2, d3] => { results := [.lit (.bool true)], args := [d1, d2, d3] }
  | _ => none }
def crcPartsRow : OpenClaim := { program := "ythbmkoiaennejaadoor", sum := "a5f93ae6e61ab118e4887bd42e3723e8f03973dc516dbb61c2632ddce2e751a1", func := "odyssey/odysseylaw02.CrcParts", spec := "crcParts", named := ["odyssey/crc.table"], apart := false, laid := [("odyssey/crc.table", laid_odyssey_crc_table)] }
def CrcPartsSaid : Prop := crcPartsRow.holds Tryd.pinned (OpenSpec.ofChange crcPartsSpec)

/-- ITS FALSE NEIGHBOUR: 'it returns false'. Refute it at one input. -/
def crcPartsWrong : ChangeSpec := { name := "crcParts", fn := fun _ => fun
  | [d1, d2, d3] => { results := [.lit (.bool false)], args := [d1, d2, d3] }
  | _ => none }
def CrcPartsWrongFalsely : Prop := crcPartsRow.holds Tryd.pinned (OpenSpec.ofChange crcPartsWrong)

/-- 'odysseylaw02.CrcTurned': WHATEVER THE INPUT: true; the input reads as it did. -/
def crcTurnedSpec : ChangeSpec := { name := "crcTurned", fn := fun _ => fun
  | [d1, d2, d3] => { results := [.lit (.bool true)], args := [d1, d2, d3] }
  | _ => none }
def crcTurnedRow : OpenClaim := { program := "ythbmkoiaennejaadoor", sum := "a5f93ae6e61ab118e4887bd42e3723e8f03973dc516dbb61c2632ddce2e751a1", func := "odyssey/odysseylaw02.CrcTurned", spec := "crcTurned", named := ["odyssey/crc.table"], apart := false, laid := [("odyssey/crc.table", laid_odyssey_crc_table)] }
def CrcTurnedSaid : Prop := crcTurnedRow.holds Tryd.pinned (OpenSpec.ofChange crcTurnedSpec)

/-- ITS FALSE NEIGHBOUR: 'it returns false'. Refute it at one input. -/
def crcTurnedWrong : ChangeSpec := { name := "crcTurned", fn := fun _ => fun
  | [d1, d2, d3] => { results := [.lit (.bool false)], args := [d1, d2, d3] }
  | _ => none }
def CrcTurnedWrongFalsely : Prop := crcTurnedRow.holds Tryd.pinned (OpenSpec.ofChange crcTurnedWrong)

/-- 'odysseylaw02.CrcPlain': WHATEVER THE INPUT: true; the input reads as it did. -/
def crcPlainSpec : ChangeSpec := { name := "crcPlain", fn := fun _ => fun
  | [d1, d2, d3] => { results := [.lit (.bool true)], args := [d1, d2, d3] }
  | _ => none }
def crcPlainRow : OpenClaim := { program := "ythbmkoiaennejaadoor", sum := "a5f93ae6e61ab118e4887bd42e3723e8f03973dc516dbb61c2632ddce2e751a1", func := "odyssey/odysseylaw02.CrcPlain", spec := "crcPlain", named := ["odyssey/crc.table"], apart := false, laid := [("odyssey/crc.table", laid_odyssey_crc_table)] }
def CrcPlainSaid : Prop := crcPlainRow.holds Tryd.pinned (OpenSpec.ofChange crcPlainSpec)

/-- ITS FALSE NEIGHBOUR: 'it returns false'. Refute it at one input. -/
def crcPlainWrong : ChangeSpec := { name := "crcPlain", fn := fun _ => fun
  | [d1, d2, d3] => { results := [.lit (.bool false)], args := [d1, d2, d3] }
  | _ => none }
def CrcPlainWrongFalsely : Prop := crcPlainRow.holds Tryd.pinned (OpenSpec.ofChange crcPlainWrong)

/-- 'odysseylaw02.CrcApart': WHATEVER THE INPUT: true; the input reads as it did. -/
def crcApartSpec : ChangeSpec := { name := "crcApart", fn := fun _ => fun
  | [d1, d2, d3] => { results := [.lit (.bool true)], args := [d1, d2, d3] }
  | _ => none }
def crcApartRow : OpenClaim := { program := "ythbmkoiaennejaadoor", sum := "a5f93ae6e61ab118e4887bd42e3723e8f03973dc516dbb61c2632ddce2e751a1", func := "odyssey/odysseylaw02.CrcApart", spec := "crcApart", named := ["odyssey/crc.table"], apart := false, laid := [("odyssey/crc.table", laid_odyssey_crc_table)] }
def CrcApartSaid : Prop := crcApartRow.holds Tryd.pinned (OpenSpec.ofChange crcApartSpec)

/-- ITS FALSE NEIGHBOUR: 'it returns false'. Refute it at one input. -/
def crcApartWrong : ChangeSpec := { name := "crcApart", fn := fun _ => fun
  | [d1, d2, d3] => { results := [.lit (.bool false)], args := [d1, d2, d3] }
  | _ => none }
def CrcApartWrongFalsely : Prop := crcApartRow.holds Tryd.pinned (OpenSpec.ofChange crcApartWrong)

/- THE SECOND FORM. 'bulk': how many values and letters a reading holds, each counted each time it is reached (what is shared counts as often as it is met; a slice's spare places count too). A statement '..UptoSaid' is the law's where the arguments, and the package variables that the reading takes, are together of bulk at most 1048576: NARROWER than '..Said'. Prove '..Said' where nothing that the law and all that it calls make is longer than what came in: it says more and counts as full. Else prove '..UptoSaid'. A law counts once. -/
mutual
def uptoBulk {H : Type} : DataW H → Nat
  | .lit (.string bytes) => bytes.length + 1
  | .lit _ => 1
  | .nil => 1
  | .ptr d => uptoBulk d + 1
  | .slice elems spare => uptoBulkAll elems + uptoBulkAll spare + 1
  | .agg parts => uptoBulkAll parts + 1
  | .iface _ d => uptoBulk d + 1
  | .map entries => uptoBulkEntries entries + 1
  | .held _ => 1
def uptoBulkAll {H : Type} : List (DataW H) → Nat
  | [] => 0
  | d :: r => uptoBulk d + uptoBulkAll r
def uptoBulkEntries {H : Type} : List (Lit × DataW H) → Nat
  | [] => 0
  | x :: r => uptoBulkEntry x + uptoBulkEntries r
def uptoBulkEntry {H : Type} : Lit × DataW H → Nat
  | (.string bytes, d) => bytes.length + uptoBulk d + 1
  | (_, d) => uptoBulk d + 1
 end
def uptoSmall : (H : Type) → List (DataW H) → Bool := fun _ ds => decide (uptoBulkAll ds ≤ 1048576)
def OpenSpec.upto (s : _root_.Go.ChangeSpec) : _root_.Go.OpenSpec := { _root_.Go.OpenSpec.ofChange s with cond := some uptoSmall }

/-- 'odysseylaw02.CrcSums', WHERE WHAT IT READS IS OF BULK AT MOST 1048576: true; the input reads as it did. -/
def crcSumsUptoRow : OpenClaim := { program := "ythbmkoiaennejaadoor", sum := "a5f93ae6e61ab118e4887bd42e3723e8f03973dc516dbb61c2632ddce2e751a1", func := "odyssey/odysseylaw02.CrcSums", spec := "crcSums", named := ["odyssey/crc.table"], apart := false, laid := [("odyssey/crc.table", laid_odyssey_crc_table)], narrowed := true }
def CrcSumsUptoSaid : Prop := crcSumsUptoRow.holds Tryd.pinned (OpenSpec.upto crcSumsSpec)

/-- 'odysseylaw02.CrcExtends', WHERE WHAT IT READS IS OF BULK AT MOST 1048576: true; the input reads as it did. -/
def crcExtendsUptoRow : OpenClaim := { program := "ythbmkoiaennejaadoor", sum := "a5f93ae6e61ab118e4887bd42e3723e8f03973dc516dbb61c2632ddce2e751a1", func := "odyssey/odysseylaw02.CrcExtends", spec := "crcExtends", named := ["odyssey/crc.table"], apart := false, laid := [("odyssey/crc.table", laid_odyssey_crc_table)], narrowed := true }
def CrcExtendsUptoSaid : Prop := crcExtendsUptoRow.holds Tryd.pinned (OpenSpec.upto crcExtendsSpec)

/-- 'odysseylaw02.CrcParts', WHERE WHAT IT READS IS OF BULK AT MOST 1048576: true; the input reads as it did. -/
def crcPartsUptoRow : OpenClaim := { program := "ythbmkoiaennejaadoor", sum := "a5f93ae6e61ab118e4887bd42e3723e8f03973dc516dbb61c2632ddce2e751a1", func := "odyssey/odysseylaw02.CrcParts", spec := "crcParts", named := ["odyssey/crc.table"], apart := false, laid := [("odyssey/crc.table", laid_odyssey_crc_table)], narrowed := true }
def CrcPartsUptoSaid : Prop := crcPartsUptoRow.holds Tryd.pinned (OpenSpec.upto crcPartsSpec)

/-- 'odysseylaw02.CrcTurned', WHERE WHAT IT READS IS OF BULK AT MOST 1048576: true; the input reads as it did. -/
def crcTurnedUptoRow : OpenClaim := { program := "ythbmkoiaennejaadoor", sum := "a5f93ae6e61ab118e4887bd42e3723e8f03973dc516dbb61c2632ddce2e751a1", func := "odyssey/odysseylaw02.CrcTurned", spec := "crcTurned", named := ["odyssey/crc.table"], apart := false, laid := [("odyssey/crc.table", laid_odyssey_crc_table)], narrowed := true }
def CrcTurnedUptoSaid : Prop := crcTurnedUptoRow.holds Tryd.pinned (OpenSpec.upto crcTurnedSpec)

/-- 'odysseylaw02.CrcPlain', WHERE WHAT IT READS IS OF BULK AT MOST 1048576: true; the input reads as it did. -/
def crcPlainUptoRow : OpenClaim := { program := "ythbmkoiaennejaadoor", sum := "a5f93ae6e61ab118e4887bd42e3723e8f03973dc516dbb61c2632ddce2e751a1", func := "odyssey/odysseylaw02.CrcPlain", spec := "crcPlain", named := ["odyssey/crc.table"], apart := false, laid := [("odyssey/crc.table", laid_odyssey_crc_table)], narrowed := true }
def CrcPlainUptoSaid : Prop := crcPlainUptoRow.holds Tryd.pinned (OpenSpec.upto crcPlainSpec)

/-- 'odysseylaw02.CrcApart', WHERE WHAT IT READS IS OF BULK AT MOST 1048576: true; the input reads as it did. -/
def crcApartUptoRow : OpenClaim := { program := "ythbmkoiaennejaadoor", sum := "a5f93ae6e61ab118e4887bd42e3723e8f03973dc516dbb61c2632ddce2e751a1", func := "odyssey/odysseylaw02.CrcApart", spec := "crcApart", named := ["odyssey/crc.table"], apart := false, laid := [("odyssey/crc.table", laid_odyssey_crc_table)], narrowed := true }
def CrcApartUptoSaid : Prop := crcApartUptoRow.holds Tryd.pinned (OpenSpec.upto crcApartSpec)

end Rows
end Go.Proofs.YthbmkoiaennejaaDoor
