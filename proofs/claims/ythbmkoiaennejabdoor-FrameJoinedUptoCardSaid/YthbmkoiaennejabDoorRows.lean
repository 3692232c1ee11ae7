/-
  NARROWER THAN 'FOR EVERY INPUT', by the rows' own cells (each row's printed sentence says how): FrameWraps: laid · FrameScans: laid · FrameBack: laid · FrameStands: laid · FrameSpoilt: laid · FrameJoined: laid.
  DERIVED. THE GIVEN ROWS OF THIS SEAT. 6 by the template 'for every input the law returns true; each argument reads behind the call as it read before'; 0 by the template 'total and deterministic' (their statements: YthbmkoiaennejabDoorTotals.lean).
  GIVEN WITH THE SEED: the statements are not yours to turn. If you find one false, say at which input.
  Laid BY PROGRAM, IN A SANDBOX (cutbox-rows.mjs): the forced cells as the released guide's own fill.sh prints them over the translation 25aa81dab8e84647… (all of the seat's roots in one cut). By AI agents, Wed Nov 11 2026. No macro, syntax, notation, axiom, sorry.
-/
import Derived.Test.YthbmkoiaennejabDoorChecked
import GoSem.Claim
import GoSem.ClaimJoined
import GoSem.ClaimMapViews
import Derived.JoinedTies
import Derived.KernelRfl
namespace Go.Proofs.YthbmkoiaennejabDoor
/- THE CELL 'sum', in the pinned program and in every row, IS THE sha256 OF THE DUMP (.gsa) THAT YthbmkoiaennejabDoorProg.lean LOADS. Nothing in Lean hashes anything: it is a label: what it is worth is what the hold of that sum in a sandbox is worth. -/
noncomputable def Tryd.pinned : Pinned := { name := "ythbmkoiaennejabdoor", sum := "25aa81dab8e84647d547645bafc28307736700581db0416deffe785826b45880", checked := Tryd.checked }
namespace Rows
def none {H : Type} : Left H := { results := [], args := [] }

/- WHAT THE LISTED PACKAGE-LEVEL VARIABLES READ AS WHEN THE CALL BEGINS. Each datum BY PROGRAM (the guide's laid-datum.mjs) off the statement by which the dump's own 'gosem.cut.vars' lays the variable. In a bare row this is a premise. The card (YthbmkoiaennejabDoorCards.lean) ties it to the program's text. -/
def laid_odyssey_crc_table {H : Type} : DataW H := .agg [.lit (.int .u32 0), .lit (.int .u32 498536548), .lit (.int .u32 997073096), .lit (.int .u32 651767980), .lit (.int .u32 1994146192), .lit (.int .u32 1802195444), .lit (.int .u32 1303535960), .lit (.int .u32 1342533948), .lit (.int .u32 3988292384), .lit (.int .u32 4027552580), .lit (.int .u32 3604390888), .lit (.int .u32 3412177804), .lit (.int .u32 2607071920), .lit (.int .u32 2262029012), .lit (.int .u32 2685067896), .lit (.int .u32 3183342108)]

/-- 'odysseylaw05.FrameWraps': WHATEVER THE INPUT: true; the input reads as it did. -/
def frameWrapsSpec : ChangeSpec := { name := "frameWraps", fn := fun _ => fun
  | [d] => { results := [.lit (.bool true)], args := [d] }
  | _ => none }
def frameWrapsRow : OpenClaim := { program := "ythbmkoiaennejabdoor", sum := "25aa81dab8e84647d547645bafc28307736700581db0416deffe785826b45880", func := "odyssey/odysseylaw05.FrameWraps", spec := "frameWraps", unfollowed := true, recurses := true, named := ["odyssey/crc.table"], apart := false, laid := [("odyssey/crc.table", laid_odyssey_crc_table)] }
def FrameWrapsSaid : Prop := frameWrapsRow.holds Tryd.pinned (OpenSpec.ofChange frameWrapsSpec)

/-- ITS FALSE NEIGHBOUR: 'it returns false'. Refute it at one input. -/
def frameWrapsWrong : ChangeSpec := { name := "frameWraps", fn := fun _ => fun
  | [d] => { results := [.lit (.bool false)], args := [d] }
  | _ => none }
def FrameWrapsWrongFalsely : Prop := frameWrapsRow.holds Tryd.pinned (OpenSpec.ofChange frameWrapsWrong)

/-- 'odysseylaw05.FrameScans': WHATEVER THE INPUT: true; the input reads as it did. -/
def frameScansSpec : ChangeSpec := { name := "frameScans", fn := fun _ => fun
  | [d] => { results := [.lit (.bool true)], args := [d] }
  | _ => none }
def frameScansRow : OpenClaim := { program := "ythbmkoiaennejabdoor", sum := "25aa81dab8e84647d547645bafc28307736700581db0416deffe785826b45880", func := "odyssey/odysseylaw05.FrameScans", spec := "frameScans", unfollowed := true, recurses := true, named := ["odyssey/crc.table"], apart := false, laid := [("odyssey/crc.table", laid_odyssey_crc_table)] }
def FrameScansSaid : Prop := frameScansRow.holds Tryd.pinned (OpenSpec.ofChange frameScansSpec)

/-- ITS FALSE NEIGHBOUR: 'it returns false'. Refute it at one input. -/
def frameScansWrong : ChangeSpec := { name := "frameScans", fn := fun _ => fun
  | [d] => { results := [.lit (.bool false)], args := [d] }
  | _ => none }
def FrameScansWrongFalsely : Prop := frameScansRow.holds Tryd.pinned (OpenSpec.ofChange frameScansWrong)

/-- 'odysseylaw05.FrameBack': WHATEVER THE INPUT: true; the input reads as it did. -/
def frameBackSpec : ChangeSpec := { name := "frameBack", fn := fun _ => fun
  | [d1, d2] => { results := [.lit (.bool true)], args := [d1, d2] }
  | _ => none }
def frameBackRow : OpenClaim := { program := "ythbmkoiaennejabdoor", sum := "25aa81dab8e84647d547645bafc28307736700581db0416deffe785826b45880", func := "odyssey/odysseylaw05.FrameBack", spec := "frameBack", unfollowed := true, recurses := true, named := ["odyssey/crc.table"], apart := false, laid := [("odyssey/crc.table", laid_odyssey_crc_table)] }
def FrameBackSaid : Prop := frameBackRow.holds Tryd.pinned (OpenSpec.ofChange frameBackSpec)

/-- ITS FALSE NEIGHBOUR: 'it returns false'. Refute it at one input. -/
def frameBackWrong : ChangeSpec := { name := "frameBack", fn := fun _ => fun
  | [d1, d2] => { results := [.lit (.bool false)], args := [d1, d2] }
  | _ => none }
def FrameBackWrongFalsely : Prop := frameBackRow.holds Tryd.pinned (OpenSpec.ofChange frameBackWrong)

/-- 'odysseylaw05.FrameStands': WHATEVER THE INPUT: true; the input reads as it did. -/
def frameStandsSpec : ChangeSpec := { name := "frameStands", fn := fun _ => fun
  | [d] => { results := [.lit (.bool true)], args := [d] }
  | _ => none }
def frameStandsRow : OpenClaim := { program := "ythbmkoiaennejabdoor", sum := "25aa81dab8e84647d547645bafc28307736700581db0416deffe785826b45880", func := "odyssey/odysseylaw05.FrameStands", spec := "frameStands", unfollowed := true, recurses := true, named := ["odyssey/crc.table"], apart := false, laid := [("odyssey/crc.table", laid_odyssey_crc_table)] }
def FrameStandsSaid : Prop := frameStandsRow.holds Tryd.pinned (OpenSpec.ofChange frameStandsSpec)

/-- ITS FALSE NEIGHBOUR: 'it returns false'. Refute it at one input. -/
def frameStandsWrong : ChangeSpec := { name := "frameStands", fn := fun _ => fun
  | [d] => { results := [.lit (.bool false)], args := [d] }
  | _ => none }
def FrameStandsWrongFalsely : Prop := frameStandsRow.holds Tryd.pinned (OpenSpec.ofChange frameStandsWrong)

/-- 'odysseylaw05.FrameSpoilt': WHATEVER THE INPUT: true; the input reads as it did. -/
def frameSpoiltSpec : ChangeSpec := { name := "frameSpoilt", fn := fun _ => fun
  | [d1, d2, d3] => { results := [.lit (.bool true)], args := [d1, d2, d3] }
  | _ => none }
def frameSpoiltRow : OpenClaim := { program := "ythbmkoiaennejabdoor", sum := "25aa81dab8e84647d547645bafc28307736700581db0416deffe785826b45880", func := "odyssey/odysseylaw05.FrameSpoilt", spec := "frameSpoilt", unfollowed := true, recurses := true, named := ["odyssey/crc.table"], apart := false, laid := [("odyssey/crc.table", laid_odyssey_crc_table)] }
def FrameSpoiltSaid : Prop := frameSpoiltRow.holds Tryd.pinned (OpenSpec.ofChange frameSpoiltSpec)

/-- ITS FALSE NEIGHBOUR: 'it returns false'. Refute it at one input. -/
def frameSpoiltWrong : ChangeSpec := { name := "frameSpoilt", fn := fun _ => fun
  | [d1, d2, d3] => { results := [.lit (.bool false)], args := [d1, d2, d3] }
  | _ => none }
def FrameSpoiltWrongFalsely : Prop := frameSpoiltRow.holds Tryd.pinned (OpenSpec.ofChange frameSpoiltWrong)

/-- 'odysseylaw05.FrameJoined': WHATEVER THE INPUT: true; the input reads as it did. -/
def frameJoinedSpec : ChangeSpec := { name := "frameJoined", fn := fun _ => fun
  | [d1, d2] => { results := [.lit (.bool true)], args := [d1, d2] }
  | _ => none }
def frameJoinedRow : OpenClaim := { program := "ythbmkoiaennejabdoor", sum := "25aa81dab8e84647d547645bafc28307736700581db0416deffe785826b45880", func := "odyssey/odysseylaw05.FrameJoined", spec := "frameJoined", unfollowed := true, recurses := true, named := ["odyssey/crc.table"], apart := false, laid := [("odyssey/crc.table", laid_odyssey_crc_table)] }
def FrameJoinedSaid : Prop := frameJoinedRow.holds Tryd.pinned (OpenSpec.ofChange frameJoinedSpec)

/-- ITS FALSE NEIGHBOUR: 'it returns false'. Refute it at one input. -/
def frameJoinedWrong : ChangeSpec := { name := "frameJoined", fn := fun _ => fun
  | [d1, d2] => { results := [.lit (.bool false)], args := [d1, d2] }
  | _ => none }
def FrameJoinedWrongFalsely : Prop := frameJoinedRow.holds Tryd.pinned (OpenSpec.ofChange frameJoinedWrong)

/- THE SECOND FORM. 'bulk': how many values and letters a reading holds, each counted each time it is reached (what is shared counts as often as it is met; a slice's spare places count too). A statement '..UptoSaid' is the law's where the arguments, and the package variables that the reading takes, are together of bulk at most 1048576: NARROWER than '..Said'. Prove '..Said' where nothing that the law and all that it calls make is longer than what came in: it says more and counts as full. Else prove '..UptoSaid'. A law counts once. -/
mutual
def uptoBulk {H : Type} : DataW H → Nat
  | .lit (.string bytes) => bytes.length + 1
  | .lit _ => 1
  | .nil => 1
  | .ptr d => uptoBulk d + 1
  | .slice elems spare => uptoBulkAll elems + uptoBulkAll spare + 1
  | .agg parts => uptoBulkAll parts + 1
  | .iface _ d => uptoBulk d + 1
  | .map entries => uptoBulkEntries entries + 1
  | .held _ => 1
def uptoBulkAll {H : Type} : List (DataW H) → Nat
  | [] => 0
  | d :: r => uptoBulk d + uptoBulkAll r
def uptoBulkEntries {H : Type} : List (Lit × DataW H) → Nat
  | [] => 0
  | x :: r => uptoBulkEntry x + uptoBulkEntries r
def uptoBulkEntry {H : Type} : Lit × DataW H → Nat
  | (.string bytes, d) => bytes.length + uptoBulk d + 1
  | (_, d) => uptoBulk d + 1
 end
def uptoSmall : (H : Type) → List (DataW H) → Bool := fun _ ds => decide (uptoBulkAll ds ≤ 1048576)
def OpenSpec.upto (s : _root_.Go.ChangeSpec) : _root_.Go.OpenSpec := { _root_.Go.OpenSpec.ofChange s with cond := some uptoSmall }

/-- 'odysseylaw05.FrameWraps', WHERE WHAT IT READS IS OF BULK AT MOST 1048576: true; the input reads as it did. -/
def frameWrapsUptoRow : OpenClaim := { program := "ythbmkoiaennejabdoor", sum := "25aa81dab8e84647d547645bafc28307736700581db0416deffe785826b45880", func := "odyssey/odysseylaw05.FrameWraps", spec := "frameWraps", unfollowed := true, recurses := true, named := ["odyssey/crc.table"], apart := false, laid := [("odyssey/crc.table", laid_odyssey_crc_table)], narrowed := true }
def FrameWrapsUptoSaid : Prop := frameWrapsUptoRow.holds Tryd.pinned (OpenSpec.upto frameWrapsSpec)

/-- 'odysseylaw05.FrameScans', WHERE WHAT IT READS IS OF BULK AT MOST 1048576: true; the input reads as it did. -/
def frameScansUptoRow : OpenClaim := { program := "ythbmkoiaennejabdoor", sum := "25aa81dab8e84647d547645bafc28307736700581db0416deffe785826b45880", func := "odyssey/odysseylaw05.FrameScans", spec := "frameScans", unfollowed := true, recurses := true, named := ["odyssey/crc.table"], apart := false, laid := [("odyssey/crc.table", laid_odyssey_crc_table)], narrowed := true }
def FrameScansUptoSaid : Prop := frameScansUptoRow.holds Tryd.pinned (OpenSpec.upto frameScansSpec)

/-- 'odysseylaw05.FrameBack', WHERE WHAT IT READS IS OF BULK AT MOST 1048576: true; the input reads as it did. -/
def frameBackUptoRow : OpenClaim := { program := "ythbmkoiaennejabdoor", sum := "25aa81dab8e84647d547645bafc28307736700581db0416deffe785826b45880", func := "odyssey/odysseylaw05.FrameBack", spec := "frameBack", unfollowed := true, recurses := true, named := ["odyssey/crc.table"], apart := false, laid := [("odyssey/crc.table", laid_odyssey_crc_table)], narrowed := true }
def FrameBackUptoSaid : Prop := frameBackUptoRow.holds Tryd.pinned (OpenSpec.upto frameBackSpec)

/-- 'odysseylaw05.FrameStands', WHERE WHAT IT READS IS OF BULK AT MOST 1048576: true; the input reads as it did. -/
def frameStandsUptoRow : OpenClaim := { program := "ythbmkoiaennejabdoor", sum := "25aa81dab8e84647d547645bafc28307736700581db0416deffe785826b45880", func := "odyssey/odysseylaw05.FrameStands", spec := "frameStands", unfollowed := true, recurses := true, named := ["odyssey/crc.table"], apart := false, laid := [("odyssey/crc.table", laid_odyssey_crc_table)], narrowed := true }
def FrameStandsUptoSaid : Prop := frameStandsUptoRow.holds Tryd.pinned (OpenSpec.upto frameStandsSpec)

/-- 'odysseylaw05.FrameSpoilt', WHERE WHAT IT READS IS OF BULK AT MOST 1048576: true; the input reads as it did. -/
def frameSpoiltUptoRow : OpenClaim := { program := "ythbmkoiaennejabdoor", sum := "25aa81dab8e84647d547645bafc28307736700581db0416deffe785826b45880", func := "odyssey/odysseylaw05.FrameSpoilt", spec := "frameSpoilt", unfollowed := true, recurses := true, named := ["odyssey/crc.table"], apart := false, laid := [("odyssey/crc.table", laid_odyssey_crc_table)], narrowed := true }
def FrameSpoiltUptoSaid : Prop := frameSpoiltUptoRow.holds Tryd.pinned (OpenSpec.upto frameSpoiltSpec)

/-- 'odysseylaw05.FrameJoined', WHERE WHAT IT READS IS OF BULK AT MOST 1048576: true; the input reads as it did. -/
def frameJoinedUptoRow : OpenClaim := { program := "ythbmkoiaennejabdoor", sum := "25aa81dab8e84647d547645bafc28307736700581db0416deffe785826b45880", func := "odyssey/odysseylaw05.FrameJoined", spec := "frameJoined", unfollowed := true, recurses := true, named := ["odyssey/crc.table"], apart := false, laid := [("odyssey/crc.table", laid_odyssey_crc_table)], narrowed := true }
def FrameJoinedUptoSaid : Prop := frameJoinedUptoRow.holds Tryd.pinned (OpenSpec.upto frameJoinedSpec)

end Rows
end Go.Proofs.YthbmkoiaennejabDoor
