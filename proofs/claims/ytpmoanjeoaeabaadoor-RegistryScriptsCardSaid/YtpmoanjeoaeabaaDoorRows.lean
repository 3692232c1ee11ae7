/-
  NARROWER THAN 'FOR EVERY INPUT', by the rows' own cells (each row's printed sentence says how): CheckTells: laid · CheckLess: laid · CheckSound: laid · CostTells: laid · CostRooms: laid · CostGrows: laid · RegistryForEver: laid · RegistryScripts: laid.
  DERIVED. THE GIVEN ROWS OF THIS SEAT. 8 by the template 'for every input the law returns true; each argument reads behind the call as it read before'; 0 by the template 'total and deterministic' (their statements: YtpmoanjeoaeabaaDoorTotals.lean).
  GIVEN WITH THE SEED: the statements are not yours to turn. If you find one false, say at which input.
  Laid BY PROGRAM, IN A SANDBOX (cutbox-rows.mjs): the forced cells as the released guide's own fill.sh prints them over the translation 6ed246665c5fbdfe… (all of the seat's roots in one cut). By AI agents, Wed Nov 11 2026. No macro, syntax, notation, axiom, sorry.
-/
import Derived.Test.YtpmoanjeoaeabaaDoorChecked
import GoSem.PinnedTables
import GoSem.Claim
import GoSem.ClaimJoined
import GoSem.ClaimMapViews
import Derived.JoinedTies
import Derived.KernelRfl
namespace Go.Proofs.YtpmoanjeoaeabaaDoor
/- THE CELL 'sum', in the pinned program and in every row, IS THE sha256 OF THE DUMP (.gsa) THAT YtpmoanjeoaeabaaDoorProg.lean LOADS. Nothing in Lean hashes anything: it is a label: what it is worth is what the hold of that sum in a sandbox is worth. -/
noncomputable def Tryd.pinned : Pinned := { name := "ytpmoanjeoaeabaadoor", sum := "6ed246665c5fbdfed62ea6165615fcd749678b082f8e119c9a77d74b8ac3df76", checked := Tryd.checked }
namespace Rows
def none {H : Type} : Left H := { results := [], args := [] }

/- WHAT THE LISTED PACKAGE-LEVEL VARIABLES READ AS WHEN THE CALL BEGINS. Each datum BY PROGRAM (the guide's laid-datum.mjs) off the statement by which the dump's own 'gosem.cut.vars' lays the variable. In a bare row this is a premise. The card (YtpmoanjeoaeabaaDoorCards.lean) ties it to the program's text. -/
def laid_unicode_utf8_acceptRanges {H : Type} : DataW H := .agg [.agg [.lit (.int .u8 128), .lit (.int .u8 191)], .agg [.lit (.int .u8 160), .lit (.int .u8 191)], .agg [.lit (.int .u8 128), .lit (.int .u8 159)], .agg [.lit (.int .u8 144), .lit (.int .u8 191)], .agg [.lit (.int .u8 128), .lit (.int .u8 143)], .agg [.lit (.int .u8 0), .lit (.int .u8 0)], .agg [.lit (.int .u8 0), .lit (.int .u8 0)], .agg [.lit (.int .u8 0), .lit (.int .u8 0)], .agg [.lit (.int .u8 0), .lit (.int .u8 0)], .agg [.lit (.int .u8 0), .lit (.int .u8 0)], .agg [.lit (.int .u8 0), .lit (.int .u8 0)], .agg [.lit (.int .u8 0), .lit (.int .u8 0)], .agg [.lit (.int .u8 0), .lit (.int .u8 0)], .agg [.lit (.int .u8 0), .lit (.int .u8 0)], .agg [.lit (.int .u8 0), .lit (.int .u8 0)], .agg [.lit (.int .u8 0), .lit (.int .u8 0)]]
/-- One of Go's own tables, pinned by name: the form's constant. -/
def laid_unicode_utf8_first : DataW Unit := Go.Pinned.utf8First

/-- 'odysseylaw11.CheckTells': WHATEVER THE INPUT: true; the input reads as it did. -/
def checkTellsSpec : ChangeSpec := { name := "checkTells", fn := fun _ => fun
  | [d] => { results := [.lit (.bool true)], args := [d] }
  | _ => none }
def checkTellsRow : OpenClaim := { program := "ytpmoanjeoaeabaadoor", sum := "6ed246665c5fbdfed62ea6165615fcd749678b082f8e119c9a77d74b8ac3df76", func := "odyssey/odysseylaw11.CheckTells", spec := "checkTells", unfollowed := true, recurses := true, named := ["unicode/utf8.first", "unicode/utf8.acceptRanges"], plainKeys := false, apart := false, laid := [("unicode/utf8.acceptRanges", laid_unicode_utf8_acceptRanges), ("unicode/utf8.first", laid_unicode_utf8_first)] }
def CheckTellsSaid : Prop := checkTellsRow.holds Tryd.pinned (OpenSpec.ofChange checkTellsSpec)

/-- ITS FALSE NEIGHBOUR: 'it returns false'. Refute it at one input. -/
def checkTellsWrong : ChangeSpec := { name := "checkTells", fn := fun _ => fun
  | [d] => { results := [.lit (.bool false)], args := [d] }
  | _ => none }
def CheckTellsWrongFalsely : Prop := checkTellsRow.holds Tryd.pinned (OpenSpec.ofChange checkTellsWrong)

/-- 'odysseylaw11.CheckLess': WHATEVER THE INPUT: true; the input reads as it did. -/
def checkLessSpec : ChangeSpec := { name := "checkLess", fn := fun _ => fun
  | [d1, d2] => { results := [.lit (.bool true)], args := [d1, d2] }
  | _ => none }
def checkLessRow : OpenClaim := { program := "ytpmoanjeoaeabaadoor", sum := "6ed246665c5fbdfed62ea6165615fcd749678b082f8e119c9a77d74b8ac3df76", func := "odyssey/odysseylaw11.CheckLess", spec := "checkLess", unfollowed := true, recurses := true, named := ["unicode/utf8.first", "unicode/utf8.acceptRanges"], plainKeys := false, apart := false, laid := [("unicode/utf8.acceptRanges", laid_unicode_utf8_acceptRanges), ("unicode/utf8.first", laid_unicode_utf8_first)] }
def CheckLessSaid : Prop := checkLessRow.holds Tryd.pinned (OpenSpec.ofChange checkLessSpec)

/-- ITS FALSE NEIGHBOUR: 'it returns false'. Refute it at one input. -/
def checkLessWrong : ChangeSpec := { name := "checkLess", fn := fun _ => fun
  | [d1, d2] => { results := [.lit (.bool false)], args := [d1, d2] }
  | _ => none }
def CheckLessWrongFalsely : Prop := checkLessRow.holds Tryd.pinned (OpenSpec.ofChange checkLessWrong)

/-- 'odysseylaw11.CheckSound': WHATEVER THE INPUT: true; the input reads as it did. -/
def checkSoundSpec : ChangeSpec := { name := "checkSound", fn := fun _ => fun
  | [d] => { results := [.lit (.bool true)], args := [d] }
  | _ => none }
def checkSoundRow : OpenClaim := { program := "ytpmoanjeoaeabaadoor", sum := "6ed246665c5fbdfed62ea6165615fcd749678b082f8e119c9a77d74b8ac3df76", func := "odyssey/odysseylaw11.CheckSound", spec := "checkSound", unfollowed := true, recurses := true, named := ["unicode/utf8.first", "unicode/utf8.acceptRanges"], plainKeys := false, apart := false, laid := [("unicode/utf8.acceptRanges", laid_unicode_utf8_acceptRanges), ("unicode/utf8.first", laid_unicode_utf8_first)] }
def CheckSoundSaid : Prop := checkSoundRow.holds Tryd.pinned (OpenSpec.ofChange checkSoundSpec)

/-- ITS FALSE NEIGHBOUR: 'it returns false'. Refute it at one input. -/
def checkSoundWrong : ChangeSpec := { name := "checkSound", fn := fun _ => fun
  | [d] => { results := [.lit (.bool false)], args := [d] }
  | _ => none }
def CheckSoundWrongFalsely : Prop := checkSoundRow.holds Tryd.pinned (OpenSpec.ofChange checkSoundWrong)

/-- 'odysseylaw13.CostTells': WHATEVER THE INPUT: true; the input reads as it did. -/
def costTellsSpec : ChangeSpec := { name := "costTells", fn := fun _ => fun
  | [d] => { results := [.lit (.bool true)], args := [d] }
  | _ => none }
def costTellsRow : OpenClaim := { program := "ytpmoanjeoaeabaadoor", sum := "6ed246665c5fbdfed62ea6165615fcd749678b082f8e119c9a77d74b8ac3df76", func := "odyssey/odysseylaw13.CostTells", spec := "costTells", unfollowed := true, recurses := true, named := ["unicode/utf8.first", "unicode/utf8.acceptRanges"], plainKeys := false, apart := false, laid := [("unicode/utf8.acceptRanges", laid_unicode_utf8_acceptRanges), ("unicode/utf8.first", laid_unicode_utf8_first)] }
def CostTellsSaid : Prop := costTellsRow.holds Tryd.pinned (OpenSpec.ofChange costTellsSpec)

/-- ITS FALSE NEIGHBOUR: 'it returns false'. Refute it at one input. -/
def costTellsWrong : ChangeSpec := { name := "costTells", fn := fun _ => fun
  | [d] => { results := [.lit (.bool false)], args := [d] }
  | _ => none }
def CostTellsWrongFalsely : Prop := costTellsRow.holds Tryd.pinned (OpenSpec.ofChange costTellsWrong)

/-- 'odysseylaw13.CostRooms': WHATEVER THE INPUT: true; the input reads as it did. -/
def costRoomsSpec : ChangeSpec := { name := "costRooms", fn := fun _ => fun
  | [d1, d2] => { results := [.lit (.bool true)], args := [d1, d2] }
  | _ => none }
def costRoomsRow : OpenClaim := { program := "ytpmoanjeoaeabaadoor", sum := "6ed246665c5fbdfed62ea6165615fcd749678b082f8e119c9a77d74b8ac3df76", func := "odyssey/odysseylaw13.CostRooms", spec := "costRooms", unfollowed := true, recurses := true, named := ["unicode/utf8.first", "unicode/utf8.acceptRanges"], plainKeys := false, apart := false, laid := [("unicode/utf8.acceptRanges", laid_unicode_utf8_acceptRanges), ("unicode/utf8.first", laid_unicode_utf8_first)] }
def CostRoomsSaid : Prop := costRoomsRow.holds Tryd.pinned (OpenSpec.ofChange costRoomsSpec)

/-- ITS FALSE NEIGHBOUR: 'it returns false'. Refute it at one input. -/
def costRoomsWrong : ChangeSpec := { name := "costRooms", fn := fun _ => fun
  | [d1, d2] => { results := [.lit (.bool false)], args := [d1, d2] }
  | _ => none }
def CostRoomsWrongFalsely : Prop := costRoomsRow.holds Tryd.pinned (OpenSpec.ofChange costRoomsWrong)

/-- 'odysseylaw13.CostGrows': WHATEVER THE INPUT: true; the input reads as it did. -/
def costGrowsSpec : ChangeSpec := { name := "costGrows", fn := fun _ => fun
  | [d1, d2] => { results := [.lit (.bool true)], args := [d1, d2] }
  | _ => none }
def costGrowsRow : OpenClaim := { program := "ytpmoanjeoaeabaadoor", sum := "6ed246665c5fbdfed62ea6165615fcd749678b082f8e119c9a77d74b8ac3df76", func := "odyssey/odysseylaw13.CostGrows", spec := "costGrows", unfollowed := true, recurses := true, named := ["unicode/utf8.first", "unicode/utf8.acceptRanges"], plainKeys := false, apart := false, laid := [("unicode/utf8.acceptRanges", laid_unicode_utf8_acceptRanges), ("unicode/utf8.first", laid_unicode_utf8_first)] }
def CostGrowsSaid : Prop := costGrowsRow.holds Tryd.pinned (OpenSpec.ofChange costGrowsSpec)

/-- ITS FALSE NEIGHBOUR: 'it returns false'. Refute it at one input. -/
def costGrowsWrong : ChangeSpec := { name := "costGrows", fn := fun _ => fun
  | [d1, d2] => { results := [.lit (.bool false)], args := [d1, d2] }
  | _ => none }
def CostGrowsWrongFalsely : Prop := costGrowsRow.holds Tryd.pinned (OpenSpec.ofChange costGrowsWrong)

/-- 'odysseylaw14.RegistryForEver': WHATEVER THE INPUT: true; the input reads as it did. -/
def registryForEverSpec : ChangeSpec := { name := "registryForEver", fn := fun _ => fun
  | [d] => { results := [.lit (.bool true)], args := [d] }
  | _ => none }
def registryForEverRow : OpenClaim := { program := "ytpmoanjeoaeabaadoor", sum := "6ed246665c5fbdfed62ea6165615fcd749678b082f8e119c9a77d74b8ac3df76", func := "odyssey/odysseylaw14.RegistryForEver", spec := "registryForEver", unfollowed := true, recurses := true, named := ["unicode/utf8.first", "unicode/utf8.acceptRanges"], plainKeys := false, apart := false, laid := [("unicode/utf8.acceptRanges", laid_unicode_utf8_acceptRanges), ("unicode/utf8.first", laid_unicode_utf8_first)] }
def RegistryForEverSaid : Prop := registryForEverRow.holds Tryd.pinned (OpenSpec.ofChange registryForEverSpec)

/-- ITS FALSE NEIGHBOUR: 'it returns false'. Refute it at one input. -/
def registryForEverWrong : ChangeSpec := { name := "registryForEver", fn := fun _ => fun
  | [d] => { results := [.lit (.bool false)], args := [d] }
  | _ => none }
def RegistryForEverWrongFalsely : Prop := registryForEverRow.holds Tryd.pinned (OpenSpec.ofChange registryForEverWrong)

/-- 'odysseylaw14.RegistryScripts': WHATEVER THE INPUT: true; the input reads as it did. -/
def registryScriptsSpec : ChangeSpec := { name := "registryScripts", fn := fun _ => fun
  | [d] => { results := [.lit (.bool true)], args := [d] }
  | _ => none }
def registryScriptsRow : OpenClaim := { program := "ytpmoanjeoaeabaadoor", sum := "6ed246665c5fbdfed62ea6165615fcd749678b082f8e119c9a77d74b8ac3df76", func := "odyssey/odysseylaw14.RegistryScripts", spec := "registryScripts", unfollowed := true, recurses := true, named := ["unicode/utf8.first", "unicode/utf8.acceptRanges"], plainKeys := false, apart := false, laid := [("unicode/utf8.acceptRanges", laid_unicode_utf8_acceptRanges), ("unicode/utf8.first", laid_unicode_utf8_first)] }
def RegistryScriptsSaid : Prop := registryScriptsRow.holds Tryd.pinned (OpenSpec.ofChange registryScriptsSpec)

/-- ITS FALSE NEIGHBOUR: 'it returns false'. Refute it at one input. -/
def registryScriptsWrong : ChangeSpec := { name := "registryScripts", fn := fun _ => fun
  | [d] => { results := [.lit (.bool false)], args := [d] }
  | _ => none }
def RegistryScriptsWrongFalsely : Prop := registryScriptsRow.holds Tryd.pinned (OpenSpec.ofChange registryScriptsWrong)

/- THE SECOND FORM. 'bulk': how many values and letters a reading holds, each counted each time it is reached (what is shared counts as often as it is met; a slice's spare places count too). A statement '..UptoSaid' is the law's where the arguments, and the package variables that the reading takes, are together of bulk at most 1048576: NARROWER than '..Said'. Prove '..Said' where nothing that the law and all that it calls make is longer than what came in: it says more and counts as full. Else prove '..UptoSaid'. A law counts once. -/
mutual
def uptoBulk {H : Type} : DataW H → Nat
  | .lit (.string bytes) => bytes.length + 1
  | .lit _ => 1
  | .nil => 1
  | .ptr d => uptoBulk d + 1
  | .slice elems spare => uptoBulkAll elems + uptoBulkAll spare + 1
  | .agg parts => uptoBulkAll parts + 1
  | .iface _ d => uptoBulk d + 1
  | .map entries => uptoBulkEntries entries + 1
  | .held _ => 1
def uptoBulkAll {H : Type} : List (DataW H) → Nat
  | [] => 0
  | d :: r => uptoBulk d + uptoBulkAll r
def uptoBulkEntries {H : Type} : List (Lit × DataW H) → Nat
  | [] => 0
  | x :: r => uptoBulkEntry x + uptoBulkEntries r
def uptoBulkEntry {H : Type} : Lit × DataW H → Nat
  | (.string bytes, d) => bytes.length + uptoBulk d + 1
  | (_, d) => uptoBulk d + 1
 end
def uptoSmall : (H : Type) → List (DataW H) → Bool := fun _ ds => decide (uptoBulkAll ds ≤ 1048576)
def OpenSpec.upto (s : _root_.Go.ChangeSpec) : _root_.Go.OpenSpec := { _root_.Go.OpenSpec.ofChange s with cond := some uptoSmall }

/-- 'odysseylaw11.CheckTells', WHERE WHAT IT READS IS OF BULK AT MOST 1048576: true; the input reads as it did. -/
def checkTellsUptoRow : OpenClaim := { program := "ytpmoanjeoaeabaadoor", sum := "6ed246665c5fbdfed62ea6165615fcd749678b082f8e119c9a77d74b8ac3df76", func := "odyssey/odysseylaw11.CheckTells", spec := "checkTells", unfollowed := true, recurses := true, named := ["unicode/utf8.first", "unicode/utf8.acceptRanges"], plainKeys := false, apart := false, laid := [("unicode/utf8.acceptRanges", laid_unicode_utf8_acceptRanges), ("unicode/utf8.first", laid_unicode_utf8_first)], narrowed := true }
def CheckTellsUptoSaid : Prop := checkTellsUptoRow.holds Tryd.pinned (OpenSpec.upto checkTellsSpec)

/-- 'odysseylaw11.CheckLess', WHERE WHAT IT READS IS OF BULK AT MOST 1048576: true; the input reads as it did. -/
def checkLessUptoRow : OpenClaim := { program := "ytpmoanjeoaeabaadoor", sum := "6ed246665c5fbdfed62ea6165615fcd749678b082f8e119c9a77d74b8ac3df76", func := "odyssey/odysseylaw11.CheckLess", spec := "checkLess", unfollowed := true, recurses := true, named := ["unicode/utf8.first", "unicode/utf8.acceptRanges"], plainKeys := false, apart := false, laid := [("unicode/utf8.acceptRanges", laid_unicode_utf8_acceptRanges), ("unicode/utf8.first", laid_unicode_utf8_first)], narrowed := true }
def CheckLessUptoSaid : Prop := checkLessUptoRow.holds Tryd.pinned (OpenSpec.upto checkLessSpec)

/-- 'odysseylaw11.CheckSound', WHERE WHAT IT READS IS OF BULK AT MOST 1048576: true; the input reads as it did. -/
def checkSoundUptoRow : OpenClaim := { program := "ytpmoanjeoaeabaadoor", sum := "6ed246665c5fbdfed62ea6165615fcd749678b082f8e119c9a77d74b8ac3df76", func := "odyssey/odysseylaw11.CheckSound", spec := "checkSound", unfollowed := true, recurses := true, named := ["unicode/utf8.first", "unicode/utf8.acceptRanges"], plainKeys := false, apart := false, laid := [("unicode/utf8.acceptRanges", laid_unicode_utf8_acceptRanges), ("unicode/utf8.first", laid_unicode_utf8_first)], narrowed := true }
def CheckSoundUptoSaid : Prop := checkSoundUptoRow.holds Tryd.pinned (OpenSpec.upto checkSoundSpec)

/-- 'odysseylaw13.CostTells', WHERE WHAT IT READS IS OF BULK AT MOST 1048576: true; the input reads as it did. -/
def costTellsUptoRow : OpenClaim := { program := "ytpmoanjeoaeabaadoor", sum := "6ed246665c5fbdfed62ea6165615fcd749678b082f8e119c9a77d74b8ac3df76", func := "odyssey/odysseylaw13.CostTells", spec := "costTells", unfollowed := true, recurses := true, named := ["unicode/utf8.first", "unicode/utf8.acceptRanges"], plainKeys := false, apart := false, laid := [("unicode/utf8.acceptRanges", laid_unicode_utf8_acceptRanges), ("unicode/utf8.first", laid_unicode_utf8_first)], narrowed := true }
def CostTellsUptoSaid : Prop := costTellsUptoRow.holds Tryd.pinned (OpenSpec.upto costTellsSpec)

/-- 'odysseylaw13.CostRooms', WHERE WHAT IT READS IS OF BULK AT MOST 1048576: true; the input reads as it did. -/
def costRoomsUptoRow : OpenClaim := { program := "ytpmoanjeoaeabaadoor", sum := "6ed246665c5fbdfed62ea6165615fcd749678b082f8e119c9a77d74b8ac3df76", func := "odyssey/odysseylaw13.CostRooms", spec := "costRooms", unfollowed := true, recurses := true, named := ["unicode/utf8.first", "unicode/utf8.acceptRanges"], plainKeys := false, apart := false, laid := [("unicode/utf8.acceptRanges", laid_unicode_utf8_acceptRanges), ("unicode/utf8.first", laid_unicode_utf8_first)], narrowed := true }
def CostRoomsUptoSaid : Prop := costRoomsUptoRow.holds Tryd.pinned (OpenSpec.upto costRoomsSpec)

/-- 'odysseylaw13.CostGrows', WHERE WHAT IT READS IS OF BULK AT MOST 1048576: true; the input reads as it did. -/
def costGrowsUptoRow : OpenClaim := { program := "ytpmoanjeoaeabaadoor", sum := "6ed246665c5fbdfed62ea6165615fcd749678b082f8e119c9a77d74b8ac3df76", func := "odyssey/odysseylaw13.CostGrows", spec := "costGrows", unfollowed := true, recurses := true, named := ["unicode/utf8.first", "unicode/utf8.acceptRanges"], plainKeys := false, apart := false, laid := [("unicode/utf8.acceptRanges", laid_unicode_utf8_acceptRanges), ("unicode/utf8.first", laid_unicode_utf8_first)], narrowed := true }
def CostGrowsUptoSaid : Prop := costGrowsUptoRow.holds Tryd.pinned (OpenSpec.upto costGrowsSpec)

/-- 'odysseylaw14.RegistryForEver', WHERE WHAT IT READS IS OF BULK AT MOST 1048576: true; the input reads as it did. -/
def registryForEverUptoRow : OpenClaim := { program := "ytpmoanjeoaeabaadoor", sum := "6ed246665c5fbdfed62ea6165615fcd749678b082f8e119c9a77d74b8ac3df76", func := "odyssey/odysseylaw14.RegistryForEver", spec := "registryForEver", unfollowed := true, recurses := true, named := ["unicode/utf8.first", "unicode/utf8.acceptRanges"], plainKeys := false, apart := false, laid := [("unicode/utf8.acceptRanges", laid_unicode_utf8_acceptRanges), ("unicode/utf8.first", laid_unicode_utf8_first)], narrowed := true }
def RegistryForEverUptoSaid : Prop := registryForEverUptoRow.holds Tryd.pinned (OpenSpec.upto registryForEverSpec)

/-- 'odysseylaw14.RegistryScripts', WHERE WHAT IT READS IS OF BULK AT MOST 1048576: true; the input reads as it did. -/
def registryScriptsUptoRow : OpenClaim := { program := "ytpmoanjeoaeabaadoor", sum := "6ed246665c5fbdfed62ea6165615fcd749678b082f8e119c9a77d74b8ac3df76", func := "odyssey/odysseylaw14.RegistryScripts", spec := "registryScripts", unfollowed := true, recurses := true, named := ["unicode/utf8.first", "unicode/utf8.acceptRanges"], plainKeys := false, apart := false, laid := [("unicode/utf8.acceptRanges", laid_unicode_utf8_acceptRanges), ("unicode/utf8.first", laid_unicode_utf8_first)], narrowed := true }
def RegistryScriptsUptoSaid : Prop := registryScriptsUptoRow.holds Tryd.pinned (OpenSpec.upto registryScriptsSpec)

end Rows
end Go.Proofs.YtpmoanjeoaeabaaDoor
