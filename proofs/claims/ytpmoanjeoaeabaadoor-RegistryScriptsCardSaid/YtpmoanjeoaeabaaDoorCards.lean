/-
  DERIVED. GIVEN WITH THE SEED: THE CARDS: each row of YtpmoanjeoaeabaaDoorRows.lean that lists a variable, with what it lists TIED to the program's text (the seventh form; the later family's looks); each row that meets fmt, with fmt's text TOLD by the authors' own Lean function (tested against real Go, not proved from fmt's source: count such statements apart). THE CARD IS WHAT COUNTS. Prove the row's statement (the work); the ties are given (YtpmoanjeoaeabaaDoorTie.lean); close each card by the builder's one call (the guide's Derived/Test/ToyasCard.lean, 'card_holds'). Laid BY PROGRAM, IN A SANDBOX (cutbox-door.mjs). By AI agents, Wed Nov 11 2026. No macro, syntax, notation, axiom, sorry.
-/
import Derived.Test.YtpmoanjeoaeabaaDoorRows
import GoSem.ClaimSeven
namespace Go.Proofs.YtpmoanjeoaeabaaDoor
namespace Rows

/-- THE TIED CARD OF 'odysseylaw11.CheckTells'. -/
def checkTellsCard : Claim7 := { stood := { row := checkTellsRow, standIns := [], harness := (true, "75e07e48692a2ce738ab863ff18095c5a320920f3a6ae4c411f1aec5239f75ae"), looks := false }, kinds := [], alts := [], laidByText := true, laidKinds := [.data, .pinned], laidTests := true, laidLooks := .later }
def CheckTellsCardSaid : Prop := Claim7.holds Tryd.pinned (.plain (OpenSpec.ofChange checkTellsSpec)) checkTellsCard

/-- THE TIED CARD OF 'odysseylaw11.CheckLess'. -/
def checkLessCard : Claim7 := { stood := { row := checkLessRow, standIns := [], harness := (true, "75e07e48692a2ce738ab863ff18095c5a320920f3a6ae4c411f1aec5239f75ae"), looks := false }, kinds := [], alts := [], laidByText := true, laidKinds := [.data, .pinned], laidTests := true, laidLooks := .later }
def CheckLessCardSaid : Prop := Claim7.holds Tryd.pinned (.plain (OpenSpec.ofChange checkLessSpec)) checkLessCard

/-- THE TIED CARD OF 'odysseylaw11.CheckSound'. -/
def checkSoundCard : Claim7 := { stood := { row := checkSoundRow, standIns := [], harness := (true, "75e07e48692a2ce738ab863ff18095c5a320920f3a6ae4c411f1aec5239f75ae"), looks := false }, kinds := [], alts := [], laidByText := true, laidKinds := [.data, .pinned], laidTests := true, laidLooks := .later }
def CheckSoundCardSaid : Prop := Claim7.holds Tryd.pinned (.plain (OpenSpec.ofChange checkSoundSpec)) checkSoundCard

/-- THE TIED CARD OF 'odysseylaw13.CostTells'. -/
def costTellsCard : Claim7 := { stood := { row := costTellsRow, standIns := [], harness := (true, "75e07e48692a2ce738ab863ff18095c5a320920f3a6ae4c411f1aec5239f75ae"), looks := false }, kinds := [], alts := [], laidByText := true, laidKinds := [.data, .pinned], laidTests := true, laidLooks := .later }
def CostTellsCardSaid : Prop := Claim7.holds Tryd.pinned (.plain (OpenSpec.ofChange costTellsSpec)) costTellsCard

/-- THE TIED CARD OF 'odysseylaw13.CostRooms'. -/
def costRoomsCard : Claim7 := { stood := { row := costRoomsRow, standIns := [], harness := (true, "75e07e48692a2ce738ab863ff18095c5a320920f3a6ae4c411f1aec5239f75ae"), looks := false }, kinds := [], alts := [], laidByText := true, laidKinds := [.data, .pinned], laidTests := true, laidLooks := .later }
def CostRoomsCardSaid : Prop := Claim7.holds Tryd.pinned (.plain (OpenSpec.ofChange costRoomsSpec)) costRoomsCard

/-- THE TIED CARD OF 'odysseylaw13.CostGrows'. -/
def costGrowsCard : Claim7 := { stood := { row := costGrowsRow, standIns := [], harness := (true, "75e07e48692a2ce738ab863ff18095c5a320920f3a6ae4c411f1aec5239f75ae"), looks := false }, kinds := [], alts := [], laidByText := true, laidKinds := [.data, .pinned], laidTests := true, laidLooks := .later }
def CostGrowsCardSaid : Prop := Claim7.holds Tryd.pinned (.plain (OpenSpec.ofChange costGrowsSpec)) costGrowsCard

/-- THE TIED CARD OF 'odysseylaw14.RegistryForEver'. -/
def registryForEverCard : Claim7 := { stood := { row := registryForEverRow, standIns := [], harness := (true, "75e07e48692a2ce738ab863ff18095c5a320920f3a6ae4c411f1aec5239f75ae"), looks := false }, kinds := [], alts := [], laidByText := true, laidKinds := [.data, .pinned], laidTests := true, laidLooks := .later }
def RegistryForEverCardSaid : Prop := Claim7.holds Tryd.pinned (.plain (OpenSpec.ofChange registryForEverSpec)) registryForEverCard

/-- THE TIED CARD OF 'odysseylaw14.RegistryScripts'. -/
def registryScriptsCard : Claim7 := { stood := { row := registryScriptsRow, standIns := [], harness := (true, "75e07e48692a2ce738ab863ff18095c5a320920f3a6ae4c411f1aec5239f75ae"), looks := false }, kinds := [], alts := [], laidByText := true, laidKinds := [.data, .pinned], laidTests := true, laidLooks := .later }
def RegistryScriptsCardSaid : Prop := Claim7.holds Tryd.pinned (.plain (OpenSpec.ofChange registryScriptsSpec)) registryScriptsCard

/-- THE SECOND FORM's CARD OF 'odysseylaw11.CheckTells'. -/
def checkTellsUptoCard : Claim7 := { stood := { row := checkTellsUptoRow, standIns := [], harness := (true, "75e07e48692a2ce738ab863ff18095c5a320920f3a6ae4c411f1aec5239f75ae"), looks := false }, kinds := [], alts := [], laidByText := true, laidKinds := [.data, .pinned], laidTests := true, laidLooks := .later }
def CheckTellsUptoCardSaid : Prop := Claim7.holds Tryd.pinned (.plain (OpenSpec.upto checkTellsSpec)) checkTellsUptoCard

/-- THE SECOND FORM's CARD OF 'odysseylaw11.CheckLess'. -/
def checkLessUptoCard : Claim7 := { stood := { row := checkLessUptoRow, standIns := [], harness := (true, "75e07e48692a2ce738ab863ff18095c5a320920f3a6ae4c411f1aec5239f75ae"), looks := false }, kinds := [], alts := [], laidByText := true, laidKinds := [.data, .pinned], laidTests := true, laidLooks := .later }
def CheckLessUptoCardSaid : Prop := Claim7.holds Tryd.pinned (.plain (OpenSpec.upto checkLessSpec)) checkLessUptoCard

/-- THE SECOND FORM's CARD OF 'odysseylaw11.CheckSound'. -/
def checkSoundUptoCard : Claim7 := { stood := { row := checkSoundUptoRow, standIns := [], harness := (true, "75e07e48692a2ce738ab863ff18095c5a320920f3a6ae4c411f1aec5239f75ae"), looks := false }, kinds := [], alts := [], laidByText := true, laidKinds := [.data, .pinned], laidTests := true, laidLooks := .later }
def CheckSoundUptoCardSaid : Prop := Claim7.holds Tryd.pinned (.plain (OpenSpec.upto checkSoundSpec)) checkSoundUptoCard

/-- THE SECOND FORM's CARD OF 'odysseylaw13.CostTells'. -/
def costTellsUptoCard : Claim7 := { stood := { row := costTellsUptoRow, standIns := [], harness := (true, "75e07e48692a2ce738ab863ff18095c5a320920f3a6ae4c411f1aec5239f75ae"), looks := false }, kinds := [], alts := [], laidByText := true, laidKinds := [.data, .pinned], laidTests := true, laidLooks := .later }
def CostTellsUptoCardSaid : Prop := Claim7.holds Tryd.pinned (.plain (OpenSpec.upto costTellsSpec)) costTellsUptoCard

/-- THE SECOND FORM's CARD OF 'odysseylaw13.CostRooms'. -/
def costRoomsUptoCard : Claim7 := { stood := { row := costRoomsUptoRow, standIns := [], harness := (true, "75e07e48692a2ce738ab863ff18095c5a320920f3a6ae4c411f1aec5239f75ae"), looks := false }, kinds := [], alts := [], laidByText := true, laidKinds := [.data, .pinned], laidTests := true, laidLooks := .later }
def CostRoomsUptoCardSaid : Prop := Claim7.holds Tryd.pinned (.plain (OpenSpec.upto costRoomsSpec)) costRoomsUptoCard

/-- THE SECOND FORM's CARD OF 'odysseylaw13.CostGrows'. -/
def costGrowsUptoCard : Claim7 := { stood := { row := costGrowsUptoRow, standIns := [], harness := (true, "75e07e48692a2ce738ab863ff18095c5a320920f3a6ae4c411f1aec5239f75ae"), looks := false }, kinds := [], alts := [], laidByText := true, laidKinds := [.data, .pinned], laidTests := true, laidLooks := .later }
def CostGrowsUptoCardSaid : Prop := Claim7.holds Tryd.pinned (.plain (OpenSpec.upto costGrowsSpec)) costGrowsUptoCard

/-- THE SECOND FORM's CARD OF 'odysseylaw14.RegistryForEver'. -/
def registryForEverUptoCard : Claim7 := { stood := { row := registryForEverUptoRow, standIns := [], harness := (true, "75e07e48692a2ce738ab863ff18095c5a320920f3a6ae4c411f1aec5239f75ae"), looks := false }, kinds := [], alts := [], laidByText := true, laidKinds := [.data, .pinned], laidTests := true, laidLooks := .later }
def RegistryForEverUptoCardSaid : Prop := Claim7.holds Tryd.pinned (.plain (OpenSpec.upto registryForEverSpec)) registryForEverUptoCard

/-- THE SECOND FORM's CARD OF 'odysseylaw14.RegistryScripts'. -/
def registryScriptsUptoCard : Claim7 := { stood := { row := registryScriptsUptoRow, standIns := [], harness := (true, "75e07e48692a2ce738ab863ff18095c5a320920f3a6ae4c411f1aec5239f75ae"), looks := false }, kinds := [], alts := [], laidByText := true, laidKinds := [.data, .pinned], laidTests := true, laidLooks := .later }
def RegistryScriptsUptoCardSaid : Prop := Claim7.holds Tryd.pinned (.plain (OpenSpec.upto registryScriptsSpec)) registryScriptsUptoCard
end Rows
end Go.Proofs.YtpmoanjeoaeabaaDoor
