/-
  DERIVED. GIVEN WITH THE SEED: THE CARDS: each row of YtjlpgjfgeikdeaaDoorRows.lean that lists a variable, with what it lists TIED to the program's text (the seventh form; the later family's looks); each row that meets fmt, with fmt's text TOLD by the authors' own Lean function (tested against real Go, not proved from fmt's source: count such statements apart). THE CARD IS WHAT COUNTS. Prove the row's statement (the work); the ties are given (YtjlpgjfgeikdeaaDoorTie.lean); close each card by the builder's one call (the guide's Derived/Test/ToyasCard.lean, 'card_holds'). Laid BY PROGRAM, IN A SANDBOX (cutbox-door.mjs). By AI agents, Wed Nov 11 2026. No macro, syntax, notation, axiom, sorry.
-/
import Derived.Test.YtjlpgjfgeikdeaaDoorRows
import GoSem.ClaimSeven
namespace Go.Proofs.YtjlpgjfgeikdeaaDoor
namespace Rows

/-- THE TIED CARD OF 'odysseylaw06.JournalMakes'. -/
def journalMakesCard : Claim7 := { stood := { row := journalMakesRow, standIns := [], harness := (true, "b677df25579f5eda161d3ef8b33d2bd803cb4823d718fd71aa39d39b9e9ba238"), looks := false }, kinds := [], alts := [], laidByText := true, laidKinds := [.data], laidTests := true, laidLooks := .later }
def JournalMakesCardSaid : Prop := Claim7.holds Tryd.pinned (.plain (OpenSpec.ofChange journalMakesSpec)) journalMakesCard

/-- THE TIED CARD OF 'odysseylaw06.JournalAgain'. -/
def journalAgainCard : Claim7 := { stood := { row := journalAgainRow, standIns := [], harness := (true, "b677df25579f5eda161d3ef8b33d2bd803cb4823d718fd71aa39d39b9e9ba238"), looks := false }, kinds := [], alts := [], laidByText := true, laidKinds := [.data], laidTests := true, laidLooks := .later }
def JournalAgainCardSaid : Prop := Claim7.holds Tryd.pinned (.plain (OpenSpec.ofChange journalAgainSpec)) journalAgainCard

/-- THE TIED CARD OF 'odysseylaw06.JournalShort'. -/
def journalShortCard : Claim7 := { stood := { row := journalShortRow, standIns := [], harness := (true, "b677df25579f5eda161d3ef8b33d2bd803cb4823d718fd71aa39d39b9e9ba238"), looks := false }, kinds := [], alts := [], laidByText := true, laidKinds := [.data], laidTests := true, laidLooks := .later }
def JournalShortCardSaid : Prop := Claim7.holds Tryd.pinned (.plain (OpenSpec.ofChange journalShortSpec)) journalShortCard

/-- THE TIED CARD OF 'odysseylaw06.JournalScripts'. -/
def journalScriptsCard : Claim7 := { stood := { row := journalScriptsRow, standIns := [], harness := (true, "b677df25579f5eda161d3ef8b33d2bd803cb4823d718fd71aa39d39b9e9ba238"), looks := false }, kinds := [], alts := [], laidByText := true, laidKinds := [.data], laidTests := true, laidLooks := .later }
def JournalScriptsCardSaid : Prop := Claim7.holds Tryd.pinned (.plain (OpenSpec.ofChange journalScriptsSpec)) journalScriptsCard

/-- THE TIED CARD OF 'odysseylaw06.JournalOpens'. -/
def journalOpensCard : Claim7 := { stood := { row := journalOpensRow, standIns := [], harness := (true, "b677df25579f5eda161d3ef8b33d2bd803cb4823d718fd71aa39d39b9e9ba238"), looks := false }, kinds := [], alts := [], laidByText := true, laidKinds := [.data], laidTests := true, laidLooks := .later }
def JournalOpensCardSaid : Prop := Claim7.holds Tryd.pinned (.plain (OpenSpec.ofChange journalOpensSpec)) journalOpensCard

/-- THE TIED CARD OF 'odysseylaw06.JournalCrash'. -/
def journalCrashCard : Claim7 := { stood := { row := journalCrashRow, standIns := [], harness := (true, "b677df25579f5eda161d3ef8b33d2bd803cb4823d718fd71aa39d39b9e9ba238"), looks := false }, kinds := [], alts := [], laidByText := true, laidKinds := [.data], laidTests := true, laidLooks := .later }
def JournalCrashCardSaid : Prop := Claim7.holds Tryd.pinned (.plain (OpenSpec.ofChange journalCrashSpec)) journalCrashCard

/-- THE SECOND FORM's CARD OF 'odysseylaw06.JournalMakes'. -/
def journalMakesUptoCard : Claim7 := { stood := { row := journalMakesUptoRow, standIns := [], harness := (true, "b677df25579f5eda161d3ef8b33d2bd803cb4823d718fd71aa39d39b9e9ba238"), looks := false }, kinds := [], alts := [], laidByText := true, laidKinds := [.data], laidTests := true, laidLooks := .later }
def JournalMakesUptoCardSaid : Prop := Claim7.holds Tryd.pinned (.plain (OpenSpec.upto journalMakesSpec)) journalMakesUptoCard

/-- THE SECOND FORM's CARD OF 'odysseylaw06.JournalAgain'. -/
def journalAgainUptoCard : Claim7 := { stood := { row := journalAgainUptoRow, standIns := [], harness := (true, "b677df25579f5eda161d3ef8b33d2bd803cb4823d718fd71aa39d39b9e9ba238"), looks := false }, kinds := [], alts := [], laidByText := true, laidKinds := [.data], laidTests := true, laidLooks := .later }
def JournalAgainUptoCardSaid : Prop := Claim7.holds Tryd.pinned (.plain (OpenSpec.upto journalAgainSpec)) journalAgainUptoCard

/-- THE SECOND FORM's CARD OF 'odysseylaw06.JournalShort'. -/
def journalShortUptoCard : Claim7 := { stood := { row := journalShortUptoRow, standIns := [], harness := (true, "b677df25579f5eda161d3ef8b33d2bd803cb4823d718fd71aa39d39b9e9ba238"), looks := false }, kinds := [], alts := [], laidByText := true, laidKinds := [.data], laidTests := true, laidLooks := .later }
def JournalShortUptoCardSaid : Prop := Claim7.holds Tryd.pinned (.plain (OpenSpec.upto journalShortSpec)) journalShortUptoCard

/-- THE SECOND FORM's CARD OF 'odysseylaw06.JournalScripts'. -/
def journalScriptsUptoCard : Claim7 := { stood := { row := journalScriptsUptoRow, standIns := [], harness := (true, "b677df25579f5eda161d3ef8b33d2bd803cb4823d718fd71aa39d39b9e9ba238"), looks := false }, kinds := [], alts := [], laidByText := true, laidKinds := [.data], laidTests := true, laidLooks := .later }
def JournalScriptsUptoCardSaid : Prop := Claim7.holds Tryd.pinned (.plain (OpenSpec.upto journalScriptsSpec)) journalScriptsUptoCard

/-- THE SECOND FORM's CARD OF 'odysseylaw06.JournalOpens'. -/
def journalOpensUptoCard : Claim7 := { stood := { row := journalOpensUptoRow, standIns := [], harness := (true, "b677df25579f5eda161d3ef8b33d2bd803cb4823d718fd71aa39d39b9e9ba238"), looks := false }, kinds := [], alts := [], laidByText := true, laidKinds := [.data], laidTests := true, laidLooks := .later }
def JournalOpensUptoCardSaid : Prop := Claim7.holds Tryd.pinned (.plain (OpenSpec.upto journalOpensSpec)) journalOpensUptoCard

/-- THE SECOND FORM's CARD OF 'odysseylaw06.JournalCrash'. -/
def journalCrashUptoCard : Claim7 := { stood := { row := journalCrashUptoRow, standIns := [], harness := (true, "b677df25579f5eda161d3ef8b33d2bd803cb4823d718fd71aa39d39b9e9ba238"), looks := false }, kinds := [], alts := [], laidByText := true, laidKinds := [.data], laidTests := true, laidLooks := .later }
def JournalCrashUptoCardSaid : Prop := Claim7.holds Tryd.pinned (.plain (OpenSpec.upto journalCrashSpec)) journalCrashUptoCard
end Rows
end Go.Proofs.YtjlpgjfgeikdeaaDoor
