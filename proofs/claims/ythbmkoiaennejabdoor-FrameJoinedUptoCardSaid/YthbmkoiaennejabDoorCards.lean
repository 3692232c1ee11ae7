/-
  DERIVED. GIVEN WITH THE SEED: THE CARDS: each row of YthbmkoiaennejabDoorRows.lean that lists a variable, with what it lists TIED to the program's text (the seventh form; the later family's looks); each row that meets fmt, with fmt's text TOLD by the authors' own Lean function (tested against real Go, not proved from fmt's source: count such statements apart). THE CARD IS WHAT COUNTS. Prove the row's statement (the work); the ties are given (YthbmkoiaennejabDoorTie.lean); close each card by the builder's one call (the guide's Derived/Test/ToyasCard.lean, 'card_holds'). Laid BY PROGRAM, IN A SANDBOX (cutbox-door.mjs). By AI agents, Wed Nov 11 2026. No macro, syntax, notation, axiom, sorry.
-/
import Derived.Test.YthbmkoiaennejabDoorRows
import GoSem.ClaimSeven
namespace Go.Proofs.YthbmkoiaennejabDoor
namespace Rows

/-- THE TIED CARD OF 'odysseylaw05.FrameWraps'. -/
def frameWrapsCard : Claim7 := { stood := { row := frameWrapsRow, standIns := [], harness := (true, "a498a1bc85ed57d0d960cbbbddbbea2617b3a0af654a8e09a1168f1376dcad3a"), looks := false }, kinds := [], alts := [], laidByText := true, laidKinds := [.data], laidTests := true, laidLooks := .later }
def FrameWrapsCardSaid : Prop := Claim7.holds Tryd.pinned (.plain (OpenSpec.ofChange frameWrapsSpec)) frameWrapsCard

/-- THE TIED CARD OF 'odysseylaw05.FrameScans'. -/
def frameScansCard : Claim7 := { stood := { row := frameScansRow, standIns := [], harness := (true, "a498a1bc85ed57d0d960cbbbddbbea2617b3a0af654a8e09a1168f1376dcad3a"), looks := false }, kinds := [], alts := [], laidByText := true, laidKinds := [.data], laidTests := true, laidLooks := .later }
def FrameScansCardSaid : Prop := Claim7.holds Tryd.pinned (.plain (OpenSpec.ofChange frameScansSpec)) frameScansCard

/-- THE TIED CARD OF 'odysseylaw05.FrameBack'. -/
def frameBackCard : Claim7 := { stood := { row := frameBackRow, standIns := [], harness := (true, "a498a1bc85ed57d0d960cbbbddbbea2617b3a0af654a8e09a1168f1376dcad3a"), looks := false }, kinds := [], alts := [], laidByText := true, laidKinds := [.data], laidTests := true, laidLooks := .later }
def FrameBackCardSaid : Prop := Claim7.holds Tryd.pinned (.plain (OpenSpec.ofChange frameBackSpec)) frameBackCard

/-- THE TIED CARD OF 'odysseylaw05.FrameStands'. -/
def frameStandsCard : Claim7 := { stood := { row := frameStandsRow, standIns := [], harness := (true, "a498a1bc85ed57d0d960cbbbddbbea2617b3a0af654a8e09a1168f1376dcad3a"), looks := false }, kinds := [], alts := [], laidByText := true, laidKinds := [.data], laidTests := true, laidLooks := .later }
def FrameStandsCardSaid : Prop := Claim7.holds Tryd.pinned (.plain (OpenSpec.ofChange frameStandsSpec)) frameStandsCard

/-- THE TIED CARD OF 'odysseylaw05.FrameSpoilt'. -/
def frameSpoiltCard : Claim7 := { stood := { row := frameSpoiltRow, standIns := [], harness := (true, "a498a1bc85ed57d0d960cbbbddbbea2617b3a0af654a8e09a1168f1376dcad3a"), looks := false }, kinds := [], alts := [], laidByText := true, laidKinds := [.data], laidTests := true, laidLooks := .later }
def FrameSpoiltCardSaid : Prop := Claim7.holds Tryd.pinned (.plain (OpenSpec.ofChange frameSpoiltSpec)) frameSpoiltCard

/-- THE TIED CARD OF 'odysseylaw05.FrameJoined'. -/
def frameJoinedCard : Claim7 := { stood := { row := frameJoinedRow, standIns := [], harness := (true, "a498a1bc85ed57d0d960cbbbddbbea2617b3a0af654a8e09a1168f1376dcad3a"), looks := false }, kinds := [], alts := [], laidByText := true, laidKinds := [.data], laidTests := true, laidLooks := .later }
def FrameJoinedCardSaid : Prop := Claim7.holds Tryd.pinned (.plain (OpenSpec.ofChange frameJoinedSpec)) frameJoinedCard

/-- THE SECOND FORM's CARD OF 'odysseylaw05.FrameWraps'. -/
def frameWrapsUptoCard : Claim7 := { stood := { row := frameWrapsUptoRow, standIns := [], harness := (true, "a498a1bc85ed57d0d960cbbbddbbea2617b3a0af654a8e09a1168f1376dcad3a"), looks := false }, kinds := [], alts := [], laidByText := true, laidKinds := [.data], laidTests := true, laidLooks := .later }
def FrameWrapsUptoCardSaid : Prop := Claim7.holds Tryd.pinned (.plain (OpenSpec.upto frameWrapsSpec)) frameWrapsUptoCard

/-- THE SECOND FORM's CARD OF 'odysseylaw05.FrameScans'. -/
def frameScansUptoCard : Claim7 := { stood := { row := frameScansUptoRow, standIns := [], harness := (true, "a498a1bc85ed57d0d960cbbbddbbea2617b3a0af654a8e09a1168f1376dcad3a"), looks := false }, kinds := [], alts := [], laidByText := true, laidKinds := [.data], laidTests := true, laidLooks := .later }
def FrameScansUptoCardSaid : Prop := Claim7.holds Tryd.pinned (.plain (OpenSpec.upto frameScansSpec)) frameScansUptoCard

/-- THE SECOND FORM's CARD OF 'odysseylaw05.FrameBack'. -/
def frameBackUptoCard : Claim7 := { stood := { row := frameBackUptoRow, standIns := [], harness := (true, "a498a1bc85ed57d0d960cbbbddbbea2617b3a0af654a8e09a1168f1376dcad3a"), looks := false }, kinds := [], alts := [], laidByText := true, laidKinds := [.data], laidTests := true, laidLooks := .later }
def FrameBackUptoCardSaid : Prop := Claim7.holds Tryd.pinned (.plain (OpenSpec.upto frameBackSpec)) frameBackUptoCard

/-- THE SECOND FORM's CARD OF 'odysseylaw05.FrameStands'. -/
def frameStandsUptoCard : Claim7 := { stood := { row := frameStandsUptoRow, standIns := [], harness := (true, "a498a1bc85ed57d0d960cbbbddbbea2617b3a0af654a8e09a1168f1376dcad3a"), looks := false }, kinds := [], alts := [], laidByText := true, laidKinds := [.data], laidTests := true, laidLooks := .later }
def FrameStandsUptoCardSaid : Prop := Claim7.holds Tryd.pinned (.plain (OpenSpec.upto frameStandsSpec)) frameStandsUptoCard

/-- THE SECOND FORM's CARD OF 'odysseylaw05.FrameSpoilt'. -/
def frameSpoiltUptoCard : Claim7 := { stood := { row := frameSpoiltUptoRow, standIns := [], harness := (true, "a498a1bc85ed57d0d960cbbbddbbea2617b3a0af654a8e09a1168f1376dcad3a"), looks := false }, kinds := [], alts := [], laidByText := true, laidKinds := [.data], laidTests := true, laidLooks := .later }
def FrameSpoiltUptoCardSaid : Prop := Claim7.holds Tryd.pinned (.plain (OpenSpec.upto frameSpoiltSpec)) frameSpoiltUptoCard

/-- THE SECOND FORM's CARD OF 'odysseylaw05.FrameJoined'. -/
def frameJoinedUptoCard : Claim7 := { stood := { row := frameJoinedUptoRow, standIns := [], harness := (true, "a498a1bc85ed57d0d960cbbbddbbea2617b3a0af654a8e09a1168f1376dcad3a"), looks := false }, kinds := [], alts := [], laidByText := true, laidKinds := [.data], laidTests := true, laidLooks := .later }
def FrameJoinedUptoCardSaid : Prop := Claim7.holds Tryd.pinned (.plain (OpenSpec.upto frameJoinedSpec)) frameJoinedUptoCard
end Rows
end Go.Proofs.YthbmkoiaennejabDoor
