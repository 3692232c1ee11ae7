/-
  DERIVED. GIVEN WITH THE SEED: THE CARDS: each row of YthbmkoiaennejaaDoorRows.lean that lists a variable, with what it lists TIED to the program's text (the seventh form; the later family's looks); each row that meets fmt, with fmt's text TOLD by the authors' own Lean function (tested against real Go, not proved from fmt's source: count such statements apart). THE CARD IS WHAT COUNTS. Prove the row's statement (the work); the ties are given (YthbmkoiaennejaaDoorTie.lean); close each card by the builder's one call (the guide's Derived/Test/ToyasCard.lean, 'card_holds'). Laid BY PROGRAM, IN A SANDBOX (cutbox-door.mjs). By AI agents, Wed Nov 11 2026. No macro, syntax, notation, axiom, sorry.
-/
import Derived.Test.YthbmkoiaennejaaDoorRows
import GoSem.ClaimSeven
namespace Go.Proofs.YthbmkoiaennejaaDoor
namespace Rows

/-- THE TIED CARD OF 'odysseylaw02.CrcSums'. -/
def crcSumsCard : Claim7 := { stood := { row := crcSumsRow, standIns := [], harness := (true, "776bbb5876f2c42e61a4de85890359460bc147102da8c87a77b3c01a4a8471f6"), looks := false }, kinds := [], alts := [], laidByText := true, laidKinds := [.data], laidTests := true, laidLooks := .later }
def CrcSumsCardSaid : Prop := Claim7.holds Tryd.pinned (.plain (OpenSpec.ofChange crcSumsSpec)) crcSumsCard

/-- THE TIED CARD OF 'odysseylaw02.CrcExtends'. -/
def crcExtendsCard : Claim7 := { stood := { row := crcExtendsRow, standIns := [], harness := (true, "776bbb5876f2c42e61a4de85890359460bc147102da8c87a77b3c01a4a8471f6"), looks := false }, kinds := [], alts := [], laidByText := true, laidKinds := [.data], laidTests := true, laidLooks := .later }
def CrcExtendsCardSaid : Prop := Claim7.holds Tryd.pinned (.plain (OpenSpec.ofChange crcExtendsSpec)) crcExtendsCard

/-- THE TIED CARD OF 'odysseylaw02.CrcParts'. -/
def crcPartsCard : Claim7 := { stood := { row := crcPartsRow, standIns := [], harness := (true, "776bbb5876f2c42e61a4de85890359460bc147102da8c87a77b3c01a4a8471f6"), looks := false }, kinds := [], alts := [], laidByText := true, laidKinds := [.data], laidTests := true, laidLooks := .later }
def CrcPartsCardSaid : Prop := Claim7.holds Tryd.pinned (.plain (OpenSpec.ofChange crcPartsSpec)) crcPartsCard

/-- THE TIED CARD OF 'odysseylaw02.CrcTurned'. -/
def crcTurnedCard : Claim7 := { stood := { row := crcTurnedRow, standIns := [], harness := (true, "776bbb5876f2c42e61a4de85890359460bc147102da8c87a77b3c01a4a8471f6"), looks := false }, kinds := [], alts := [], laidByText := true, laidKinds := [.data], laidTests := true, laidLooks := .later }
def CrcTurnedCardSaid : Prop := Claim7.holds Tryd.pinned (.plain (OpenSpec.ofChange crcTurnedSpec)) crcTurnedCard

/-- THE TIED CARD OF 'odysseylaw02.CrcPlain'. -/
def crcPlainCard : Claim7 := { stood := { row := crcPlainRow, standIns := [], harness := (true, "776bbb5876f2c42e61a4de85890359460bc147102da8c87a77b3c01a4a8471f6"), looks := false }, kinds := [], alts := [], laidByText := true, laidKinds := [.data], laidTests := true, laidLooks := .later }
def CrcPlainCardSaid : Prop := Claim7.holds Tryd.pinned (.plain (OpenSpec.ofChange crcPlainSpec)) crcPlainCard

/-- THE TIED CARD OF 'odysseylaw02.CrcApart'. -/
def crcApartCard : Claim7 := { stood := { row := crcApartRow, standIns := [], harness := (true, "776bbb5876f2c42e61a4de85890359460bc147102da8c87a77b3c01a4a8471f6"), looks := false }, kinds := [], alts := [], laidByText := true, laidKinds := [.data], laidTests := true, laidLooks := .later }
def CrcApartCardSaid : Prop := Claim7.holds Tryd.pinned (.plain (OpenSpec.ofChange crcApartSpec)) crcApartCard

/-- THE SECOND FORM's CARD OF 'odysseylaw02.CrcSums'. -/
def crcSumsUptoCard : Claim7 := { stood := { row := crcSumsUptoRow, standIns := [], harness := (true, "776bbb5876f2c42e61a4de85890359460bc147102da8c87a77b3c01a4a8471f6"), looks := false }, kinds := [], alts := [], laidByText := true, laidKinds := [.data], laidTests := true, laidLooks := .later }
def CrcSumsUptoCardSaid : Prop := Claim7.holds Tryd.pinned (.plain (OpenSpec.upto crcSumsSpec)) crcSumsUptoCard

/-- THE SECOND FORM's CARD OF 'odysseylaw02.CrcExtends'. -/
def crcExtendsUptoCard : Claim7 := { stood := { row := crcExtendsUptoRow, standIns := [], harness := (true, "776bbb5876f2c42e61a4de85890359460bc147102da8c87a77b3c01a4a8471f6"), looks := false }, kinds := [], alts := [], laidByText := true, laidKinds := [.data], laidTests := true, laidLooks := .later }
def CrcExtendsUptoCardSaid : Prop := Claim7.holds Tryd.pinned (.plain (OpenSpec.upto crcExtendsSpec)) crcExtendsUptoCard

/-- THE SECOND FORM's CARD OF 'odysseylaw02.CrcParts'. -/
def crcPartsUptoCard : Claim7 := { stood := { row := crcPartsUptoRow, standIns := [], harness := (true, "776bbb5876f2c42e61a4de85890359460bc147102da8c87a77b3c01a4a8471f6"), looks := false }, kinds := [], alts := [], laidByText := true, laidKinds := [.data], laidTests := true, laidLooks := .later }
def CrcPartsUptoCardSaid : Prop := Claim7.holds Tryd.pinned (.plain (OpenSpec.upto crcPartsSpec)) crcPartsUptoCard

/-- THE SECOND FORM's CARD OF 'odysseylaw02.CrcTurned'. -/
def crcTurnedUptoCard : Claim7 := { stood := { row := crcTurnedUptoRow, standIns := [], harness := (true, "776bbb5876f2c42e61a4de85890359460bc147102da8c87a77b3c01a4a8471f6"), looks := false }, kinds := [], alts := [], laidByText := true, laidKinds := [.data], laidTests := true, laidLooks := .later }
def CrcTurnedUptoCardSaid : Prop := Claim7.holds Tryd.pinned (.plain (OpenSpec.upto crcTurnedSpec)) crcTurnedUptoCard

/-- THE SECOND FORM's CARD OF 'odysseylaw02.CrcPlain'. -/
def crcPlainUptoCard : Claim7 := { stood := { row := crcPlainUptoRow, standIns := [], harness := (true, "776bbb5876f2c42e61a4de85890359460bc147102da8c87a77b3c01a4a8471f6"), looks := false }, kinds := [], alts := [], laidByText := true, laidKinds := [.data], laidTests := true, laidLooks := .later }
def CrcPlainUptoCardSaid : Prop := Claim7.holds Tryd.pinned (.plain (OpenSpec.upto crcPlainSpec)) crcPlainUptoCard

/-- THE SECOND FORM's CARD OF 'odysseylaw02.CrcApart'. -/
def crcApartUptoCard : Claim7 := { stood := { row := crcApartUptoRow, standIns := [], harness := (true, "776bbb5876f2c42e61a4de85890359460bc147102da8c87a77b3c01a4a8471f6"), looks := false }, kinds := [], alts := [], laidByText := true, laidKinds := [.data], laidTests := true, laidLooks := .later }
def CrcApartUptoCardSaid : Prop := Claim7.holds Tryd.pinned (.plain (OpenSpec.upto crcApartSpec)) crcApartUptoCard
end Rows
end Go.Proofs.YthbmkoiaennejaaDoor
