/-
  DERIVED. GIVEN WITH THE SEED: THE CARDS: each row of YtipbjcchhgbabaaDoorRows.lean that lists a variable, with what it lists TIED to the program's text (the seventh form; the later family's looks); each row that meets fmt, with fmt's text TOLD by the authors' own Lean function (tested against real Go, not proved from fmt's source: count such statements apart). THE CARD IS WHAT COUNTS. Prove the row's statement (the work); the ties are given (YtipbjcchhgbabaaDoorTie.lean); close each card by the builder's one call (the guide's Derived/Test/ToyasCard.lean, 'card_holds'). Laid BY PROGRAM, IN A SANDBOX (cutbox-door.mjs). By AI agents, Wed Nov 11 2026. No macro, syntax, notation, axiom, sorry.
-/
import Derived.Test.YtipbjcchhgbabaaDoorRows
import GoSem.ClaimSeven
namespace Go.Proofs.YtipbjcchhgbabaaDoor
namespace Rows

/-- THE TIED CARD OF 'odysseylaw01.NameIs'. -/
def nameIsCard : Claim7 := { stood := { row := nameIsRow, standIns := [], harness := (true, "995c6b757f950d4e37c581e0ca587eb63a4e0350a7d6913c3bbd2aab5f8fa55c"), looks := false }, kinds := [], alts := [], laidByText := true, laidKinds := [.data, .pinned], laidTests := true, laidLooks := .later }
def NameIsCardSaid : Prop := Claim7.holds Tryd.pinned (.plain (OpenSpec.ofChange nameIsSpec)) nameIsCard

/-- THE TIED CARD OF 'odysseylaw01.NameFolds'. -/
def nameFoldsCard : Claim7 := { stood := { row := nameFoldsRow, standIns := [], harness := (true, "995c6b757f950d4e37c581e0ca587eb63a4e0350a7d6913c3bbd2aab5f8fa55c"), looks := false }, kinds := [], alts := [], laidByText := true, laidKinds := [.data, .pinned], laidTests := true, laidLooks := .later }
def NameFoldsCardSaid : Prop := Claim7.holds Tryd.pinned (.plain (OpenSpec.ofChange nameFoldsSpec)) nameFoldsCard

/-- THE TIED CARD OF 'odysseylaw01.NameCompares'. -/
def nameComparesCard : Claim7 := { stood := { row := nameComparesRow, standIns := [], harness := (true, "995c6b757f950d4e37c581e0ca587eb63a4e0350a7d6913c3bbd2aab5f8fa55c"), looks := false }, kinds := [], alts := [], laidByText := true, laidKinds := [.data, .pinned], laidTests := true, laidLooks := .later }
def NameComparesCardSaid : Prop := Claim7.holds Tryd.pinned (.plain (OpenSpec.ofChange nameComparesSpec)) nameComparesCard

/-- THE TIED CARD OF 'odysseylaw01.NameOwners'. -/
def nameOwnersCard : Claim7 := { stood := { row := nameOwnersRow, standIns := [], harness := (true, "995c6b757f950d4e37c581e0ca587eb63a4e0350a7d6913c3bbd2aab5f8fa55c"), looks := false }, kinds := [], alts := [], laidByText := true, laidKinds := [.data, .pinned], laidTests := true, laidLooks := .later }
def NameOwnersCardSaid : Prop := Claim7.holds Tryd.pinned (.plain (OpenSpec.ofChange nameOwnersSpec)) nameOwnersCard

/-- THE TIED CARD OF 'odysseylaw01.NameWords'. -/
def nameWordsCard : Claim7 := { stood := { row := nameWordsRow, standIns := [], harness := (true, "995c6b757f950d4e37c581e0ca587eb63a4e0350a7d6913c3bbd2aab5f8fa55c"), looks := false }, kinds := [], alts := [], laidByText := true, laidKinds := [.data, .pinned], laidTests := true, laidLooks := .later }
def NameWordsCardSaid : Prop := Claim7.holds Tryd.pinned (.plain (OpenSpec.ofChange nameWordsSpec)) nameWordsCard

/-- THE TIED CARD OF 'odysseylaw01.NameFolded'. -/
def nameFoldedCard : Claim7 := { stood := { row := nameFoldedRow, standIns := [], harness := (true, "995c6b757f950d4e37c581e0ca587eb63a4e0350a7d6913c3bbd2aab5f8fa55c"), looks := false }, kinds := [], alts := [], laidByText := true, laidKinds := [.data, .pinned], laidTests := true, laidLooks := .later }
def NameFoldedCardSaid : Prop := Claim7.holds Tryd.pinned (.plain (OpenSpec.ofChange nameFoldedSpec)) nameFoldedCard

/-- THE TIED CARD OF 'odysseylaw01.NameOrdered'. -/
def nameOrderedCard : Claim7 := { stood := { row := nameOrderedRow, standIns := [], harness := (true, "995c6b757f950d4e37c581e0ca587eb63a4e0350a7d6913c3bbd2aab5f8fa55c"), looks := false }, kinds := [], alts := [], laidByText := true, laidKinds := [.data, .pinned], laidTests := true, laidLooks := .later }
def NameOrderedCardSaid : Prop := Claim7.holds Tryd.pinned (.plain (OpenSpec.ofChange nameOrderedSpec)) nameOrderedCard

/-- THE TIED CARD OF 'odysseylaw01.NameRejoined'. -/
def nameRejoinedCard : Claim7 := { stood := { row := nameRejoinedRow, standIns := [], harness := (true, "995c6b757f950d4e37c581e0ca587eb63a4e0350a7d6913c3bbd2aab5f8fa55c"), looks := false }, kinds := [], alts := [], laidByText := true, laidKinds := [.data, .pinned], laidTests := true, laidLooks := .later }
def NameRejoinedCardSaid : Prop := Claim7.holds Tryd.pinned (.plain (OpenSpec.ofChange nameRejoinedSpec)) nameRejoinedCard

/-- THE TIED CARD OF 'odysseylaw01.NameApart'. -/
def nameApartCard : Claim7 := { stood := { row := nameApartRow, standIns := [], harness := (true, "995c6b757f950d4e37c581e0ca587eb63a4e0350a7d6913c3bbd2aab5f8fa55c"), looks := false }, kinds := [], alts := [], laidByText := true, laidKinds := [.data, .pinned], laidTests := true, laidLooks := .later }
def NameApartCardSaid : Prop := Claim7.holds Tryd.pinned (.plain (OpenSpec.ofChange nameApartSpec)) nameApartCard

/-- THE TIED CARD OF 'odysseylaw01.NameFoldedWords'. -/
def nameFoldedWordsCard : Claim7 := { stood := { row := nameFoldedWordsRow, standIns := [], harness := (true, "995c6b757f950d4e37c581e0ca587eb63a4e0350a7d6913c3bbd2aab5f8fa55c"), looks := false }, kinds := [], alts := [], laidByText := true, laidKinds := [.data, .pinned], laidTests := true, laidLooks := .later }
def NameFoldedWordsCardSaid : Prop := Claim7.holds Tryd.pinned (.plain (OpenSpec.ofChange nameFoldedWordsSpec)) nameFoldedWordsCard

/-- THE SECOND FORM's CARD OF 'odysseylaw01.NameIs'. -/
def nameIsUptoCard : Claim7 := { stood := { row := nameIsUptoRow, standIns := [], harness := (true, "995c6b757f950d4e37c581e0ca587eb63a4e0350a7d6913c3bbd2aab5f8fa55c"), looks := false }, kinds := [], alts := [], laidByText := true, laidKinds := [.data, .pinned], laidTests := true, laidLooks := .later }
def NameIsUptoCardSaid : Prop := Claim7.holds Tryd.pinned (.plain (OpenSpec.upto nameIsSpec)) nameIsUptoCard

/-- THE SECOND FORM's CARD OF 'odysseylaw01.NameFolds'. -/
def nameFoldsUptoCard : Claim7 := { stood := { row := nameFoldsUptoRow, standIns := [], harness := (true, "995c6b757f950d4e37c581e0ca587eb63a4e0350a7d6913c3bbd2aab5f8fa55c"), looks := false }, kinds := [], alts := [], laidByText := true, laidKinds := [.data, .pinned], laidTests := true, laidLooks := .later }
def NameFoldsUptoCardSaid : Prop := Claim7.holds Tryd.pinned (.plain (OpenSpec.upto nameFoldsSpec)) nameFoldsUptoCard

/-- THE SECOND FORM's CARD OF 'odysseylaw01.NameCompares'. -/
def nameComparesUptoCard : Claim7 := { stood := { row := nameComparesUptoRow, standIns := [], harness := (true, "995c6b757f950d4e37c581e0ca587eb63a4e0350a7d6913c3bbd2aab5f8fa55c"), looks := false }, kinds := [], alts := [], laidByText := true, laidKinds := [.data, .pinned], laidTests := true, laidLooks := .later }
def NameComparesUptoCardSaid : Prop := Claim7.holds Tryd.pinned (.plain (OpenSpec.upto nameComparesSpec)) nameComparesUptoCard

/-- THE SECOND FORM's CARD OF 'odysseylaw01.NameOwners'. -/
def nameOwnersUptoCard : Claim7 := { stood := { row := nameOwnersUptoRow, standIns := [], harness := (true, "995c6b757f950d4e37c581e0ca587eb63a4e0350a7d6913c3bbd2aab5f8fa55c"), looks := false }, kinds := [], alts := [], laidByText := true, laidKinds := [.data, .pinned], laidTests := true, laidLooks := .later }
def NameOwnersUptoCardSaid : Prop := Claim7.holds Tryd.pinned (.plain (OpenSpec.upto nameOwnersSpec)) nameOwnersUptoCard

/-- THE SECOND FORM's CARD OF 'odysseylaw01.NameWords'. -/
def nameWordsUptoCard : Claim7 := { stood := { row := nameWordsUptoRow, standIns := [], harness := (true, "995c6b757f950d4e37c581e0ca587eb63a4e0350a7d6913c3bbd2aab5f8fa55c"), looks := false }, kinds := [], alts := [], laidByText := true, laidKinds := [.data, .pinned], laidTests := true, laidLooks := .later }
def NameWordsUptoCardSaid : Prop := Claim7.holds Tryd.pinned (.plain (OpenSpec.upto nameWordsSpec)) nameWordsUptoCard

/-- THE SECOND FORM's CARD OF 'odysseylaw01.NameFolded'. -/
def nameFoldedUptoCard : Claim7 := { stood := { row := nameFoldedUptoRow, standIns := [], harness := (true, "995c6b757f950d4e37c581e0ca587eb63a4e0350a7d6913c3bbd2aab5f8fa55c"), looks := false }, kinds := [], alts := [], laidByText := true, laidKinds := [.data, .pinned], laidTests := true, laidLooks := .later }
def NameFoldedUptoCardSaid : Prop := Claim7.holds Tryd.pinned (.plain (OpenSpec.upto nameFoldedSpec)) nameFoldedUptoCard

/-- THE SECOND FORM's CARD OF 'odysseylaw01.NameOrdered'. -/
def nameOrderedUptoCard : Claim7 := { stood := { row := nameOrderedUptoRow, standIns := [], harness := (true, "995c6b757f950d4e37c581e0ca587eb63a4e0350a7d6913c3bbd2aab5f8fa55c"), looks := false }, kinds := [], alts := [], laidByText := true, laidKinds := [.data, .pinned], laidTests := true, laidLooks := .later }
def NameOrderedUptoCardSaid : Prop := Claim7.holds Tryd.pinned (.plain (OpenSpec.upto nameOrderedSpec)) nameOrderedUptoCard

/-- THE SECOND FORM's CARD OF 'odysseylaw01.NameRejoined'. -/
def nameRejoinedUptoCard : Claim7 := { stood := { row := nameRejoinedUptoRow, standIns := [], harness := (true, "995c6b757f950d4e37c581e0ca587eb63a4e0350a7d6913c3bbd2aab5f8fa55c"), looks := false }, kinds := [], alts := [], laidByText := true, laidKinds := [.data, .pinned], laidTests := true, laidLooks := .later }
def NameRejoinedUptoCardSaid : Prop := Claim7.holds Tryd.pinned (.plain (OpenSpec.upto nameRejoinedSpec)) nameRejoinedUptoCard

/-- THE SECOND FORM's CARD OF 'odysseylaw01.NameApart'. -/
def nameApartUptoCard : Claim7 := { stood := { row := nameApartUptoRow, standIns := [], harness := (true, "995c6b757f950d4e37c581e0ca587eb63a4e0350a7d6913c3bbd2aab5f8fa55c"), looks := false }, kinds := [], alts := [], laidByText := true, laidKinds := [.data, .pinned], laidTests := true, laidLooks := .later }
def NameApartUptoCardSaid : Prop := Claim7.holds Tryd.pinned (.plain (OpenSpec.upto nameApartSpec)) nameApartUptoCard

/-- THE SECOND FORM's CARD OF 'odysseylaw01.NameFoldedWords'. -/
def nameFoldedWordsUptoCard : Claim7 := { stood := { row := nameFoldedWordsUptoRow, standIns := [], harness := (true, "995c6b757f950d4e37c581e0ca587eb63a4e0350a7d6913c3bbd2aab5f8fa55c"), looks := false }, kinds := [], alts := [], laidByText := true, laidKinds := [.data, .pinned], laidTests := true, laidLooks := .later }
def NameFoldedWordsUptoCardSaid : Prop := Claim7.holds Tryd.pinned (.plain (OpenSpec.upto nameFoldedWordsSpec)) nameFoldedWordsUptoCard
end Rows
end Go.Proofs.YtipbjcchhgbabaaDoor
