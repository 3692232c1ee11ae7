/-
  DERIVED. GIVEN WITH THE SEED: THE CARDS: each row of YtbgbpibfmdkndaaDoorRows.lean that lists a variable, with what it lists TIED to the program's text (the seventh form; the later family's looks); each row that meets fmt, with fmt's text TOLD by the authors' own Lean function (tested against real Go, not proved from fmt's source: count such statements apart). THE CARD IS WHAT COUNTS. Prove the row's statement (the work); the ties are given (YtbgbpibfmdkndaaDoorTie.lean); close each card by the builder's one call (the guide's Derived/Test/ToyasCard.lean, 'card_holds'). Laid BY PROGRAM, IN A SANDBOX (cutbox-door.mjs). By AI agents, Wed Nov 11 2026. No macro, syntax, notation, axiom, sorry.
-/
import Derived.Test.YtbgbpibfmdkndaaDoorRows
import GoSem.ClaimSeven
namespace Go.Proofs.YtbgbpibfmdkndaaDoor
namespace Rows

/-- THE TIED CARD OF 'odysseylaw16.LocksScripts'. -/
def locksScriptsCard : Claim7 := { stood := { row := locksScriptsRow, standIns := [], harness := (true, "bfa103d0055fb35131bbfef3a439cf87af6fbc97887618456551a4d13423fdfc"), looks := false }, kinds := [], alts := [], laidByText := true, laidKinds := [.data, .pinned], laidTests := true, laidLooks := .later }
def LocksScriptsCardSaid : Prop := Claim7.holds Tryd.pinned (.plain (OpenSpec.ofChange locksScriptsSpec)) locksScriptsCard

/-- THE TIED CARD OF 'odysseylaw16.LocksAll'. -/
def locksAllCard : Claim7 := { stood := { row := locksAllRow, standIns := [], harness := (true, "bfa103d0055fb35131bbfef3a439cf87af6fbc97887618456551a4d13423fdfc"), looks := false }, kinds := [], alts := [], laidByText := true, laidKinds := [.data, .pinned], laidTests := true, laidLooks := .later }
def LocksAllCardSaid : Prop := Claim7.holds Tryd.pinned (.plain (OpenSpec.ofChange locksAllSpec)) locksAllCard

/-- THE TIED CARD OF 'odysseylaw16.LocksBack'. -/
def locksBackCard : Claim7 := { stood := { row := locksBackRow, standIns := [], harness := (true, "bfa103d0055fb35131bbfef3a439cf87af6fbc97887618456551a4d13423fdfc"), looks := false }, kinds := [], alts := [], laidByText := true, laidKinds := [.data, .pinned], laidTests := true, laidLooks := .later }
def LocksBackCardSaid : Prop := Claim7.holds Tryd.pinned (.plain (OpenSpec.ofChange locksBackSpec)) locksBackCard

/-- THE TIED CARD OF 'odysseylaw16.LocksApart'. -/
def locksApartCard : Claim7 := { stood := { row := locksApartRow, standIns := [], harness := (true, "bfa103d0055fb35131bbfef3a439cf87af6fbc97887618456551a4d13423fdfc"), looks := false }, kinds := [], alts := [], laidByText := true, laidKinds := [.data, .pinned], laidTests := true, laidLooks := .later }
def LocksApartCardSaid : Prop := Claim7.holds Tryd.pinned (.plain (OpenSpec.ofChange locksApartSpec)) locksApartCard

/-- THE SECOND FORM's CARD OF 'odysseylaw16.LocksScripts'. -/
def locksScriptsUptoCard : Claim7 := { stood := { row := locksScriptsUptoRow, standIns := [], harness := (true, "bfa103d0055fb35131bbfef3a439cf87af6fbc97887618456551a4d13423fdfc"), looks := false }, kinds := [], alts := [], laidByText := true, laidKinds := [.data, .pinned], laidTests := true, laidLooks := .later }
def LocksScriptsUptoCardSaid : Prop := Claim7.holds Tryd.pinned (.plain (OpenSpec.upto locksScriptsSpec)) locksScriptsUptoCard

/-- THE SECOND FORM's CARD OF 'odysseylaw16.LocksAll'. -/
def locksAllUptoCard : Claim7 := { stood := { row := locksAllUptoRow, standIns := [], harness := (true, "bfa103d0055fb35131bbfef3a439cf87af6fbc97887618456551a4d13423fdfc"), looks := false }, kinds := [], alts := [], laidByText := true, laidKinds := [.data, .pinned], laidTests := true, laidLooks := .later }
def LocksAllUptoCardSaid : Prop := Claim7.holds Tryd.pinned (.plain (OpenSpec.upto locksAllSpec)) locksAllUptoCard

/-- THE SECOND FORM's CARD OF 'odysseylaw16.LocksBack'. -/
def locksBackUptoCard : Claim7 := { stood := { row := locksBackUptoRow, standIns := [], harness := (true, "bfa103d0055fb35131bbfef3a439cf87af6fbc97887618456551a4d13423fdfc"), looks := false }, kinds := [], alts := [], laidByText := true, laidKinds := [.data, .pinned], laidTests := true, laidLooks := .later }
def LocksBackUptoCardSaid : Prop := Claim7.holds Tryd.pinned (.plain (OpenSpec.upto locksBackSpec)) locksBackUptoCard

/-- THE SECOND FORM's CARD OF 'odysseylaw16.LocksApart'. -/
def locksApartUptoCard : Claim7 := { stood := { row := locksApartUptoRow, standIns := [], harness := (true, "bfa103d0055fb35131bbfef3a439cf87af6fbc97887618456551a4d13423fdfc"), looks := false }, kinds := [], alts := [], laidByText := true, laidKinds := [.data, .pinned], laidTests := true, laidLooks := .later }
def LocksApartUptoCardSaid : Prop := Claim7.holds Tryd.pinned (.plain (OpenSpec.upto locksApartSpec)) locksApartUptoCard
end Rows
end Go.Proofs.YtbgbpibfmdkndaaDoor
