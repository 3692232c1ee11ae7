/-
  No cell of these rows narrows 'for every input' (looked for: loops, veiled, ifaces, maps, wideKeys, modest, calm, conditions, laid).
  DERIVED. THE GIVEN ROWS OF THIS SEAT. 5 by the template 'for every input the law returns true; each argument reads behind the call as it read before'; 0 by the template 'total and deterministic' (their statements: YtbgbpibfmdkndaaTotals.lean).
  GIVEN WITH THE SEED: the statements are not yours to turn. If you find one false, say at which input.
  Laid BY PROGRAM, IN A SANDBOX (cutbox-rows.mjs): the forced cells as the released guide's own fill.sh prints them over the translation a5958087ae2a0317… (all of the seat's roots in one cut). By AI agents, Wed Nov 11 2026. No macro, syntax, notation, axiom, sorry.
-/
import Derived.Test.YtbgbpibfmdkndaaChecked
import GoSem.Claim
import GoSem.ClaimJoined
import GoSem.ClaimMapViews
import Derived.JoinedTies
import Derived.KernelRfl
namespace Go.Proofs.Ytbgbpibfmdkndaa
/- THE CELL 'sum', in the pinned program and in every row, IS THE sha256 OF THE DUMP (.gsa) THAT YtbgbpibfmdkndaaProg.lean LOADS. Nothing in Lean hashes anything: it is a label: what it is worth is what the hold of that sum in a sandbox is worth. -/
noncomputable def Try.pinned : Pinned := { name := "ytbgbpibfmdkndaa", sum := "a5958087ae2a0317356c20582b4bcd4ee24959fd51762751a88ea33887f3fb6f", checked := Try.checked }
namespace Rows
def none {H : Type} : Left H := { results := [], args := [] }

/-- 'odysseylaw20.RetryMakes': WHATEVER THE INPUT: true; the input reads as it did. -/
def retryMakesSpec : ChangeSpec := { name := "retryMakes", fn := fun _ => fun
  | [d1, d2] => { results := [.lit (.bool true)], args := [d1, d2] }
  | _ => none }
def retryMakesRow : OpenClaim := { program := "ytbgbpibfmdkndaa", sum := "a5958087ae2a0317356c20582b4bcd4ee24959fd51762751a88ea33887f3fb6f", func := "odyssey/odysseylaw20.RetryMakes", spec := "retryMakes", inPlace := ["slices.overlaps[odyssey/wheel.timer]"], unfollowed := true, recurses := true, apart := false }
def RetryMakesSaid : Prop := retryMakesRow.holds Try.pinned (OpenSpec.ofChange retryMakesSpec)

/-- ITS FALSE NEIGHBOUR: 'it returns false'. Refute it at one input. -/
def retryMakesWrong : ChangeSpec := { name := "retryMakes", fn := fun _ => fun
  | [d1, d2] => { results := [.lit (.bool false)], args := [d1, d2] }
  | _ => none }
def RetryMakesWrongFalsely : Prop := retryMakesRow.holds Try.pinned (OpenSpec.ofChange retryMakesWrong)

/-- 'odysseylaw20.RetryDelays': WHATEVER THE INPUT: true; the input reads as it did. -/
def retryDelaysSpec : ChangeSpec := { name := "retryDelays", fn := fun _ => fun
  | [d1, d2] => { results := [.lit (.bool true)], args := [d1, d2] }
  | _ => none }
def retryDelaysRow : OpenClaim := { program := "ytbgbpibfmdkndaa", sum := "a5958087ae2a0317356c20582b4bcd4ee24959fd51762751a88ea33887f3fb6f", func := "odyssey/odysseylaw20.RetryDelays", spec := "retryDelays", inPlace := ["slices.overlaps[odyssey/wheel.timer]"], unfollowed := true, recurses := true, apart := false }
def RetryDelaysSaid : Prop := retryDelaysRow.holds Try.pinned (OpenSpec.ofChange retryDelaysSpec)

/-- ITS FALSE NEIGHBOUR: 'it returns false'. Refute it at one input. -/
def retryDelaysWrong : ChangeSpec := { name := "retryDelays", fn := fun _ => fun
  | [d1, d2] => { results := [.lit (.bool false)], args := [d1, d2] }
  | _ => none }
def RetryDelaysWrongFalsely : Prop := retryDelaysRow.holds Try.pinned (OpenSpec.ofChange retryDelaysWrong)

/-- 'odysseylaw20.RetryAgain': WHATEVER THE INPUT: true; the input reads as it did. -/
def retryAgainSpec : ChangeSpec := { name := "retryAgain", fn := fun _ => fun
  | [d1, d2, d3, d4] => { results := [.lit (.bool true)], args := [d1, d2, d3, d4] }
  | _ => none }
def retryAgainRow : OpenClaim := { program := "ytbgbpibfmdkndaa", sum := "a5958087ae2a0317356c20582b4bcd4ee24959fd51762751a88ea33887f3fb6f", func := "odyssey/odysseylaw20.RetryAgain", spec := "retryAgain", inPlace := ["slices.overlaps[odyssey/wheel.timer]"], unfollowed := true, recurses := true, apart := false }
def RetryAgainSaid : Prop := retryAgainRow.holds Try.pinned (OpenSpec.ofChange retryAgainSpec)

/-- ITS FALSE NEIGHBOUR: 'it returns false'. Refute it at one input. -/
def retryAgainWrong : ChangeSpec := { name := "retryAgain", fn := fun _ => fun
  | [d1, d2, d3, d4] => { results := [.lit (.bool false)], args := [d1, d2, d3, d4] }
  | _ => none }
def RetryAgainWrongFalsely : Prop := retryAgainRow.holds Try.pinned (OpenSpec.ofChange retryAgainWrong)

/-- 'odysseylaw20.RetryScripts': WHATEVER THE INPUT: true; the input reads as it did. -/
def retryScriptsSpec : ChangeSpec := { name := "retryScripts", fn := fun _ => fun
  | [d1, d2, d3] => { results := [.lit (.bool true)], args := [d1, d2, d3] }
  | _ => none }
def retryScriptsRow : OpenClaim := { program := "ytbgbpibfmdkndaa", sum := "a5958087ae2a0317356c20582b4bcd4ee24959fd51762751a88ea33887f3fb6f", func := "odyssey/odysseylaw20.RetryScripts", spec := "retryScripts", inPlace := ["slices.overlaps[odyssey/wheel.timer]"], unfollowed := true, recurses := true, apart := false }
def RetryScriptsSaid : Prop := retryScriptsRow.holds Try.pinned (OpenSpec.ofChange retryScriptsSpec)

/-- ITS FALSE NEIGHBOUR: 'it returns false'. Refute it at one input. -/
def retryScriptsWrong : ChangeSpec := { name := "retryScripts", fn := fun _ => fun
  | [d1, d2, d3] => { results := [.lit (.bool false)], args := [d1, d2, d3] }
  | _ => none }
def RetryScriptsWrongFalsely : Prop := retryScriptsRow.holds Try.pinned (OpenSpec.ofChange retryScriptsWrong)

/-- 'odysseylaw20.RetryApart': WHATEVER THE INPUT: true; the input reads as it did. -/
def retryApartSpec : ChangeSpec := { name := "retryApart", fn := fun _ => fun
  | [d1, d2, d3, d4] => { results := [.lit (.bool true)], args := [d1, d2, d3, d4] }
  | _ => none }
def retryApartRow : OpenClaim := { program := "ytbgbpibfmdkndaa", sum := "a5958087ae2a0317356c20582b4bcd4ee24959fd51762751a88ea33887f3fb6f", func := "odyssey/odysseylaw20.RetryApart", spec := "retryApart", inPlace := ["slices.overlaps[odyssey/wheel.timer]"], unfollowed := true, recurses := true, apart := false }
def RetryApartSaid : Prop := retryApartRow.holds Try.pinned (OpenSpec.ofChange retryApartSpec)

/-- ITS FALSE NEIGHBOUR: 'it returns false'. Refute it at one input. -/
def retryApartWrong : ChangeSpec := { name := "retryApart", fn := fun _ => fun
  | [d1, d2, d3, d4] => { results := [.lit (.bool false)], args := [d1, d2, d3, d4] }
  | _ => none }
def RetryApartWrongFalsely : Prop := retryApartRow.holds Try.pinned (OpenSpec.ofChange retryApartWrong)

/- THE SECOND FORM. 'bulk': how many values and letters a reading holds, each counted each time it is reached (what is shared counts as often as it is met; a slice's spare places count too). A statement '..UptoSaid' is the law's where the arguments, and the package variables that the reading takes, are together of bulk at most 1048576: NARROWER than '..Said'. Prove '..Said' where nothing that the law and all that it calls make is longer than what came in: it says more and counts as full. Else prove '..UptoSaid'. A law counts once. -/
mutual
def uptoBulk {H : Type} : DataW H → Nat
  | .lit (.string bytes) => bytes.length + 1
  | .lit _ => 1
  | .nil => 1
  | .ptr d => uptoBulk d + 1
  | .slice elems spare => uptoBulkAll elems + uptoBulkAll spare + 1
  | .agg parts => uptoBulkAll parts + 1
  | .iface _ d => uptoBulk d + 1
  | .map entries => uptoBulkEntries entries + 1
  | .held _ => 1
def uptoBulkAll {H : Type} : List (DataW H) → Nat
  | [] => 0
  | d :: r => uptoBulk d + uptoBulkAll r
def uptoBulkEntries {H : Type} : List (Lit × DataW H) → Nat
  | [] => 0
  | x :: r => uptoBulkEntry x + uptoBulkEntries r
def uptoBulkEntry {H : Type} : Lit × DataW H → Nat
  | (.string bytes, d) => bytes.length + uptoBulk d + 1
  | (_, d) => uptoBulk d + 1
 end
def uptoSmall : (H : Type) → List (DataW H) → Bool := fun _ ds => decide (uptoBulkAll ds ≤ 1048576)
def OpenSpec.upto (s : _root_.Go.ChangeSpec) : _root_.Go.OpenSpec := { _root_.Go.OpenSpec.ofChange s with cond := some uptoSmall }

/-- 'odysseylaw20.RetryMakes', WHERE WHAT IT READS IS OF BULK AT MOST 1048576: true; the input reads as it did. -/
def retryMakesUptoRow : OpenClaim := { program := "ytbgbpibfmdkndaa", sum := "a5958087ae2a0317356c20582b4bcd4ee24959fd51762751a88ea33887f3fb6f", func := "odyssey/odysseylaw20.RetryMakes", spec := "retryMakes", inPlace := ["slices.overlaps[odyssey/wheel.timer]"], unfollowed := true, recurses := true, apart := false, narrowed := true }
def RetryMakesUptoSaid : Prop := retryMakesUptoRow.holds Try.pinned (OpenSpec.upto retryMakesSpec)

/-- 'odysseylaw20.RetryDelays', WHERE WHAT IT READS IS OF BULK AT MOST 1048576: true; the input reads as it did. -/
def retryDelaysUptoRow : OpenClaim := { program := "ytbgbpibfmdkndaa", sum := "a5958087ae2a0317356c20582b4bcd4ee24959fd51762751a88ea33887f3fb6f", func := "odyssey/odysseylaw20.RetryDelays", spec := "retryDelays", inPlace := ["slices.overlaps[odyssey/wheel.timer]"], unfollowed := true, recurses := true, apart := false, narrowed := true }
def RetryDelaysUptoSaid : Prop := retryDelaysUptoRow.holds Try.pinned (OpenSpec.upto retryDelaysSpec)

/-- 'odysseylaw20.RetryAgain', WHERE WHAT IT READS IS OF BULK AT MOST 1048576: true; the input reads as it did. -/
def retryAgainUptoRow : OpenClaim := { program := "ytbgbpibfmdkndaa", sum := "a5958087ae2a0317356c20582b4bcd4ee24959fd51762751a88ea33887f3fb6f", func := "odyssey/odysseylaw20.RetryAgain", spec := "retryAgain", inPlace := ["slices.overlaps[odyssey/wheel.timer]"], unfollowed := true, recurses := true, apart := false, narrowed := true }
def RetryAgainUptoSaid : Prop := retryAgainUptoRow.holds Try.pinned (OpenSpec.upto retryAgainSpec)

/-- 'odysseylaw20.RetryScripts', WHERE WHAT IT READS IS OF BULK AT MOST 1048576: true; the input reads as it did. -/
def retryScriptsUptoRow : OpenClaim := { program := "ytbgbpibfmdkndaa", sum := "a5958087ae2a0317356c20582b4bcd4ee24959fd51762751a88ea33887f3fb6f", func := "odyssey/odysseylaw20.RetryScripts", spec := "retryScripts", inPlace := ["slices.overlaps[odyssey/wheel.timer]"], unfollowed := true, recurses := true, apart := false, narrowed := true }
def RetryScriptsUptoSaid : Prop := retryScriptsUptoRow.holds Try.pinned (OpenSpec.upto retryScriptsSpec)

/-- 'odysseylaw20.RetryApart', WHERE WHAT IT READS IS OF BULK AT MOST 1048576: true; the input reads as it did. -/
def retryApartUptoRow : OpenClaim := { program := "ytbgbpibfmdkndaa", sum := "a5958087ae2a0317356c20582b4bcd4ee24959fd51762751a88ea33887f3fb6f", func := "odyssey/odysseylaw20.RetryApart", spec := "retryApart", inPlace := ["slices.overlaps[odyssey/wheel.timer]"], unfollowed := true, recurses := true, apart := false, narrowed := true }
def RetryApartUptoSaid : Prop := retryApartUptoRow.holds Try.pinned (OpenSpec.upto retryApartSpec)

end Rows
end Go.Proofs.Ytbgbpibfmdkndaa
