/-
  No cell of these rows narrows 'for every input' (looked for: loops, veiled, ifaces, maps, wideKeys, modest, calm, conditions, laid).
  DERIVED. THE GIVEN ROWS OF THIS SEAT. 5 by the template 'for every input the law returns true; each argument reads behind the call as it read before'; 0 by the template 'total and deterministic' (their statements: YtnjhnchjlecdoaaTotals.lean).
  GIVEN WITH THE SEED: the statements are not yours to turn. If you find one false, say at which input.
  Laid BY PROGRAM, IN A SANDBOX (cutbox-rows.mjs): the forced cells as the released guide's own fill.sh prints them over the translation 9968dd2871eb3246… (all of the seat's roots in one cut). By AI agents, Wed Nov 11 2026. No macro, syntax, notation, axiom, sorry.
-/
import Derived.Test.YtnjhnchjlecdoaaChecked
import GoSem.Claim
import GoSem.ClaimJoined
import GoSem.ClaimMapViews
import Derived.JoinedTies
import Derived.KernelRfl
namespace Go.Proofs.Ytnjhnchjlecdoaa
/- THE CELL 'sum', in the pinned program and in every row, IS THE sha256 OF THE DUMP (.gsa) THAT YtnjhnchjlecdoaaProg.lean LOADS. Nothing in Lean hashes anything: it is a label: what it is worth is what the hold of that sum in a sandbox is worth. -/
noncomputable def Try.pinned : Pinned := { name := "ytnjhnchjlecdoaa", sum := "9968dd2871eb3246495870a9c22de1e4ef0a696dda0422a43162d875e3e55b72", checked := Try.checked }
namespace Rows
def none {H : Type} : Left H := { results := [], args := [] }

/-- 'odysseylaw08.WheelFull': WHATEVER THE INPUT: true; the input reads as it did. -/
def wheelFullSpec : ChangeSpec := { name := "wheelFull", fn := fun _ => fun
  | [d1, d2, d3] => { results := [.lit (.bool true)], args := [d1, d2, d3] }
  | _ => none }
def wheelFullRow : OpenClaim := { program := "ytnjhnchjlecdoaa", sum := "9968dd2871eb3246495870a9c22de1e4ef0a696dda0422a43162d875e3e55b72", func := "odyssey/odysseylaw08.WheelFull", spec := "wheelFull", inPlace := ["slices.overlaps[odyssey/wheel.timer]"], unfollowed := true, recurses := true, apart := false }
def WheelFullSaid : Prop := wheelFullRow.holds Try.pinned (OpenSpec.ofChange wheelFullSpec)

/-- ITS FALSE NEIGHBOUR: 'it returns false'. Refute it at one input. -/
def wheelFullWrong : ChangeSpec := { name := "wheelFull", fn := fun _ => fun
  | [d1, d2, d3] => { results := [.lit (.bool false)], args := [d1, d2, d3] }
  | _ => none }
def WheelFullWrongFalsely : Prop := wheelFullRow.holds Try.pinned (OpenSpec.ofChange wheelFullWrong)

/-- 'odysseylaw08.WheelParts': WHATEVER THE INPUT: true; the input reads as it did. -/
def wheelPartsSpec : ChangeSpec := { name := "wheelParts", fn := fun _ => fun
  | [d1, d2, d3] => { results := [.lit (.bool true)], args := [d1, d2, d3] }
  | _ => none }
def wheelPartsRow : OpenClaim := { program := "ytnjhnchjlecdoaa", sum := "9968dd2871eb3246495870a9c22de1e4ef0a696dda0422a43162d875e3e55b72", func := "odyssey/odysseylaw08.WheelParts", spec := "wheelParts", inPlace := ["slices.overlaps[odyssey/wheel.timer]"], unfollowed := true, recurses := true, apart := false }
def WheelPartsSaid : Prop := wheelPartsRow.holds Try.pinned (OpenSpec.ofChange wheelPartsSpec)

/-- ITS FALSE NEIGHBOUR: 'it returns false'. Refute it at one input. -/
def wheelPartsWrong : ChangeSpec := { name := "wheelParts", fn := fun _ => fun
  | [d1, d2, d3] => { results := [.lit (.bool false)], args := [d1, d2, d3] }
  | _ => none }
def WheelPartsWrongFalsely : Prop := wheelPartsRow.holds Try.pinned (OpenSpec.ofChange wheelPartsWrong)

/-- 'odysseylaw08.WheelScripts': WHATEVER THE INPUT: true; the input reads as it did. -/
def wheelScriptsSpec : ChangeSpec := { name := "wheelScripts", fn := fun _ => fun
  | [d] => { results := [.lit (.bool true)], args := [d] }
  | _ => none }
def wheelScriptsRow : OpenClaim := { program := "ytnjhnchjlecdoaa", sum := "9968dd2871eb3246495870a9c22de1e4ef0a696dda0422a43162d875e3e55b72", func := "odyssey/odysseylaw08.WheelScripts", spec := "wheelScripts", inPlace := ["slices.overlaps[odyssey/wheel.timer]"], unfollowed := true, recurses := true, apart := false }
def WheelScriptsSaid : Prop := wheelScriptsRow.holds Try.pinned (OpenSpec.ofChange wheelScriptsSpec)

/-- ITS FALSE NEIGHBOUR: 'it returns false'. Refute it at one input. -/
def wheelScriptsWrong : ChangeSpec := { name := "wheelScripts", fn := fun _ => fun
  | [d] => { results := [.lit (.bool false)], args := [d] }
  | _ => none }
def WheelScriptsWrongFalsely : Prop := wheelScriptsRow.holds Try.pinned (OpenSpec.ofChange wheelScriptsWrong)

/-- 'odysseylaw08.WheelOnce': WHATEVER THE INPUT: true; the input reads as it did. -/
def wheelOnceSpec : ChangeSpec := { name := "wheelOnce", fn := fun _ => fun
  | [d] => { results := [.lit (.bool true)], args := [d] }
  | _ => none }
def wheelOnceRow : OpenClaim := { program := "ytnjhnchjlecdoaa", sum := "9968dd2871eb3246495870a9c22de1e4ef0a696dda0422a43162d875e3e55b72", func := "odyssey/odysseylaw08.WheelOnce", spec := "wheelOnce", inPlace := ["slices.overlaps[odyssey/wheel.timer]"], unfollowed := true, recurses := true, apart := false }
def WheelOnceSaid : Prop := wheelOnceRow.holds Try.pinned (OpenSpec.ofChange wheelOnceSpec)

/-- ITS FALSE NEIGHBOUR: 'it returns false'. Refute it at one input. -/
def wheelOnceWrong : ChangeSpec := { name := "wheelOnce", fn := fun _ => fun
  | [d] => { results := [.lit (.bool false)], args := [d] }
  | _ => none }
def WheelOnceWrongFalsely : Prop := wheelOnceRow.holds Try.pinned (OpenSpec.ofChange wheelOnceWrong)

/-- 'odysseylaw08.WheelAlike': WHATEVER THE INPUT: true; the input reads as it did. -/
def wheelAlikeSpec : ChangeSpec := { name := "wheelAlike", fn := fun _ => fun
  | [d1, d2] => { results := [.lit (.bool true)], args := [d1, d2] }
  | _ => none }
def wheelAlikeRow : OpenClaim := { program := "ytnjhnchjlecdoaa", sum := "9968dd2871eb3246495870a9c22de1e4ef0a696dda0422a43162d875e3e55b72", func := "odyssey/odysseylaw08.WheelAlike", spec := "wheelAlike", inPlace := ["slices.overlaps[odyssey/wheel.timer]"], unfollowed := true, recurses := true, apart := false }
def WheelAlikeSaid : Prop := wheelAlikeRow.holds Try.pinned (OpenSpec.ofChange wheelAlikeSpec)

/-- ITS FALSE NEIGHBOUR: 'it returns false'. Refute it at one input. -/
def wheelAlikeWrong : ChangeSpec := { name := "wheelAlike", fn := fun _ => fun
  | [d1, d2] => { results := [.lit (.bool false)], args := [d1, d2] }
  | _ => none }
def WheelAlikeWrongFalsely : Prop := wheelAlikeRow.holds Try.pinned (OpenSpec.ofChange wheelAlikeWrong)

/- THE SECOND FORM. 'bulk': how many values and letters a reading holds, each counted each time it is reached (what is shared counts as often as it is met; a slice's spare places count too). A statement '..UptoSaid' is the law's where the arguments, and the package variables that the reading takes, are together of bulk at most 1048576: NARROWER than '..Said'. Prove '..Said' where nothing that the law and all that it calls make is longer than what came in: it says more and counts as full. Else prove '..UptoSaid'. A law counts once. -/
mutual
def uptoBulk {H : Type} : DataW H → Nat
  | .lit (.string bytes) => bytes.length + 1
  | .lit _ => 1
  | .nil => 1
  | .ptr d => uptoBulk d + 1
  | .slice elems spare => uptoBulkAll elems + uptoBulkAll spare + 1
  | .agg parts => uptoBulkAll parts + 1
  | .iface _ d => uptoBulk d + 1
  | .map entries => uptoBulkEntries entries + 1
  | .held _ => 1
def uptoBulkAll {H : Type} : List (DataW H) → Nat
  | [] => 0
  | d :: r => uptoBulk d + uptoBulkAll r
def uptoBulkEntries {H : Type} : List (Lit × DataW H) → Nat
  | [] => 0
  | x :: r => uptoBulkEntry x + uptoBulkEntries r
def uptoBulkEntry {H : Type} : Lit × DataW H → Nat
  | (.string bytes, d) => bytes.length + uptoBulk d + 1
  | (_, d) => uptoBulk d + 1
 end
def uptoSmall : (H : Type) → List (DataW H) → Bool := fun _ ds => decide (uptoBulkAll ds ≤ 1048576)
def OpenSpec.upto (s : _root_.Go.ChangeSpec) : _root_.Go.OpenSpec := { _root_.Go.OpenSpec.ofChange s with cond := some uptoSmall }

/-- 'odysseylaw08.WheelFull', WHERE WHAT IT READS IS OF BULK AT MOST 1048576: true; the input reads as it did. -/
def wheelFullUptoRow : OpenClaim := { program := "ytnjhnchjlecdoaa", sum := "9968dd2871eb3246495870a9c22de1e4ef0a696dda0422a43162d875e3e55b72", func := "odyssey/odysseylaw08.WheelFull", spec := "wheelFull", inPlace := ["slices.overlaps[odyssey/wheel.timer]"], unfollowed := true, recurses := true, apart := false, narrowed := true }
def WheelFullUptoSaid : Prop := wheelFullUptoRow.holds Try.pinned (OpenSpec.upto wheelFullSpec)

/-- 'odysseylaw08.WheelParts', WHERE WHAT IT READS IS OF BULK AT MOST 1048576: true; the input reads as it did. -/
def wheelPartsUptoRow : OpenClaim := { program := "ytnjhnchjlecdoaa", sum := "9968dd2871eb3246495870a9c22de1e4ef0a696dda0422a43162d875e3e55b72", func := "odyssey/odysseylaw08.WheelParts", spec := "wheelParts", inPlace := ["slices.overlaps[odyssey/wheel.timer]"], unfollowed := true, recurses := true, apart := false, narrowed := true }
def WheelPartsUptoSaid : Prop := wheelPartsUptoRow.holds Try.pinned (OpenSpec.upto wheelPartsSpec)

/-- 'odysseylaw08.WheelScripts', WHERE WHAT IT READS IS OF BULK AT MOST 1048576: true; the input reads as it did. -/
def wheelScriptsUptoRow : OpenClaim := { program := "ytnjhnchjlecdoaa", sum := "9968dd2871eb3246495870a9c22de1e4ef0a696dda0422a43162d875e3e55b72", func := "odyssey/odysseylaw08.WheelScripts", spec := "wheelScripts", inPlace := ["slices.overlaps[odyssey/wheel.timer]"], unfollowed := true, recurses := true, apart := false, narrowed := true }
def WheelScriptsUptoSaid : Prop := wheelScriptsUptoRow.holds Try.pinned (OpenSpec.upto wheelScriptsSpec)

/-- 'odysseylaw08.WheelOnce', WHERE WHAT IT READS IS OF BULK AT MOST 1048576: true; the input reads as it did. -/
def wheelOnceUptoRow : OpenClaim := { program := "ytnjhnchjlecdoaa", sum := "9968dd2871eb3246495870a9c22de1e4ef0a696dda0422a43162d875e3e55b72", func := "odyssey/odysseylaw08.WheelOnce", spec := "wheelOnce", inPlace := ["slices.overlaps[odyssey/wheel.timer]"], unfollowed := true, recurses := true, apart := false, narrowed := true }
def WheelOnceUptoSaid : Prop := wheelOnceUptoRow.holds Try.pinned (OpenSpec.upto wheelOnceSpec)

/-- 'odysseylaw08.WheelAlike', WHERE WHAT IT READS IS OF BULK AT MOST 1048576: true; the input reads as it did. -/
def wheelAlikeUptoRow : OpenClaim := { program := "ytnjhnchjlecdoaa", sum := "9968dd2871eb3246495870a9c22de1e4ef0a696dda0422a43162d875e3e55b72", func := "odyssey/odysseylaw08.WheelAlike", spec := "wheelAlike", inPlace := ["slices.overlaps[odyssey/wheel.timer]"], unfollowed := true, recurses := true, apart := false, narrowed := true }
def WheelAlikeUptoSaid : Prop := wheelAlikeUptoRow.holds Try.pinned (OpenSpec.upto wheelAlikeSpec)

end Rows
end Go.Proofs.Ytnjhnchjlecdoaa
