/-
  No cell of these rows narrows 'for every input' (looked for: loops, veiled, ifaces, maps, wideKeys, modest, calm, conditions, laid).
  DERIVED. THE GIVEN ROWS OF THIS SEAT. 7 by the template 'for every input the law returns true; each argument reads behind the call as it read before'; 0 by the template 'total and deterministic' (their statements: YtmkbehdfchjeoaaTotals.lean).
  GIVEN WITH THE SEED: the statements are not yours to turn. If you find one false, say at which input.
  Laid BY PROGRAM, IN A SANDBOX (cutbox-rows.mjs): the forced cells as the released guide's own fill.sh prints them over the translation 89011e69f49a993a… (all of the seat's roots in one cut). By AI agents, Wed Nov 11 2026. No macro, syntax, notation, axiom, sorry.
-/
import Derived.Test.YtmkbehdfchjeoaaChecked
import GoSem.Claim
import GoSem.ClaimJoined
import GoSem.ClaimMapViews
import Derived.JoinedTies
import Derived.KernelRfl
namespace Go.Proofs.Ytmkbehdfchjeoaa
/- THE CELL 'sum', in the pinned program and in every row, IS THE sha256 OF THE DUMP (.gsa) THAT YtmkbehdfchjeoaaProg.lean LOADS. Nothing in Lean hashes anything: it is a label: what it is worth is what the hold of that sum in a sandbox is worth. -/
noncomputable def Try.pinned : Pinned := { name := "ytmkbehdfchjeoaa", sum := "89011e69f49a993a06bc777d923b899f7cef13ae2805e297901e5535c8b67fff", checked := Try.checked }
namespace Rows
def none {H : Type} : Left H := { results := [], args := [] }

/-- 'odysseylaw09.PoolOrder': WHATEVER THE INPUT: true; the input reads as it did. -/
def poolOrderSpec : ChangeSpec := { name := "poolOrder", fn := fun _ => fun
  | [d1, d2] => { results := [.lit (.bool true)], args := [d1, d2] }
  | _ => none }
def poolOrderRow : OpenClaim := { program := "ytmkbehdfchjeoaa", sum := "89011e69f49a993a06bc777d923b899f7cef13ae2805e297901e5535c8b67fff", func := "odyssey/odysseylaw09.PoolOrder", spec := "poolOrder", apart := false }
def PoolOrderSaid : Prop := poolOrderRow.holds Try.pinned (OpenSpec.ofChange poolOrderSpec)

/-- ITS FALSE NEIGHBOUR: 'it returns false'. Refute it at one input. -/
def poolOrderWrong : ChangeSpec := { name := "poolOrder", fn := fun _ => fun
  | [d1, d2] => { results := [.lit (.bool false)], args := [d1, d2] }
  | _ => none }
def PoolOrderWrongFalsely : Prop := poolOrderRow.holds Try.pinned (OpenSpec.ofChange poolOrderWrong)

/-- 'odysseylaw15.QuotaMakes': WHATEVER THE INPUT: true; the input reads as it did. -/
def quotaMakesSpec : ChangeSpec := { name := "quotaMakes", fn := fun _ => fun
  | [d1, d2, d3] => { results := [.lit (.bool true)], args := [d1, d2, d3] }
  | _ => none }
def quotaMakesRow : OpenClaim := { program := "ytmkbehdfchjeoaa", sum := "89011e69f49a993a06bc777d923b899f7cef13ae2805e297901e5535c8b67fff", func := "odyssey/odysseylaw15.QuotaMakes", spec := "quotaMakes", unfollowed := true, recurses := true, apart := false }
def QuotaMakesSaid : Prop := quotaMakesRow.holds Try.pinned (OpenSpec.ofChange quotaMakesSpec)

/-- ITS FALSE NEIGHBOUR: 'it returns false'. Refute it at one input. -/
def quotaMakesWrong : ChangeSpec := { name := "quotaMakes", fn := fun _ => fun
  | [d1, d2, d3] => { results := [.lit (.bool false)], args := [d1, d2, d3] }
  | _ => none }
def QuotaMakesWrongFalsely : Prop := quotaMakesRow.holds Try.pinned (OpenSpec.ofChange quotaMakesWrong)

/-- 'odysseylaw15.QuotaScripts': WHATEVER THE INPUT: true; the input reads as it did. -/
def quotaScriptsSpec : ChangeSpec := { name := "quotaScripts", fn := fun _ => fun
  | [d] => { results := [.lit (.bool true)], args := [d] }
  | _ => none }
def quotaScriptsRow : OpenClaim := { program := "ytmkbehdfchjeoaa", sum := "89011e69f49a993a06bc777d923b899f7cef13ae2805e297901e5535c8b67fff", func := "odyssey/odysseylaw15.QuotaScripts", spec := "quotaScripts", unfollowed := true, recurses := true, apart := false }
def QuotaScriptsSaid : Prop := quotaScriptsRow.holds Try.pinned (OpenSpec.ofChange quotaScriptsSpec)

/-- ITS FALSE NEIGHBOUR: 'it returns false'. Refute it at one input. -/
def quotaScriptsWrong : ChangeSpec := { name := "quotaScripts", fn := fun _ => fun
  | [d] => { results := [.lit (.bool false)], args := [d] }
  | _ => none }
def QuotaScriptsWrongFalsely : Prop := quotaScriptsRow.holds Try.pinned (OpenSpec.ofChange quotaScriptsWrong)

/-- 'odysseylaw15.QuotaSums': WHATEVER THE INPUT: true; the input reads as it did. -/
def quotaSumsSpec : ChangeSpec := { name := "quotaSums", fn := fun _ => fun
  | [d] => { results := [.lit (.bool true)], args := [d] }
  | _ => none }
def quotaSumsRow : OpenClaim := { program := "ytmkbehdfchjeoaa", sum := "89011e69f49a993a06bc777d923b899f7cef13ae2805e297901e5535c8b67fff", func := "odyssey/odysseylaw15.QuotaSums", spec := "quotaSums", unfollowed := true, recurses := true, apart := false }
def QuotaSumsSaid : Prop := quotaSumsRow.holds Try.pinned (OpenSpec.ofChange quotaSumsSpec)

/-- ITS FALSE NEIGHBOUR: 'it returns false'. Refute it at one input. -/
def quotaSumsWrong : ChangeSpec := { name := "quotaSums", fn := fun _ => fun
  | [d] => { results := [.lit (.bool false)], args := [d] }
  | _ => none }
def QuotaSumsWrongFalsely : Prop := quotaSumsRow.holds Try.pinned (OpenSpec.ofChange quotaSumsWrong)

/-- 'odysseylaw09.PoolMakes': WHATEVER THE INPUT: true; the input reads as it did. -/
def poolMakesSpec : ChangeSpec := { name := "poolMakes", fn := fun _ => fun
  | [d] => { results := [.lit (.bool true)], args := [d] }
  | _ => none }
def poolMakesRow : OpenClaim := { program := "ytmkbehdfchjeoaa", sum := "89011e69f49a993a06bc777d923b899f7cef13ae2805e297901e5535c8b67fff", func := "odyssey/odysseylaw09.PoolMakes", spec := "poolMakes", apart := false }
def PoolMakesSaid : Prop := poolMakesRow.holds Try.pinned (OpenSpec.ofChange poolMakesSpec)

/-- ITS FALSE NEIGHBOUR: 'it returns false'. Refute it at one input. -/
def poolMakesWrong : ChangeSpec := { name := "poolMakes", fn := fun _ => fun
  | [d] => { results := [.lit (.bool false)], args := [d] }
  | _ => none }
def PoolMakesWrongFalsely : Prop := poolMakesRow.holds Try.pinned (OpenSpec.ofChange poolMakesWrong)

/-- 'odysseylaw09.PoolScripts': WHATEVER THE INPUT: true; the input reads as it did. -/
def poolScriptsSpec : ChangeSpec := { name := "poolScripts", fn := fun _ => fun
  | [d1, d2] => { results := [.lit (.bool true)], args := [d1, d2] }
  | _ => none }
def poolScriptsRow : OpenClaim := { program := "ytmkbehdfchjeoaa", sum := "89011e69f49a993a06bc777d923b899f7cef13ae2805e297901e5535c8b67fff", func := "odyssey/odysseylaw09.PoolScripts", spec := "poolScripts", apart := false }
def PoolScriptsSaid : Prop := poolScriptsRow.holds Try.pinned (OpenSpec.ofChange poolScriptsSpec)

/-- ITS FALSE NEIGHBOUR: 'it returns false'. Refute it at one input. -/
def poolScriptsWrong : ChangeSpec := { name := "poolScripts", fn := fun _ => fun
  | [d1, d2] => { results := [.lit (.bool false)], args := [d1, d2] }
  | _ => none }
def PoolScriptsWrongFalsely : Prop := poolScriptsRow.holds Try.pinned (OpenSpec.ofChange poolScriptsWrong)

/-- 'odysseylaw09.PoolKeeps': WHATEVER THE INPUT: true; the input reads as it did. -/
def poolKeepsSpec : ChangeSpec := { name := "poolKeeps", fn := fun _ => fun
  | [d1, d2] => { results := [.lit (.bool true)], args := [d1, d2] }
  | _ => none }
def poolKeepsRow : OpenClaim := { program := "ytmkbehdfchjeoaa", sum := "89011e69f49a993a06bc777d923b899f7cef13ae2805e297901e5535c8b67fff", func := "odyssey/odysseylaw09.PoolKeeps", spec := "poolKeeps", apart := false }
def PoolKeepsSaid : Prop := poolKeepsRow.holds Try.pinned (OpenSpec.ofChange poolKeepsSpec)

/-- ITS FALSE NEIGHBOUR: 'it returns false'. Refute it at one input. -/
def poolKeepsWrong : ChangeSpec := { name := "poolKeeps", fn := fun _ => fun
  | [d1, d2] => { results := [.lit (.bool false)], args := [d1, d2] }
  | _ => none }
def PoolKeepsWrongFalsely : Prop := poolKeepsRow.holds Try.pinned (OpenSpec.ofChange poolKeepsWrong)

/- THE SECOND FORM. 'bulk': how many values and letters a reading holds, each counted each time it is reached (what is shared counts as often as it is met; a slice's spare places count too). A statement '..UptoSaid' is the law's where the arguments, and the package variables that the reading takes, are together of bulk at most 1048576: NARROWER than '..Said'. Prove '..Said' where nothing that the law and all that it calls make is longer than what came in: it says more and counts as full. Else prove '..UptoSaid'. A law counts once. -/
mutual
def uptoBulk {H : Type} : DataW H → Nat
  | .lit (.string bytes) => bytes.length + 1
  | .lit _ => 1
  | .nil => 1
  | .ptr d => uptoBulk d + 1
  | .slice elems spare => uptoBulkAll elems + uptoBulkAll spare + 1
  | .agg parts => uptoBulkAll parts + 1
  | .iface _ d => uptoBulk d + 1
  | .map entries => uptoBulkEntries entries + 1
  | .held _ => 1
def uptoBulkAll {H : Type} : List (DataW H) → Nat
  | [] => 0
  | d :: r => uptoBulk d + uptoBulkAll r
def uptoBulkEntries {H : Type} : List (Lit × DataW H) → Nat
  | [] => 0
  | x :: r => uptoBulkEntry x + uptoBulkEntries r
def uptoBulkEntry {H : Type} : Lit × DataW H → Nat
  | (.string bytes, d) => bytes.length + uptoBulk d + 1
  | (_, d) => uptoBulk d + 1
 end
def uptoSmall : (H : Type) → List (DataW H) → Bool := fun _ ds => decide (uptoBulkAll ds ≤ 1048576)
def OpenSpec.upto (s : _root_.Go.ChangeSpec) : _root_.Go.OpenSpec := { _root_.Go.OpenSpec.ofChange s with cond := some uptoSmall }

/-- 'odysseylaw09.PoolOrder', WHERE WHAT IT READS IS OF BULK AT MOST 1048576: true; the input reads as it did. -/
def poolOrderUptoRow : OpenClaim := { program := "ytmkbehdfchjeoaa", sum := "89011e69f49a993a06bc777d923b899f7cef13ae2805e297901e5535c8b67fff", func := "odyssey/odysseylaw09.PoolOrder", spec := "poolOrder", apart := false, narrowed := true }
def PoolOrderUptoSaid : Prop := poolOrderUptoRow.holds Try.pinned (OpenSpec.upto poolOrderSpec)

/-- 'odysseylaw15.QuotaMakes', WHERE WHAT IT READS IS OF BULK AT MOST 1048576: true; the input reads as it did. -/
def quotaMakesUptoRow : OpenClaim := { program := "ytmkbehdfchjeoaa", sum := "89011e69f49a993a06bc777d923b899f7cef13ae2805e297901e5535c8b67fff", func := "odyssey/odysseylaw15.QuotaMakes", spec := "quotaMakes", unfollowed := true, recurses := true, apart := false, narrowed := true }
def QuotaMakesUptoSaid : Prop := quotaMakesUptoRow.holds Try.pinned (OpenSpec.upto quotaMakesSpec)

/-- 'odysseylaw15.QuotaScripts', WHERE WHAT IT READS IS OF BULK AT MOST 1048576: true; the input reads as it did. -/
def quotaScriptsUptoRow : OpenClaim := { program := "ytmkbehdfchjeoaa", sum := "89011e69f49a993a06bc777d923b899f7cef13ae2805e297901e5535c8b67fff", func := "odyssey/odysseylaw15.QuotaScripts", spec := "quotaScripts", unfollowed := true, recurses := true, apart := false, narrowed := true }
def QuotaScriptsUptoSaid : Prop := quotaScriptsUptoRow.holds Try.pinned (OpenSpec.upto quotaScriptsSpec)

/-- 'odysseylaw15.QuotaSums', WHERE WHAT IT READS IS OF BULK AT MOST 1048576: true; the input reads as it did. -/
def quotaSumsUptoRow : OpenClaim := { program := "ytmkbehdfchjeoaa", sum := "89011e69f49a993a06bc777d923b899f7cef13ae2805e297901e5535c8b67fff", func := "odyssey/odysseylaw15.QuotaSums", spec := "quotaSums", unfollowed := true, recurses := true, apart := false, narrowed := true }
def QuotaSumsUptoSaid : Prop := quotaSumsUptoRow.holds Try.pinned (OpenSpec.upto quotaSumsSpec)

/-- 'odysseylaw09.PoolMakes', WHERE WHAT IT READS IS OF BULK AT MOST 1048576: true; the input reads as it did. -/
def poolMakesUptoRow : OpenClaim := { program := "ytmkbehdfchjeoaa", sum := "89011e69f49a993a06bc777d923b899f7cef13ae2805e297901e5535c8b67fff", func := "odyssey/odysseylaw09.PoolMakes", spec := "poolMakes", apart := false, narrowed := true }
def PoolMakesUptoSaid : Prop := poolMakesUptoRow.holds Try.pinned (OpenSpec.upto poolMakesSpec)

/-- 'odysseylaw09.PoolScripts', WHERE WHAT IT READS IS OF BULK AT MOST 1048576: true; the input reads as it did. -/
def poolScriptsUptoRow : OpenClaim := { program := "ytmkbehdfchjeoaa", sum := "89011e69f49a993a06bc777d923b899f7cef13ae2805e297901e5535c8b67fff", func := "odyssey/odysseylaw09.PoolScripts", spec := "poolScripts", apart := false, narrowed := true }
def PoolScriptsUptoSaid : Prop := poolScriptsUptoRow.holds Try.pinned (OpenSpec.upto poolScriptsSpec)

/-- 'odysseylaw09.PoolKeeps', WHERE WHAT IT READS IS OF BULK AT MOST 1048576: true; the input reads as it did. -/
def poolKeepsUptoRow : OpenClaim := { program := "ytmkbehdfchjeoaa", sum := "89011e69f49a993a06bc777d923b899f7cef13ae2805e297901e5535c8b67fff", func := "odyssey/odysseylaw09.PoolKeeps", spec := "poolKeeps", apart := false, narrowed := true }
def PoolKeepsUptoSaid : Prop := poolKeepsUptoRow.holds Try.pinned (OpenSpec.upto poolKeepsSpec)

end Rows
end Go.Proofs.Ytmkbehdfchjeoaa
