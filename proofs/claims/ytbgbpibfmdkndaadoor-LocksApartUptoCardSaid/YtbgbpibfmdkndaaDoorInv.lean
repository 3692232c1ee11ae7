/- A region that draws its order, walked once, in the order of the text: whatever its operations and callees leave of memory is one class of worlds, told by the pieces that stand in it. -/
import Derived.Test.YtbgbpibfmdkndaaDoorSL
import Derived.BigQuiet
set_option linter.unusedVariables false
set_option linter.unusedSimpArgs false
set_option linter.unnecessarySimpa false
namespace Go.Proofs.YtbgbpibfmdkndaaDoor
open Go.RowKit Go.ChangeShapes Go.WideShapes Go.ChangeAt
/-- a world in which these pieces stand -/
structure In (w0 : World) (L : List HP) where
  w : World
  ok : Sat w0 w L
theorem wp_region_in {P : Program} {id : Nat} {Q : Exit → Act → World → Prop} {a : Act} {w w0 : World} {l : List Oper} {L : List HP} (hS : Sat w0 w L) (hm : P.follows .mixedOrders = true) (hB : Region.lexB .any l.toArray = true)
    (h : wpQuiet P l.toArray (fun w' => ∃ x : In w0 L, w' = x.w) (fun a' => ∀ w', (∃ x : In w0 L, w' = x.w) → Q .normal a' w') l a) : (Code.region id l.toArray true).wp P Q a w :=
  wp_region_quiet (C := fun w' => ∃ x : In w0 L, w' = x.w) hm hB ⟨⟨_, hS.drew⟩, rfl⟩ (by simpa using h)
/-- a callee's contract, in a world of the class -/
theorem Calls.in_ {P : Program} {f : FuncId} {args : Array Value} {w0 : World} {L : List HP} {x : In w0 L} {v : Value} (h : Calls P f args x.w fun e w' => e = .returned v ∧ Sat w0 w' L) :
    Calls P f args x.w fun e w' => e = .returned v ∧ ∃ y : In w0 L, w' = y.w := h.mono fun _ _ ⟨he, hs⟩ => ⟨he, ⟨_, hs⟩, rfl⟩
theorem Calls.in_same {P : Program} {f : FuncId} {args : Array Value} {w0 : World} {L : List HP} {x : In w0 L} {v : Value} (h : Calls P f args x.w fun e w' => e = .returned v ∧ w' = x.w) :
    Calls P f args x.w fun e w' => e = .returned v ∧ ∃ y : In w0 L, w' = y.w := h.mono fun _ _ ⟨he, hs⟩ => ⟨he, x, hs⟩
theorem Calls.in_drewN {P : Program} {f : FuncId} {args : Array Value} {w0 : World} {L : List HP} {x : In w0 L} {v : Value} (h : Calls P f args x.w fun e w' => e = .returned v ∧ ∃ m, w' = x.w.drewN m) :
    Calls P f args x.w fun e w' => e = .returned v ∧ ∃ y : In w0 L, w' = y.w := h.mono fun _ _ ⟨he, m, hs⟩ => ⟨he, ⟨_, x.ok.drewN m⟩, hs⟩
theorem Calls.in_below {P : Program} {f : FuncId} {args : Array Value} {w0 : World} {L : List HP} {x : In w0 L} {v : Value} (h : Calls P f args x.w fun e w' => e = .returned v ∧ Below x.w.heap.size x.w w') :
    Calls P f args x.w fun e w' => e = .returned v ∧ ∃ y : In w0 L, w' = y.w := h.mono fun _ _ ⟨he, hb⟩ => ⟨he, ⟨_, x.ok.below hb⟩, rfl⟩
end Go.Proofs.YtbgbpibfmdkndaaDoor
