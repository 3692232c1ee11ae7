/- Words on memory: a block known whole; what may be read and written in it. -/
import Derived.Test.YtbgbpibfmdkndaaRows
import Derived.WalkKit
import Derived.KernelRfl
import Derived.Lib.Hide
import Derived.Below
import Derived.OpenShut
import Derived.ProofKit
import Derived.Laws.Cells
import Derived.Laws.Pointers
import Derived.Laws.MakeOwn
import Derived.BigRegion
import Derived.BigQuiet
import Derived.Deep.QuietTactic
import Derived.Deep.RegionWith
import Derived.Deep.RegionHeld
import Derived.Deep.DeepCutAuto
import Derived.OwnWalk
import Derived.WalkSpells
import Derived.Deep.LoopGhost
set_option linter.unusedVariables false
set_option linter.unusedSimpArgs false
set_option linter.unnecessarySimpa false
namespace Go.Proofs.Ytbgbpibfmdkndaa
open Go.RowKit Go.ChangeShapes Go.WideShapes Go.ChangeAt
/-- a block, known whole -/
def At (w : World) (g t : Nat) (vs : List Value) : Prop := w.heap[g]? = some (.cells vs.toArray t)
theorem At.lt {w : World} {g t : Nat} {vs : List Value} (h : At w g t vs) : g < w.heap.size := by
  rcases Nat.lt_or_ge g w.heap.size with h' | h'
  · exact h'
  · unfold At at h; simp [Array.getElem?_eq_none h'] at h
theorem At.cell {w : World} {g t : Nat} {vs : List Value} (h : At w g t vs) (i : Nat) : w.cell? ⟨g, i, none⟩ = vs[i]? := by
  unfold At at h; simp [World.cell?, h]
theorem At.free {w : World} {g t : Nat} {vs : List Value} (h : At w g t vs) (i : Nat) : w.frozen? ⟨g, i, none⟩ = false := by
  unfold At at h; simp [World.frozen?, h]
theorem At.set {w : World} {g t : Nat} {vs : List Value} (h : At w g t vs) (i : Nat) (v : Value) : At (w.setCell ⟨g, i, none⟩ v) g t (vs.set i v) := by
  unfold At at h ⊢
  have hl := At.lt (w := w) h
  simp only [World.setCell, Array.getElem?_modify]
  simp [h]
theorem At.far {w : World} {g t : Nat} {vs : List Value} (h : At w g t vs) {p : Addr} (hp : g ≠ p.block) (v : Value) : At (w.setCell p v) g t vs := by
  unfold At at h ⊢; rw [Below.heap_setCell w p v g hp]; exact h
theorem At.below {w w' : World} {n g t : Nat} {vs : List Value} (h : At w g t vs) (hg : g < n) (hb : Below n w w') : At w' g t vs := (hb.block g hg).trans h
theorem At.keep {w w' : World} {g t : Nat} {vs : List Value} (h : At w g t vs) (hb : Below w.heap.size w w') : At w' g t vs := h.below h.lt hb
theorem At.alloc {w : World} {g t : Nat} {vs : List Value} (h : At w g t vs) (o : Obj) : At (w.alloc o) g t vs := h.keep ((Below.refl _ _).alloc (Nat.le_refl _) _)
theorem At.new (w : World) (t : Nat) (cs : Array Value) : At (w.alloc (.cells cs t)) w.heap.size t cs.toList := by
  unfold At; simp [World.alloc, -World.alloc_eq]
theorem At.drewN {w : World} {g t : Nat} {vs : List Value} (h : At w g t vs) (m : Nat) : At (w.drewN m) g t vs := h
theorem below_drewN {n : Nat} {w0 w : World} (h : Below n w0 w) (m : Nat) : Below n w0 (w.drewN m) := ⟨h.os, h.tape, h.output, h.size, h.block⟩
theorem below_step {W w w' : World} (h : Below W.heap.size W w) (h2 : Below w.heap.size w w') : Below W.heap.size W w' := h.trans (h2.mono h.size)
/-- what a call that writes into block g alone leaves -/
structure Chg (g : Nat) (w w' : World) : Prop where
  os : w'.os = w.os
  tape : w'.tape = w.tape
  output : w'.output = w.output
  size : w.heap.size ≤ w'.heap.size
  block : ∀ k, k < w.heap.size → k ≠ g → w'.heap[k]? = w.heap[k]?
theorem Chg.refl (g : Nat) (w : World) : Chg g w w := ⟨rfl, rfl, rfl, Nat.le_refl _, fun _ _ _ => rfl⟩
theorem Chg.trans {g : Nat} {a b c : World} (h : Chg g a b) (k : Chg g b c) : Chg g a c :=
  ⟨k.os.trans h.os, k.tape.trans h.tape, k.output.trans h.output, Nat.le_trans h.size k.size, fun i hi hg => (k.block i (Nat.lt_of_lt_of_le hi h.size) hg).trans (h.block i hi hg)⟩
theorem Chg.of_below {g : Nat} {w w' : World} (h : Below w.heap.size w w') : Chg g w w' := ⟨h.os, h.tape, h.output, h.size, fun k hk _ => h.block k hk⟩
theorem Chg.set {g : Nat} {a w : World} (h : Chg g a w) (i : Nat) (v : Value) : Chg g a (w.setCell ⟨g, i, none⟩ v) :=
  ⟨h.os, h.tape, h.output, by simpa using h.size, fun k hk hg => (Below.heap_setCell w ⟨g, i, none⟩ v k hg).trans (h.block k hk hg)⟩
theorem Chg.alloc {g : Nat} {a w : World} (h : Chg g a w) (o : Obj) : Chg g a (w.alloc o) := h.trans (.of_below ((Below.refl _ _).alloc (Nat.le_refl _) o))
theorem Chg.drewN {g : Nat} {a w : World} (h : Chg g a w) (m : Nat) : Chg g a (w.drewN m) := ⟨h.os, h.tape, h.output, h.size, h.block⟩
theorem Chg.drew {g : Nat} {a w : World} (h : Chg g a w) : Chg g a w.drew := ⟨h.os, h.tape, h.output, h.size, h.block⟩
theorem Chg.new {g : Nat} {a w : World} (h : Chg g a w) {p : Addr} (hp : a.heap.size ≤ p.block) (v : Value) : Chg g a (w.setCell p v) :=
  ⟨h.os, h.tape, h.output, by simpa using h.size, fun k hk hg => (Below.heap_setCell w p v k (by omega)).trans (h.block k hk hg)⟩
theorem Chg.at_ {g : Nat} {w w' : World} (h : Chg g w w') {k t : Nat} {vs : List Value} (ha : At w k t vs) (hg : k ≠ g) : At w' k t vs := (h.block k ha.lt hg).trans ha
theorem Chg.below {g n : Nat} {w w' : World} (h : Chg g w w') (hg : n ≤ g) (hn : n ≤ w.heap.size) : Below n w w' := ⟨h.os, h.tape, h.output, h.size, fun k hk => h.block k (by omega) (by omega)⟩
theorem u32_of {a : Int} (h : (Lit.int .u32 a).wf = true) : ∃ n : Nat, n < 4294967296 ∧ a = (n : Int) := by
  have e1 : IntKind.u32.min = 0 := by decide
  have e2 : IntKind.u32.max = 4294967295 := by decide
  simp [Lit.wf, e1, e2] at h
  exact ⟨a.toNat, by omega, by omega⟩
theorem i64_of {a : Int} (h : (Lit.int .i64 a).wf = true) : -9223372036854775808 ≤ a ∧ a ≤ 9223372036854775807 := by
  have e1 : IntKind.i64.min = -9223372036854775808 := by decide
  have e2 : IntKind.i64.max = 9223372036854775807 := by decide
  simpa [Lit.wf, e1, e2] using h
end Go.Proofs.Ytbgbpibfmdkndaa
