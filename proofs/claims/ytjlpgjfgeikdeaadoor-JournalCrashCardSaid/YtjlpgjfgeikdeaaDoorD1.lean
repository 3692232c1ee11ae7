import Derived.Test.YtjlpgjfgeikdeaaDoorRows
import Derived.WalkKit
import Derived.KernelRfl
import Derived.Lib.Hide
import Derived.Below
import Derived.OpenShut
import Derived.ProofKit
import Derived.Laws.Cells
import Derived.Laws.Pointers
import Derived.Laws.MakeOwn
import Derived.BigRegion
import Derived.BigQuiet
import Derived.Deep.QuietTactic
import Derived.Deep.RegionWith
import Derived.Deep.RegionHeld
import Derived.Deep.DeepCutAuto
import Derived.OwnWalk
import Derived.WalkSpells
import Derived.Deep.LoopGhost
import Derived.Maps.AppendAt
import Derived.Lib.AppendStr
import Derived.Laws.BytesArg
section
/- Words on memory: a block known whole; what may be read and written in it. -/
set_option linter.unusedVariables false
set_option linter.unusedSimpArgs false
set_option linter.unnecessarySimpa false
set_option maxRecDepth 100000
namespace Go.Proofs.YtjlpgjfgeikdeaaDoor
open Go.RowKit Go.ChangeShapes Go.WideShapes Go.ChangeAt
/-- a block, known whole -/
def At (w : World) (g t : Nat) (vs : List Value) : Prop := w.heap[g]? = some (.cells vs.toArray t)
theorem At.lt {w : World} {g t : Nat} {vs : List Value} (h : At w g t vs) : g < w.heap.size := by
  rcases Nat.lt_or_ge g w.heap.size with h' | h'
  · exact h'
  · unfold At at h; simp [Array.getElem?_eq_none h'] at h
theorem At.cell {w : World} {g t : Nat} {vs : List Value} (h : At w g t vs) (i : Nat) : w.cell? ⟨g, i, none⟩ = vs[i]? := by
  unfold At at h; simp [World.cell?, h]
theorem At.free {w : World} {g t : Nat} {vs : List Value} (h : At w g t vs) (i : Nat) : w.frozen? ⟨g, i, none⟩ = false := by
  unfold At at h; simp [World.frozen?, h]
theorem At.set {w : World} {g t : Nat} {vs : List Value} (h : At w g t vs) (i : Nat) (v : Value) : At (w.setCell ⟨g, i, none⟩ v) g t (vs.set i v) := by
  unfold At at h ⊢
  have hl := At.lt (w := w) h
  simp only [World.setCell, Array.getElem?_modify]
  simp [h]
theorem At.far {w : World} {g t : Nat} {vs : List Value} (h : At w g t vs) {p : Addr} (hp : g ≠ p.block) (v : Value) : At (w.setCell p v) g t vs := by
  unfold At at h ⊢; rw [Below.heap_setCell w p v g hp]; exact h
theorem At.below {w w' : World} {n g t : Nat} {vs : List Value} (h : At w g t vs) (hg : g < n) (hb : Below n w w') : At w' g t vs := (hb.block g hg).trans h
theorem At.keep {w w' : World} {g t : Nat} {vs : List Value} (h : At w g t vs) (hb : Below w.heap.size w w') : At w' g t vs := h.below h.lt hb
theorem At.alloc {w : World} {g t : Nat} {vs : List Value} (h : At w g t vs) (o : Obj) : At (w.alloc o) g t vs := h.keep ((Below.refl _ _).alloc (Nat.le_refl _) _)
theorem At.new (w : World) (t : Nat) (cs : Array Value) : At (w.alloc (.cells cs t)) w.heap.size t cs.toList := by
  unfold At; simp [World.alloc, -World.alloc_eq]
theorem At.drewN {w : World} {g t : Nat} {vs : List Value} (h : At w g t vs) (m : Nat) : At (w.drewN m) g t vs := h
theorem below_drewN {n : Nat} {w0 w : World} (h : Below n w0 w) (m : Nat) : Below n w0 (w.drewN m) := ⟨h.os, h.tape, h.output, h.size, h.block⟩
theorem below_step {W w w' : World} (h : Below W.heap.size W w) (h2 : Below w.heap.size w w') : Below W.heap.size W w' := h.trans (h2.mono h.size)
/-- what a call that writes into block g alone leaves -/
structure Chg (g : Nat) (w w' : World) : Prop where
  os : w'.os = w.os
  tape : w'.tape = w.tape
  output : w'.output = w.output
  size : w.heap.size ≤ w'.heap.size
  block : ∀ k, k < w.heap.size → k ≠ g → w'.heap[k]? = w.heap[k]?
theorem Chg.refl (g : Nat) (w : World) : Chg g w w := ⟨rfl, rfl, rfl, Nat.le_refl _, fun _ _ _ => rfl⟩
theorem Chg.trans {g : Nat} {a b c : World} (h : Chg g a b) (k : Chg g b c) : Chg g a c :=
  ⟨k.os.trans h.os, k.tape.trans h.tape, k.output.trans h.output, Nat.le_trans h.size k.size, fun i hi hg => (k.block i (Nat.lt_of_lt_of_le hi h.size) hg).trans (h.block i hi hg)⟩
theorem Chg.of_below {g : Nat} {w w' : World} (h : Below w.heap.size w w') : Chg g w w' := ⟨h.os, h.tape, h.output, h.size, fun k hk _ => h.block k hk⟩
theorem Chg.set {g : Nat} {a w : World} (h : Chg g a w) (i : Nat) (v : Value) : Chg g a (w.setCell ⟨g, i, none⟩ v) :=
  ⟨h.os, h.tape, h.output, by simpa using h.size, fun k hk hg => (Below.heap_setCell w ⟨g, i, none⟩ v k hg).trans (h.block k hk hg)⟩
theorem Chg.alloc {g : Nat} {a w : World} (h : Chg g a w) (o : Obj) : Chg g a (w.alloc o) := h.trans (.of_below ((Below.refl _ _).alloc (Nat.le_refl _) o))
theorem Chg.drewN {g : Nat} {a w : World} (h : Chg g a w) (m : Nat) : Chg g a (w.drewN m) := ⟨h.os, h.tape, h.output, h.size, h.block⟩
theorem Chg.drew {g : Nat} {a w : World} (h : Chg g a w) : Chg g a w.drew := ⟨h.os, h.tape, h.output, h.size, h.block⟩
theorem Chg.new {g : Nat} {a w : World} (h : Chg g a w) {p : Addr} (hp : a.heap.size ≤ p.block) (v : Value) : Chg g a (w.setCell p v) :=
  ⟨h.os, h.tape, h.output, by simpa using h.size, fun k hk hg => (Below.heap_setCell w p v k (by omega)).trans (h.block k hk hg)⟩
theorem Chg.at_ {g : Nat} {w w' : World} (h : Chg g w w') {k t : Nat} {vs : List Value} (ha : At w k t vs) (hg : k ≠ g) : At w' k t vs := (h.block k ha.lt hg).trans ha
theorem Chg.below {g n : Nat} {w w' : World} (h : Chg g w w') (hg : n ≤ g) (hn : n ≤ w.heap.size) : Below n w w' := ⟨h.os, h.tape, h.output, h.size, fun k hk => h.block k (by omega) (by omega)⟩
theorem u32_of {a : Int} (h : (Lit.int .u32 a).wf = true) : ∃ n : Nat, n < 4294967296 ∧ a = (n : Int) := by
  have e1 : IntKind.u32.min = 0 := by decide
  have e2 : IntKind.u32.max = 4294967295 := by decide
  simp [Lit.wf, e1, e2] at h
  exact ⟨a.toNat, by omega, by omega⟩
theorem i64_of {a : Int} (h : (Lit.int .i64 a).wf = true) : -9223372036854775808 ≤ a ∧ a ≤ 9223372036854775807 := by
  have e1 : IntKind.i64.min = -9223372036854775808 := by decide
  have e2 : IntKind.i64.max = 9223372036854775807 := by decide
  simpa [Lit.wf, e1, e2] using h
end Go.Proofs.YtjlpgjfgeikdeaaDoor
end

section
/- Words on memory: what stands in it, piece by piece, each piece in blocks of its own. -/
set_option linter.unusedVariables false
set_option linter.unusedSimpArgs false
set_option linter.unnecessarySimpa false
set_option maxRecDepth 100000
namespace Go.Proofs.YtjlpgjfgeikdeaaDoor
open Go.RowKit Go.ChangeShapes Go.WideShapes Go.ChangeAt
/-- a part of memory -/
abbrev Hp := Nat → Option Obj
def Hp.le (a b : Hp) : Prop := ∀ g o, a g = some o → b g = some o
theorem Hp.le.refl (a : Hp) : a.le a := fun _ _ h => h
theorem Hp.le.trans {a b c : Hp} (h : a.le b) (k : b.le c) : a.le c := fun g o e => k g o (h g o e)
/-- what is said of a part -/
def HP := Hp → Prop
/-- the pieces stand in unlike blocks -/
def Splits : Hp → List HP → Prop
  | _, [] => True
  | h, A :: L => ∃ h1 h2 : Hp, h1.le h ∧ h2.le h ∧ (∀ g, h1 g = none ∨ h2 g = none) ∧ A h1 ∧ Splits h2 L
def Hp.or (a b : Hp) : Hp := fun g => match a g with | some o => some o | none => b g
theorem Hp.or_left (a b : Hp) : a.le (a.or b) := fun g o h => by simp [Hp.or, h]
theorem Hp.or_right {a b : Hp} (hd : ∀ g, a g = none ∨ b g = none) : b.le (a.or b) := fun g o h => by
  rcases hd g with e | e
  · simp [Hp.or, e, h]
  · rw [e] at h; cases h
theorem Hp.or_le {a b c : Hp} (h : a.le c) (k : b.le c) : (a.or b).le c := fun g o e => by
  unfold Hp.or at e
  cases ha : a g with
  | some x => rw [ha] at e; exact h g o (ha.trans e)
  | none => rw [ha] at e; exact k g o e
theorem Hp.or_none {a b : Hp} {g : Nat} : a.or b g = none ↔ a g = none ∧ b g = none := by
  unfold Hp.or
  cases ha : a g <;> simp
theorem Hp.le_none {a b : Hp} (h : a.le b) {g : Nat} (e : b g = none) : a g = none := by
  cases ha : a g with
  | none => rfl
  | some o => rw [h g o ha] at e; cases e
theorem Splits.mono {h h' : Hp} (hh : h.le h') : ∀ {L : List HP}, Splits h L → Splits h' L
  | [], _ => trivial
  | _ :: _, ⟨h1, h2, l1, l2, d, a, s⟩ => ⟨h1, h2, l1.trans hh, l2.trans hh, d, a, s⟩
theorem Splits.swap {h : Hp} {A B : HP} {L : List HP} : Splits h (A :: B :: L) → Splits h (B :: A :: L) := by
  rintro ⟨h1, h2, l1, l2, d, a, h3, h4, l3, l4, d2, b, s⟩
  have d14 : ∀ g, h1 g = none ∨ h4 g = none := fun g => (d g).imp id fun e => Hp.le_none l4 e
  refine ⟨h3, h1.or h4, l3.trans l2, Hp.or_le l1 (l4.trans l2), fun g => ?_, b, h1, h4, Hp.or_left _ _, Hp.or_right d14, d14, a, s⟩
  rcases d g with e | e
  · rcases d2 g with e2 | e2
    · exact .inl e2
    · exact .inr (Hp.or_none.2 ⟨e, e2⟩)
  · exact .inl (Hp.le_none l3 e)
theorem Splits.tail {h : Hp} {A : HP} {L : List HP} : Splits h (A :: L) → Splits h L := fun ⟨_, _, _, l2, _, _, s⟩ => s.mono l2
theorem Splits.perm {L M : List HP} (p : L.Perm M) : ∀ {h : Hp}, Splits h L → Splits h M := by
  induction p with
  | nil => exact fun s => s
  | cons A _ ih => rintro h ⟨h1, h2, l1, l2, d, a, s⟩; exact ⟨h1, h2, l1, l2, d, a, ih s⟩
  | swap A B L => exact fun s => s.swap
  | trans _ _ ih1 ih2 => exact fun s => ih2 (ih1 s)
theorem Splits.imp {h : Hp} {A B : HP} {L : List HP} (k : ∀ h, A h → B h) : Splits h (A :: L) → Splits h (B :: L) := fun ⟨h1, h2, l1, l2, d, a, s⟩ => ⟨h1, h2, l1, l2, d, k _ a, s⟩
theorem Splits.mem {A : HP} : ∀ {L : List HP} {h : Hp}, A ∈ L → Splits h L → ∃ h1 : Hp, h1.le h ∧ A h1
  | [], _, m, _ => by cases m
  | B :: L, h, m, ⟨h1, h2, l1, l2, _, a, s⟩ => by
    cases m with
    | head => exact ⟨h1, l1, a⟩
    | tail _ m => obtain ⟨h3, l3, a3⟩ := Splits.mem m s; exact ⟨h3, l3.trans l2, a3⟩
/-- several pieces as one -/
def sep (L : List HP) : HP := fun h => Splits h L
theorem Splits.open_ : ∀ {M L : List HP} {h : Hp}, Splits h (sep M :: L) → Splits h (M ++ L)
  | [], _, _, ⟨_, _, _, l2, _, _, s⟩ => s.mono l2
  | A :: M, L, h, ⟨h1, h2, l1, l2, d, ⟨h3, h4, l3, l4, d2, a, m⟩, s⟩ => by
    have d42 : ∀ g, h4 g = none ∨ h2 g = none := fun g => (d g).imp (fun e => Hp.le_none l4 e) id
    refine ⟨h3, h4.or h2, l3.trans l1, Hp.or_le (l4.trans l1) l2, fun g => ?_, a, Splits.open_ (M := M) ⟨h4, h2, Hp.or_left _ _, Hp.or_right d42, d42, m, s⟩⟩
    rcases d2 g with e | e
    · exact .inl e
    · rcases d g with e2 | e2
      · exact .inl (Hp.le_none l3 e2)
      · exact .inr (Hp.or_none.2 ⟨e, e2⟩)
theorem Splits.close : ∀ {M L : List HP} {h : Hp}, Splits h (M ++ L) → Splits h (sep M :: L)
  | [], _, h, s => ⟨fun _ => none, h, fun _ _ e => by simp at e, Hp.le.refl h, fun _ => .inl rfl, trivial, s⟩
  | A :: M, L, h, ⟨h1, h2, l1, l2, d, a, s⟩ => by
    obtain ⟨h3, h4, l3, l4, d2, m, s⟩ := Splits.close (M := M) s
    have d13 : ∀ g, h1 g = none ∨ h3 g = none := fun g => (d g).imp id fun e => Hp.le_none l3 e
    refine ⟨h1.or h3, h4, Hp.or_le l1 (l3.trans l2), l4.trans l2, fun g => ?_, ⟨h1, h3, Hp.or_left _ _, Hp.or_right d13, d13, a, m⟩, s⟩
    rcases d g with e | e
    · rcases d2 g with e2 | e2
      · exact .inl (Hp.or_none.2 ⟨e, e2⟩)
      · exact .inr e2
    · exact .inr (Hp.le_none l4 e)
def ex {α : Type} (P : α → HP) : HP := fun h => ∃ x, P x h
theorem Splits.open_ex {α : Type} {P : α → HP} {L : List HP} {h : Hp} : Splits h (ex P :: L) → ∃ x, Splits h (P x :: L) := fun ⟨h1, h2, l1, l2, d, ⟨x, a⟩, s⟩ => ⟨x, h1, h2, l1, l2, d, a, s⟩
theorem Splits.close_ex {α : Type} {P : α → HP} {L : List HP} {h : Hp} (x : α) : Splits h (P x :: L) → Splits h (ex P :: L) := fun ⟨h1, h2, l1, l2, d, a, s⟩ => ⟨h1, h2, l1, l2, d, ⟨x, a⟩, s⟩
/-- a piece of which something plain is known -/
def wth (p : Prop) (A : HP) : HP := fun h => p ∧ A h
theorem Splits.open_wth {p : Prop} {A : HP} {L : List HP} {h : Hp} : Splits h (wth p A :: L) → p ∧ Splits h (A :: L) := fun ⟨h1, h2, l1, l2, d, ⟨x, a⟩, s⟩ => ⟨x, h1, h2, l1, l2, d, a, s⟩
theorem Splits.close_wth {p : Prop} {A : HP} {L : List HP} {h : Hp} (x : p) : Splits h (A :: L) → Splits h (wth p A :: L) := fun ⟨h1, h2, l1, l2, d, a, s⟩ => ⟨h1, h2, l1, l2, d, ⟨x, a⟩, s⟩
/-- a block, known whole -/
def BlkO (g : Nat) (o : Obj) : HP := fun h => h g = some o
def Blk (g t : Nat) (vs : List Value) : HP := BlkO g (.cells vs.toArray t)
/-- all that was there when the call began -/
def Old (w0 : World) : HP := fun h => ∀ g, g < w0.heap.size → h g = w0.heap[g]?
def hp (w : World) : Hp := fun g => w.heap[g]?
/-- what stands in memory: pieces, each in blocks of its own; the streams are as they were -/
structure Sat (w0 w : World) (L : List HP) : Prop where
  os : w.os = w0.os
  tape : w.tape = w0.tape
  output : w.output = w0.output
  size : w0.heap.size ≤ w.heap.size
  own : Splits (hp w) L
section
variable {w0 w w' : World} {L M F : List HP} {A B C D E G : HP}
theorem Sat.start (w : World) : Sat w w [Old w] :=
  ⟨rfl, rfl, rfl, Nat.le_refl _, hp w, fun _ => none, Hp.le.refl _, fun _ _ e => by simp at e, fun _ => .inr rfl, fun _ _ => rfl, trivial⟩
theorem Sat.perm (h : Sat w0 w L) (p : L.Perm M) : Sat w0 w M := ⟨h.os, h.tape, h.output, h.size, h.own.perm p⟩
theorem Sat.map (h : Sat w0 w L) (k : ∀ h, Splits h L → Splits h M) : Sat w0 w M := ⟨h.os, h.tape, h.output, h.size, k _ h.own⟩
theorem Sat.tail (h : Sat w0 w (A :: L)) : Sat w0 w L := h.map fun _ => Splits.tail
/-- the second, third .. piece to the front -/
theorem Sat.r2 (h : Sat w0 w (A :: B :: L)) : Sat w0 w (B :: A :: L) := h.map fun _ => Splits.swap
theorem Sat.r3 (h : Sat w0 w (A :: B :: C :: L)) : Sat w0 w (C :: A :: B :: L) := h.perm (((List.Perm.swap C B L).cons A).trans (List.Perm.swap C A (B :: L)))
theorem Sat.r4 (h : Sat w0 w (A :: B :: C :: D :: L)) : Sat w0 w (D :: A :: B :: C :: L) := h.perm ((((List.Perm.swap D C L).cons B).cons A).trans (((List.Perm.swap D B (C :: L)).cons A).trans (List.Perm.swap D A _)))
theorem Sat.r5 (h : Sat w0 w (A :: B :: C :: D :: E :: L)) : Sat w0 w (E :: A :: B :: C :: D :: L) := (h.perm ((((List.Perm.swap E D L).cons C).cons B).cons A)).r4
theorem Sat.r6 (h : Sat w0 w (A :: B :: C :: D :: E :: G :: L)) : Sat w0 w (G :: A :: B :: C :: D :: E :: L) := (h.perm (((((List.Perm.swap G E L).cons D).cons C).cons B).cons A)).r5
/-- the first piece behind the second, third .. -/
theorem Sat.b2 (h : Sat w0 w (A :: B :: L)) : Sat w0 w (B :: A :: L) := h.r2
theorem Sat.b3 (h : Sat w0 w (A :: B :: C :: L)) : Sat w0 w (B :: C :: A :: L) := h.perm ((List.Perm.swap B A _).trans ((List.Perm.swap C A L).cons B))
theorem Sat.b4 (h : Sat w0 w (A :: B :: C :: D :: L)) : Sat w0 w (B :: C :: D :: A :: L) := h.b3.perm (((List.Perm.swap D A L).cons C).cons B)
theorem Sat.b5 (h : Sat w0 w (A :: B :: C :: D :: E :: L)) : Sat w0 w (B :: C :: D :: E :: A :: L) := h.b4.perm ((((List.Perm.swap E A L).cons D).cons C).cons B)
theorem Sat.open_ (h : Sat w0 w (sep M :: L)) : Sat w0 w (M ++ L) := h.map fun _ => Splits.open_
theorem Sat.close (h : Sat w0 w (M ++ L)) : Sat w0 w (sep M :: L) := h.map fun _ => Splits.close
theorem Sat.close2 (h : Sat w0 w (A :: B :: L)) : Sat w0 w (sep [A, B] :: L) := Sat.close (M := [A, B]) h
theorem Sat.close3 (h : Sat w0 w (A :: B :: C :: L)) : Sat w0 w (sep [A, B, C] :: L) := Sat.close (M := [A, B, C]) h
theorem Sat.open_ex {α : Type} {P : α → HP} (h : Sat w0 w (ex P :: L)) : ∃ x, Sat w0 w (P x :: L) := let ⟨x, hx⟩ := h.own.open_ex; ⟨x, h.os, h.tape, h.output, h.size, hx⟩
theorem Sat.close_ex {α : Type} {P : α → HP} (x : α) (h : Sat w0 w (P x :: L)) : Sat w0 w (ex P :: L) := h.map fun _ => Splits.close_ex x
theorem Sat.open_wth {p : Prop} (h : Sat w0 w (wth p A :: L)) : p ∧ Sat w0 w (A :: L) := ⟨h.own.open_wth.1, h.map fun _ s => s.open_wth.2⟩
theorem Sat.close_wth {p : Prop} (x : p) (h : Sat w0 w (A :: L)) : Sat w0 w (wth p A :: L) := h.map fun _ => Splits.close_wth x
theorem Sat.imp (h : Sat w0 w (A :: L)) (k : ∀ h, A h → B h) : Sat w0 w (B :: L) := h.map fun _ => Splits.imp k
theorem Sat.drewN (h : Sat w0 w L) (n : Nat) : Sat w0 (w.drewN n) L := ⟨h.os, h.tape, h.output, h.size, h.own⟩
theorem Sat.drew (h : Sat w0 w L) : Sat w0 w.drew L := ⟨h.os, h.tape, h.output, h.size, h.own⟩
theorem Sat.undrew (h : Sat w0 w.drew L) : Sat w0 w L := ⟨h.os, h.tape, h.output, h.size, h.own⟩
theorem Sat.below (h : Sat w0 w L) (hb : Below w.heap.size w w') : Sat w0 w' L :=
  ⟨hb.os.trans h.os, hb.tape.trans h.tape, hb.output.trans h.output, Nat.le_trans h.size hb.size, h.own.mono fun g o e => (hb.block g (Array.getElem?_eq_some_iff.1 e).1).trans e⟩
theorem Sat.blk {g t : Nat} {vs : List Value} (h : Sat w0 w (Blk g t vs :: L)) : At w g t vs := let ⟨_, _, l1, _, _, a, _⟩ := h.own; l1 _ _ a
theorem Sat.blkO {g : Nat} {o : Obj} (h : Sat w0 w (BlkO g o :: L)) : w.heap[g]? = some o := let ⟨_, _, l1, _, _, a, _⟩ := h.own; l1 _ _ a
theorem Sat.old (h : Sat w0 w L) (m : Old w0 ∈ L) : Below w0.heap.size w0 w := by
  obtain ⟨h1, l1, a⟩ := h.own.mem m
  refine ⟨h.os, h.tape, h.output, h.size, fun k hk => ?_⟩
  have e := a k hk
  rw [Array.getElem?_eq_getElem hk] at e ⊢
  exact l1 k _ e
/-- a block is written -/
theorem Sat.update {g : Nat} {o o' : Obj} (h : Sat w0 w (BlkO g o :: L)) (h1 : w'.os = w.os) (h2 : w'.tape = w.tape) (h3 : w'.output = w.output) (h4 : w.heap.size ≤ w'.heap.size)
    (h5 : w'.heap[g]? = some o') (h6 : ∀ k, k < w.heap.size → k ≠ g → w'.heap[k]? = w.heap[k]?) : Sat w0 w' (BlkO g o' :: L) := by
  refine ⟨h1.trans h.os, h2.trans h.tape, h3.trans h.output, Nat.le_trans h.size h4, ?_⟩
  obtain ⟨a, b, l1, l2, d, e, s⟩ := h.own
  have hbg : b g = none := (d g).resolve_left (by rw [show a g = some o from e]; simp)
  refine ⟨fun k => if k = g then some o' else none, b, fun k x hk => ?_, fun k x hk => ?_, fun k => ?_, by simp [BlkO], s⟩
  · by_cases hkg : k = g
    · subst hkg; simp at hk; subst hk; exact h5
    · simp [hkg] at hk
  · have hkg : k ≠ g := by rintro rfl; rw [hbg] at hk; cases hk
    have := l2 k x hk
    exact (h6 k (Array.getElem?_eq_some_iff.1 this).1 hkg).trans this
  · by_cases hkg : k = g
    · subst hkg; exact .inr hbg
    · exact .inl (by simp [hkg])
theorem Sat.set {g t : Nat} {vs : List Value} (h : Sat w0 w (Blk g t vs :: L)) (i : Nat) (v : Value) : Sat w0 (w.setCell ⟨g, i, none⟩ v) (Blk g t (vs.set i v) :: L) :=
  Sat.update h rfl rfl rfl (by simp) (h.blk.set i v) fun k _ hk => Below.heap_setCell w ⟨g, i, none⟩ v k hk
theorem Sat.chg {g t u : Nat} {vs us : List Value} (h : Sat w0 w (Blk g t vs :: L)) (c : Chg g w w') (a : At w' g u us) : Sat w0 w' (Blk g u us :: L) :=
  Sat.update h c.os c.tape c.output c.size a c.block
theorem Sat.alloc (h : Sat w0 w L) (o : Obj) : Sat w0 (w.alloc o) (BlkO w.heap.size o :: L) := by
  refine ⟨h.os, h.tape, h.output, by have := h.size; simp; omega, fun k => if k = w.heap.size then some o else none, hp w, fun k x hk => ?_, fun k x hk => ?_, fun k => ?_, by simp [BlkO], h.own⟩
  · by_cases e : k = w.heap.size
    · subst e; simp at hk; subst hk; exact heap_alloc_new w o
    · simp [e] at hk
  · exact (heap_alloc_old w o (Array.getElem?_eq_some_iff.1 hk).1).trans hk
  · by_cases e : k = w.heap.size
    · subst e; exact .inr (by simp [hp])
    · exact .inl (by simp [e])
theorem Sat.new (h : Sat w0 w L) (cs : Array Value) (t : Nat) : Sat w0 (w.alloc (.cells cs t)) (Blk w.heap.size t cs.toList :: L) := h.alloc _
theorem old_cell {w w' : World} {p : Addr} {v : Value} (hb : Below w.heap.size w w') (h : w.cell? p = some v) : w'.cell? p = some v := (hb.cell (World.block_lt_of_cell? w _ h)).trans h
theorem Sat.lt {g t : Nat} {vs : List Value} (h : Sat w0 w (Blk g t vs :: L)) : g < w.heap.size := h.blk.lt
end
/-- a row that a slice owns: its n elements of sz cells each -/
def Row (E sz : Nat) (A : Option Addr) (n c : Nat) (xs : List Value) : HP := fun h =>
  xs.length = n * sz ∧ ((A = none ∧ n = 0 ∧ c = 0) ∨ ∃ g cur, A = some ⟨g, 0, none⟩ ∧ h g = some (.cells cur E (0, 0)) ∧ n ≤ c ∧ c ≤ maxLen ∧ cur.size = c * sz ∧ cur.toList.take (n * sz) = xs)
section
variable {w0 w w' : World} {L : List HP} {E sz n c : Nat} {A : Option Addr} {xs : List Value}
theorem Sat.row (h : Sat w0 w (Row E sz A n c xs :: L)) : w.ownsRow 0 E sz (.slice A n c) n xs := by
  obtain ⟨h1, _, l1, _, _, ⟨hl, a⟩, _⟩ := h.own
  refine ⟨hl, ?_⟩
  rcases a with ⟨rfl, rfl, rfl⟩ | ⟨g, cur, rfl, hg, h2, h3, h4, h5⟩
  · exact .inl ⟨rfl, rfl⟩
  · exact .inr ⟨g, c, cur, rfl, Nat.zero_le _, l1 _ _ hg, h2, h3, h4, h5⟩
theorem Sat.nilRow (h : Sat w0 w L) (E sz : Nat) : Sat w0 w (Row E sz none 0 0 [] :: L) :=
  ⟨h.os, h.tape, h.output, h.size, fun _ => none, hp w, fun _ _ e => by simp at e, Hp.le.refl _, fun _ => .inl rfl, ⟨by simp, .inl ⟨rfl, rfl, rfl⟩⟩, h.own⟩
theorem Sat.rowOf {g : Nat} {cur : Array Value} (h : Sat w0 w (BlkO g (.cells cur E (0, 0)) :: L)) (h1 : xs.length = n * sz) (h2 : n ≤ c) (h3 : c ≤ maxLen) (h4 : cur.size = c * sz) (h5 : cur.toList.take (n * sz) = xs) :
    Sat w0 w (Row E sz (some ⟨g, 0, none⟩) n c xs :: L) :=
  h.imp fun _ a => ⟨h1, .inr ⟨g, cur, rfl, a, h2, h3, h4, h5⟩⟩
theorem Sat.rowLen (h : Sat w0 w (Row E sz A n c xs :: L)) : xs.length = n * sz := h.row.1
theorem Sat.rowCap (h : Sat w0 w (Row E sz A n c xs :: L)) : n ≤ c ∧ c ≤ maxLen := by
  obtain ⟨h1, _, _, _, _, ⟨_, a⟩, _⟩ := h.own
  rcases a with ⟨_, rfl, rfl⟩ | ⟨g, cur, _, _, h2, h3, _⟩
  · exact ⟨Nat.le_refl _, Nat.zero_le _⟩
  · exact ⟨h2, h3⟩
theorem Sat.rowNone (h : Sat w0 w (Row E sz none n c xs :: L)) : n = 0 ∧ c = 0 ∧ xs = [] := by
  obtain ⟨h1, _, _, _, _, ⟨hl, a⟩, _⟩ := h.own
  rcases a with ⟨_, rfl, rfl⟩ | ⟨g, cur, e, _⟩
  · exact ⟨rfl, rfl, List.eq_nil_of_length_eq_zero (by simpa using hl)⟩
  · cases e
/-- its block, where there is one -/
theorem Sat.rowBlk {a : Addr} (h : Sat w0 w (Row E sz (some a) n c xs :: L)) : ∃ g cur, a = ⟨g, 0, none⟩ ∧ n ≤ c ∧ c ≤ maxLen ∧ cur.size = c * sz ∧ cur.toList.take (n * sz) = xs ∧ xs.length = n * sz ∧ Sat w0 w (BlkO g (.cells cur E (0, 0)) :: L) := by
  obtain ⟨h1, h2, l1, l2, d, ⟨hl, a⟩, s⟩ := h.own
  rcases a with ⟨e, _⟩ | ⟨g, cur, e, hg, r1, r2, r3, r4⟩
  · cases e
  · cases e
    exact ⟨g, cur, rfl, r1, r2, r3, r4, hl, h.os, h.tape, h.output, h.size, h1, h2, l1, l2, d, hg, s⟩
/-- its cells -/
theorem Sat.rowCell (h : Sat w0 w (Row E sz A n c xs :: L)) (hn : xs ≠ []) : ∃ g, A = some ⟨g, 0, none⟩ ∧ (∀ j, j < xs.length → w.cell? ⟨g, j, none⟩ = xs[j]?) ∧ ∀ j, w.frozen? ⟨g, j, none⟩ = false := by
  cases A with
  | none => exact absurd h.rowNone.2.2 hn
  | some a =>
    obtain ⟨g, cur, rfl, h1, h2, h3, h4, hl, hS⟩ := h.rowBlk
    have hb := hS.blkO
    refine ⟨g, rfl, fun j hj => ?_, fun j => by simp [World.frozen?, hb]⟩
    rw [cell_of_row w g j cur E (0, 0) hb, ← h4, List.getElem?_take, if_pos (by omega)]
    simp
/-- an element is written -/
theorem Sat.rowSet {g : Nat} (h : Sat w0 w (Row E sz (some ⟨g, 0, none⟩) n c xs :: L)) (j : Nat) (v : Value) : Sat w0 (w.setCell ⟨g, j, none⟩ v) (Row E sz (some ⟨g, 0, none⟩) n c (xs.set j v) :: L) := by
  obtain ⟨g', cur, e, h1, h2, h3, h4, hl, hS⟩ := h.rowBlk
  cases e
  have hb := hS.blkO
  have hS2 : Sat w0 (w.setCell ⟨g, j, none⟩ v) (BlkO g (.cells (cur.setIfInBounds j v) E (0, 0)) :: L) :=
    Sat.update hS rfl rfl rfl (by simp) (by simp [World.setCell, Array.getElem?_modify, hb]) fun k _ hk => Below.heap_setCell w ⟨g, j, none⟩ v k hk
  refine hS2.rowOf (by simpa using hl) h1 h2 (by simpa using h3) ?_
  rw [← h4]
  simp [List.take_set]
/-- behind a law that ends in 'grownBy' -/
theorem Sat.rowGrown {A' : Option Addr} {n' c' : Nat} {xs' : List Value} (h : Sat w0 w (Row E sz A n c xs :: L)) (ho : w'.ownsRow 0 E sz (.slice A' n' c') n' xs') (hg : w.grownBy w' (Value.slice A n c).ownBlock)
    (hat : (Value.slice A' n' c').ownBlock = (Value.slice A n c).ownBlock ∨ (Value.slice A' n' c').ownBlock = some w.heap.size) : Sat w0 w' (Row E sz A' n' c' xs' :: L) := by
  obtain ⟨hl, ho⟩ := ho
  have far : Sat w0 w' L := by
    refine ⟨hg.os.trans h.os, hg.tape.trans h.tape, hg.output.trans h.output, Nat.le_trans h.size hg.size, ?_⟩
    obtain ⟨h1, h2, l1, l2, d, ⟨_, a⟩, s⟩ := h.own
    refine s.mono fun k o hk => ?_
    have hk' := l2 k o hk
    refine (hg.block k (Array.getElem?_eq_some_iff.1 hk').1 fun e => ?_).trans hk'
    rcases a with ⟨rfl, _⟩ | ⟨g, cur, rfl, hgg, _⟩
    · simp [Value.ownBlock] at e
    · simp [Value.ownBlock] at e
      subst e
      rcases d k with e2 | e2
      · rw [hgg] at e2; cases e2
      · rw [hk] at e2; cases e2
  rcases ho with ⟨e, rfl⟩ | ⟨g', cap', cur', e, _, hg', r1, r2, r3, r4⟩
  · cases e
    have hx : xs' = [] := List.eq_nil_of_length_eq_zero (by simpa using hl)
    subst hx
    exact far.nilRow E sz
  · cases e
    by_cases hold : (Value.slice A n c).ownBlock = some g'
    · cases A with
      | none => simp [Value.ownBlock] at hold
      | some a =>
        obtain ⟨g, cur, rfl, _, _, _, _, _, hS⟩ := h.rowBlk
        simp [Value.ownBlock] at hold
        subst hold
        exact (Sat.update hS hg.os hg.tape hg.output hg.size hg' fun k hk hne => hg.block k hk (by simp [Value.ownBlock]; omega)).rowOf hl r1 r2 r3 r4
    · have hnew : g' = w.heap.size := by
        rcases hat with e | e
        · exact absurd (e.symm.trans (by simp [Value.ownBlock])) hold
        · simpa [Value.ownBlock] using e
      refine Sat.rowOf (g := g') (cur := cur') ?_ hl r1 r2 r3 r4
      refine ⟨far.os, far.tape, far.output, far.size, ?_⟩
      obtain ⟨h1, h2, l1, l2, d, ⟨_, a⟩, s⟩ := h.own
      refine ⟨fun k => if k = g' then some (.cells cur' E (0, 0)) else none, h2, fun k x hk => ?_, fun k o hk => ?_, fun k => ?_, by simp [BlkO], s⟩
      · by_cases e : k = g'
        · subst e; simp at hk; subst hk; exact hg'
        · simp [e] at hk
      · have hk' := l2 k o hk
        refine (hg.block k (Array.getElem?_eq_some_iff.1 hk').1 fun e => ?_).trans hk'
        rcases a with ⟨rfl, _⟩ | ⟨g, cur, rfl, hgg, _⟩
        · simp [Value.ownBlock] at e
        · simp [Value.ownBlock] at e
          subst e
          rcases d k with e2 | e2
          · rw [hgg] at e2; cases e2
          · rw [hk] at e2; cases e2
      · by_cases e : k = g'
        · subst e
          refine .inr ?_
          cases hh : h2 k with
          | none => rfl
          | some o => have := l2 k o hh; rw [hp, hnew] at this; simp at this
        · exact .inl (by simp [e])
end
/-- append onto a row that is owned -/
theorem wp_app {P : Program} {w0 w : World} {L : List HP} {o : Oper} {a : Act} {K : Act → World → Prop} {Q : Exit → Act → World → Prop} (s x : Operand) (t : TypeId)
    (ho : o.op = .call { callee := .builtin .append, args := #[s, x], argTypes := #[t, t] })
    (e : TypeId) (i : TypeInfo) (z : Value) (size bytes : Nat) (ht : P.underlying t = some (.slice e)) (hi : P.info? e = some i) (hz : i.zero = some z)
    (hsize : i.size = size) (hby : i.bytes = bytes) (hzs : z.cells.size = size) (hsz : 0 < size)
    {A : Option Addr} {n c : Nat} {xs : List Value} (hs : a.eval s = .slice A n c) (hS : Sat w0 w (Row e size A n c xs :: L))
    (ad : Addr) (m cc : Nat) (news : List Value) (hx : a.eval x = .slice (some ad) m cc) (hl : news.length = m * size) (hnews : ∀ j u, news[j]? = some u → w.cell? (ad.add j) = some u) (h1 : ∀ u ∈ news, u.oneCell' = true)
    (h63 : n + m ≤ maxLen) (hbytes : (n + m) * bytes ≤ 140737488355328)
    (h : ∀ A' c' w', Sat w0 w' (Row e size A' (n + m) c' (xs ++ news) :: L) → K (a.put o.dst (.slice A' (n + m) c')) w') : o.wp P a w K Q := by
  obtain ⟨v', w', hr, h2, h3, h4, h5⟩ := run_append_own_at (P := P) w 0 t o.type e i z size bytes ht hi hz hsize hby hzs hsz (.slice A n c) n xs hS.row ad m cc news hl hnews h1 h63 hbytes (Nat.zero_le _)
  unfold Oper.wp execOp
  simp only [ho, resolve, invoke, builtin, Sem.run_bind, Sem.run_pure, Result.andThen_ok, List.map_toArray, List.map_cons, List.map_nil, hs, hx, hr]
  have hf : ∃ A' c', v' = .slice A' (n + m) c' := by
    rcases h2.2 with ⟨rfl, e⟩ | ⟨g, cap, cur, rfl, _⟩
    · exact ⟨_, _, by rw [e]⟩
    · exact ⟨_, _, rfl⟩
  obtain ⟨A', c', rfl⟩ := hf
  exact h A' c' w' (hS.rowGrown h2 h3 h5)
/-- a slice that can be read: its cells -/
def Rd (w : World) (B : Option Addr) (m sz : Nat) (ys : List Value) : Prop :=
  ys.length = m * sz ∧ ∀ j u, ys[j]? = some u → ∃ ad : Addr, B = some ad ∧ w.cell? (ad.add j) = some u
theorem Rd.below {w w' : World} {B : Option Addr} {m sz : Nat} {ys : List Value} (h : Rd w B m sz ys) (hb : Below w.heap.size w w') : Rd w' B m sz ys := by
  refine ⟨h.1, fun j u hu => ?_⟩
  obtain ⟨ad, e, hc⟩ := h.2 j u hu
  exact ⟨ad, e, (hb.cell (World.block_lt_of_cell? w _ hc)).trans hc⟩
theorem Rd.drewN {w : World} {B : Option Addr} {m sz : Nat} {ys : List Value} (h : Rd w B m sz ys) (n : Nat) : Rd (w.drewN n) B m sz ys := h
theorem Sat.rd {w0 w : World} {L : List HP} {E sz n c : Nat} {A : Option Addr} {xs : List Value} (h : Sat w0 w (Row E sz A n c xs :: L)) : Rd w A n sz xs := by
  refine ⟨h.rowLen, fun j u hu => ?_⟩
  have hn : xs ≠ [] := by rintro rfl; simp at hu
  obtain ⟨g, rfl, hc, _⟩ := h.rowCell hn
  have hj := (List.getElem?_eq_some_iff.1 hu).1
  refine ⟨_, rfl, ?_⟩
  have : (⟨g, 0, none⟩ : Addr).add j = ⟨g, j, none⟩ := by unfold Addr.add; split <;> simp_all
  rw [this, hc j hj, hu]
theorem Sat.rdBlk {w0 w : World} {L : List HP} {g t : Nat} {ys : List Value} (h : Sat w0 w (Blk g t ys :: L)) (m sz : Nat) (hl : ys.length = m * sz) : Rd w (some ⟨g, 0, none⟩) m sz ys := by
  refine ⟨hl, fun j u hu => ⟨_, rfl, ?_⟩⟩
  have : (⟨g, 0, none⟩ : Addr).add j = ⟨g, j, none⟩ := by unfold Addr.add; split <;> simp_all
  rw [this, h.blk.cell j, hu]
theorem run_app0 {P : Program} (w : World) (t ty e : TypeId) (i : TypeInfo) (ht : P.underlying t = some (.slice e)) (hi : P.info? e = some i) (A B : Option Addr) (n c cc : Nat) (hnc : n ≤ c) :
    (Builtin.append_ #[t, t] ty #[.slice A n c, .slice B 0 cc]).run P w = .ok (.slice A n c) w := by
  cases A <;> cases B <;> simp [Builtin.append_, run_underlying ht, sizeOf, typeInfo, hi, Builtin.lenOf, Builtin.firstCells, loadCells, loadCellsFrom, storeCells, hnc]
/-- append of whatever can be read onto a row that is owned -/
theorem wp_appS {P : Program} {w0 w : World} {L : List HP} {o : Oper} {a : Act} {K : Act → World → Prop} {Q : Exit → Act → World → Prop} (s x : Operand) (t : TypeId)
    (ho : o.op = .call { callee := .builtin .append, args := #[s, x], argTypes := #[t, t] })
    (e : TypeId) (i : TypeInfo) (z : Value) (size bytes : Nat) (ht : P.underlying t = some (.slice e)) (hi : P.info? e = some i) (hz : i.zero = some z)
    (hsize : i.size = size) (hby : i.bytes = bytes) (hzs : z.cells.size = size) (hsz : 0 < size)
    {A : Option Addr} {n c : Nat} {xs : List Value} (hs : a.eval s = .slice A n c) (hS : Sat w0 w (Row e size A n c xs :: L))
    {B : Option Addr} {m cc : Nat} {news : List Value} (hx : a.eval x = .slice B m cc) (hr : Rd w B m size news) (h1 : ∀ u ∈ news, u.oneCell' = true)
    (h63 : n + m ≤ maxLen) (hbytes : (n + m) * bytes ≤ 140737488355328)
    (h : ∀ A' c' w', Sat w0 w' (Row e size A' (n + m) c' (xs ++ news) :: L) → K (a.put o.dst (.slice A' (n + m) c')) w') : o.wp P a w K Q := by
  cases m with
  | zero =>
    have hn : news = [] := List.eq_nil_of_length_eq_zero (by simpa using hr.1)
    subst hn
    have hrun := run_app0 (P := P) w t o.type e i ht hi A B n c cc hS.rowCap.1
    unfold Oper.wp execOp
    simp only [ho, resolve, invoke, builtin, Sem.run_bind, Sem.run_pure, Result.andThen_ok, List.map_toArray, List.map_cons, List.map_nil, hs, hx, hrun]
    exact h A c w (by simpa using hS)
  | succ m =>
    have hne : ∃ u, news[0]? = some u := by
      have : 0 < news.length := by rw [hr.1]; exact Nat.mul_pos (by omega) hsz
      exact ⟨_, List.getElem?_eq_getElem this⟩
    obtain ⟨u, hu⟩ := hne
    obtain ⟨ad, rfl, _⟩ := hr.2 0 u hu
    refine wp_app s x t ho e i z size bytes ht hi hz hsize hby hzs hsz hs hS ad (m + 1) cc news hx hr.1 (fun j u hu => ?_) h1 h63 hbytes h
    obtain ⟨ad', e', hc⟩ := hr.2 j u hu
    cases e'
    exact hc
theorem wpList_appS {P : Program} {w0 w : World} {L : List HP} {ops : Array Oper} {rest : List Oper} {o : Oper} {a : Act} {Q : Exit → Act → World → Prop} (hgd : o.guard = none) (s x : Operand) (t : TypeId)
    (ho : o.op = .call { callee := .builtin .append, args := #[s, x], argTypes := #[t, t] })
    (e : TypeId) (i : TypeInfo) (z : Value) (size bytes : Nat) (ht : P.underlying t = some (.slice e)) (hi : P.info? e = some i) (hz : i.zero = some z)
    (hsize : i.size = size) (hby : i.bytes = bytes) (hzs : z.cells.size = size) (hsz : 0 < size)
    {A : Option Addr} {n c : Nat} {xs : List Value} (hs : a.eval s = .slice A n c) (hS : Sat w0 w (Row e size A n c xs :: L))
    {B : Option Addr} {m cc : Nat} {news : List Value} (hx : a.eval x = .slice B m cc) (hr : Rd w B m size news) (h1 : ∀ u ∈ news, u.oneCell' = true)
    (h63 : n + m ≤ maxLen) (hbytes : (n + m) * bytes ≤ 140737488355328)
    (h : ∀ A' c' w', Sat w0 w' (Row e size A' (n + m) c' (xs ++ news) :: L) → wpList P ops Q rest (a.put o.dst (.slice A' (n + m) c')) w') : wpList P ops Q (o :: rest) a w :=
  wpList_plain hgd fun _ hK => wp_appS s x t ho e i z size bytes ht hi hz hsize hby hzs hsz hs hS hx hr h1 h63 hbytes fun A' c' w' hS' => hK _ _ (h A' c' w' hS')
theorem step_appS {P : Program} {w0 w : World} {L : List HP} {ops : Array Oper} {o : Oper} {a : Act} {K : Act → World → Prop} {Q : Exit → Act → World → Prop} {E : Prop} (hgd : o.guard = none) (s x : Operand) (t : TypeId)
    (ho : o.op = .call { callee := .builtin .append, args := #[s, x], argTypes := #[t, t] })
    (e : TypeId) (i : TypeInfo) (z : Value) (size bytes : Nat) (ht : P.underlying t = some (.slice e)) (hi : P.info? e = some i) (hz : i.zero = some z)
    (hsize : i.size = size) (hby : i.bytes = bytes) (hzs : z.cells.size = size) (hsz : 0 < size)
    {A : Option Addr} {n c : Nat} {xs : List Value} (hs : a.eval s = .slice A n c) (hS : Sat w0 w (Row e size A n c xs :: L))
    {B : Option Addr} {m cc : Nat} {news : List Value} (hx : a.eval x = .slice B m cc) (hr : Rd w B m size news) (h1 : ∀ u ∈ news, u.oneCell' = true)
    (h63 : n + m ≤ maxLen) (hbytes : (n + m) * bytes ≤ 140737488355328)
    (h : ∀ A' c' w', Sat w0 w' (Row e size A' (n + m) c' (xs ++ news) :: L) → K (a.put o.dst (.slice A' (n + m) c')) w') : if Region.wanted o (yielded ops a.tmps) = true then Oper.wp P o a w K Q else E := by
  rw [if_pos (by simp [Region.wanted, hgd])]
  exact wp_appS s x t ho e i z size bytes ht hi hz hsize hby hzs hsz hs hS hx hr h1 h63 hbytes h
theorem step_app1 {P : Program} {w0 w : World} {L : List HP} {ops : Array Oper} {o : Oper} {a : Act} {K : Act → World → Prop} {Q : Exit → Act → World → Prop} {E : Prop} (hgd : o.guard = none) (s x : Operand) (t : TypeId)
    (ho : o.op = .call { callee := .builtin .append, args := #[s, x], argTypes := #[t, t] })
    (e : TypeId) (i : TypeInfo) (z : Value) (size bytes : Nat) (ht : P.underlying t = some (.slice e)) (hi : P.info? e = some i) (hz : i.zero = some z)
    (hsize : i.size = size) (hby : i.bytes = bytes) (hzs : z.cells.size = size) (hsz : 0 < size)
    {A : Option Addr} {n c tb gb : Nat} {xs news : List Value} (hs : a.eval s = .slice A n c) (hS : Sat w0 w (Blk gb tb news :: Row e size A n c xs :: L))
    {cc : Nat} (hx : a.eval x = .slice (some ⟨gb, 0, none⟩) 1 cc) (hl : news.length = size) (h1 : ∀ u ∈ news, u.oneCell' = true)
    (h63 : n + 1 ≤ maxLen) (hbytes : (n + 1) * bytes ≤ 140737488355328)
    (h : ∀ A' c' w', Sat w0 w' (Row e size A' (n + 1) c' (xs ++ news) :: L) → K (a.put o.dst (.slice A' (n + 1) c')) w') : if Region.wanted o (yielded ops a.tmps) = true then Oper.wp P o a w K Q else E :=
  step_appS hgd s x t ho e i z size bytes ht hi hz hsize hby hzs hsz hs hS.tail hx (hS.rdBlk 1 size (by omega)) h1 h63 hbytes h
/-- append of one element, which lies in a block of its own -/
theorem wpList_app1 {P : Program} {w0 w : World} {L : List HP} {ops : Array Oper} {rest : List Oper} {o : Oper} {a : Act} {Q : Exit → Act → World → Prop} (hgd : o.guard = none) (s x : Operand) (t : TypeId)
    (ho : o.op = .call { callee := .builtin .append, args := #[s, x], argTypes := #[t, t] })
    (e : TypeId) (i : TypeInfo) (z : Value) (size bytes : Nat) (ht : P.underlying t = some (.slice e)) (hi : P.info? e = some i) (hz : i.zero = some z)
    (hsize : i.size = size) (hby : i.bytes = bytes) (hzs : z.cells.size = size) (hsz : 0 < size)
    {A : Option Addr} {n c tb gb : Nat} {xs news : List Value} (hs : a.eval s = .slice A n c) (hS : Sat w0 w (Blk gb tb news :: Row e size A n c xs :: L))
    {cc : Nat} (hx : a.eval x = .slice (some ⟨gb, 0, none⟩) 1 cc) (hl : news.length = size) (h1 : ∀ u ∈ news, u.oneCell' = true)
    (h63 : n + 1 ≤ maxLen) (hbytes : (n + 1) * bytes ≤ 140737488355328)
    (h : ∀ A' c' w', Sat w0 w' (Row e size A' (n + 1) c' (xs ++ news) :: L) → wpList P ops Q rest (a.put o.dst (.slice A' (n + 1) c')) w') : wpList P ops Q (o :: rest) a w :=
  wpList_appS hgd s x t ho e i z size bytes ht hi hz hsize hby hzs hsz hs hS.tail hx (hS.rdBlk 1 size (by omega)) h1 h63 hbytes h
end Go.Proofs.YtjlpgjfgeikdeaaDoor
end

section
/- A row of bytes that a file owns: its words; what 'append' of a text does to it. -/
set_option linter.unusedVariables false
set_option linter.unusedSimpArgs false
set_option linter.unnecessarySimpa false
set_option maxRecDepth 100000
namespace Go.Proofs.YtjlpgjfgeikdeaaDoor
open Go.RowKit Go.ChangeShapes Go.WideShapes Go.ChangeAt
open Go.Lib (strCells strCells_length strCells_oneCell run_firstCells_string run_append_room_string run_append_grow_string)
/-- what a call that writes into the blocks of a set alone leaves -/
structure ChgS (S : Nat → Prop) (w w' : World) : Prop where
  os : w'.os = w.os
  tape : w'.tape = w.tape
  output : w'.output = w.output
  size : w.heap.size ≤ w'.heap.size
  block : ∀ k, k < w.heap.size → ¬ S k → w'.heap[k]? = w.heap[k]?
theorem ChgS.refl (S : Nat → Prop) (w : World) : ChgS S w w := ⟨rfl, rfl, rfl, Nat.le_refl _, fun _ _ _ => rfl⟩
theorem ChgS.trans {S : Nat → Prop} {a b c : World} (h : ChgS S a b) (k : ChgS S b c) : ChgS S a c :=
  ⟨k.os.trans h.os, k.tape.trans h.tape, k.output.trans h.output, Nat.le_trans h.size k.size, fun i hi hg => (k.block i (Nat.lt_of_lt_of_le hi h.size) hg).trans (h.block i hi hg)⟩
theorem ChgS.mono {S T : Nat → Prop} {a b : World} (h : ChgS S a b) (hs : ∀ k, S k → T k ∨ a.heap.size ≤ k) : ChgS T a b :=
  ⟨h.os, h.tape, h.output, h.size, fun k hk hn => h.block k hk fun hS => by rcases hs k hS with h | h; exact hn h; omega⟩
theorem ChgS.of_below {S : Nat → Prop} {w w' : World} (h : Below w.heap.size w w') : ChgS S w w' := ⟨h.os, h.tape, h.output, h.size, fun k hk _ => h.block k hk⟩
theorem ChgS.set {S : Nat → Prop} {a w : World} (h : ChgS S a w) {p : Addr} (hp : S p.block ∨ a.heap.size ≤ p.block) (v : Value) : ChgS S a (w.setCell p v) :=
  ⟨h.os, h.tape, h.output, by simpa using h.size, fun k hk hg => (Below.heap_setCell w p v k (by rintro rfl; rcases hp with hp | hp; exact hg hp; omega)).trans (h.block k hk hg)⟩
theorem ChgS.drewN {S : Nat → Prop} {a w : World} (h : ChgS S a w) (m : Nat) : ChgS S a (w.drewN m) := ⟨h.os, h.tape, h.output, h.size, h.block⟩
theorem ChgS.grown {S : Nat → Prop} {a w w' : World} {r : Option Nat} (h : ChgS S a w) (g : w.grownBy w' r) (hr : ∀ k, r = some k → S k ∨ a.heap.size ≤ k) : ChgS S a w' :=
  ⟨g.os.trans h.os, g.tape.trans h.tape, g.output.trans h.output, Nat.le_trans h.size g.size, fun k hk hn =>
    (g.block k (Nat.lt_of_lt_of_le hk h.size) fun e => by rcases hr k e.symm with h | h; exact hn h; omega).trans (h.block k hk hn)⟩
theorem ChgS.at_ {S : Nat → Prop} {w w' : World} (h : ChgS S w w') {k t : Nat} {vs : List Value} (ha : At w k t vs) (hg : ¬ S k) : At w' k t vs := (h.block k ha.lt hg).trans ha
theorem ChgS.below {S : Nat → Prop} {n : Nat} {w w' : World} (h : ChgS S w w') (hS : ∀ k, S k → n ≤ k) (hn : n ≤ w.heap.size) : Below n w w' :=
  ⟨h.os, h.tape, h.output, h.size, fun k hk => h.block k (by omega) fun hs => by have := hS k hs; omega⟩
/-- a row of bytes: what a file owns -/
def BRow (w : World) (v : Value) (b : ByteArray) : Prop :=
  (v = .slice none 0 0 ∧ b.size = 0) ∨ ∃ g cap cur, v = .slice (some ⟨g, 0, none⟩) b.size cap ∧ w.heap[g]? = some (.cells cur 5 (0, 0)) ∧ b.size ≤ cap ∧ cap ≤ maxLen ∧ cap ≤ cur.size ∧ cur.toList.take b.size = strCells b
theorem BRow.nil (w : World) : BRow w (.slice none 0 0) ⟨#[]⟩ := .inl ⟨rfl, rfl⟩
theorem BRow.slice {w : World} {v : Value} {b : ByteArray} (h : BRow w v b) : ∃ A c, v = .slice A b.size c := by
  rcases h with ⟨rfl, h⟩ | ⟨g, cap, cur, rfl, _⟩
  · exact ⟨_, _, by rw [h]⟩
  · exact ⟨_, _, rfl⟩
theorem BRow.lt {w : World} {v : Value} {b : ByteArray} (h : BRow w v b) : ∀ k, v.ownBlock = some k → k < w.heap.size := by
  intro k hk
  rcases h with ⟨rfl, _⟩ | ⟨g, cap, cur, rfl, hg, _⟩
  · simp [Value.ownBlock] at hk
  · simp [Value.ownBlock] at hk
    subst hk
    exact (Array.getElem?_eq_some_iff.1 hg).1
theorem BRow.kept {w w' : World} {v : Value} {b : ByteArray} (h : BRow w v b) (hk : ∀ k, v.ownBlock = some k → w'.heap[k]? = w.heap[k]?) : BRow w' v b := by
  rcases h with h | ⟨g, cap, cur, rfl, hg, h⟩
  · exact .inl h
  · exact .inr ⟨g, cap, cur, rfl, (hk g rfl).trans hg, h⟩
theorem BRow.grown {w w' : World} {v : Value} {b : ByteArray} {r : Option Nat} (h : BRow w v b) (g : w.grownBy w' r) (hr : ∀ k, v.ownBlock = some k → r ≠ some k) : BRow w' v b :=
  h.kept fun k hk => g.block k (h.lt k hk) fun e => hr k hk e.symm
theorem BRow.chg {S : Nat → Prop} {w w' : World} {v : Value} {b : ByteArray} (h : BRow w v b) (c : ChgS S w w') (hr : ∀ k, v.ownBlock = some k → ¬ S k) : BRow w' v b :=
  h.kept fun k hk => c.block k (h.lt k hk) (hr k hk)
theorem strCells_append (a b : ByteArray) : strCells (a ++ b) = strCells a ++ strCells b := by
  simp [strCells, ByteArray.data_append]
theorem info5 : (Tryd.prog.info? 5).map (fun i => (i.zero, i.size, i.bytes)) = some (some (.int .u8 0), 1, 1) := by kernel_rfl
theorem run_app (w : World) (ty : TypeId) (v : Value) (b : ByteArray) (h : BRow w v b) (s : ByteArray) (hs : b.size + s.size ≤ 1048576) :
    ∃ v' w', (Builtin.append_ #[95, 9] ty #[v, .string s]).run Tryd.prog w = .ok v' w' ∧ BRow w' v' (b ++ s) ∧ w.grownBy w' v.ownBlock ∧ (∀ k, v'.ownBlock = some k → v.ownBlock = some k ∨ w.heap.size ≤ k) := by
  obtain ⟨i, hi, hz, hsz, hby⟩ : ∃ i, Tryd.prog.info? 5 = some i ∧ i.zero = some (.int .u8 0) ∧ i.size = 1 ∧ i.bytes = 1 := info_parts info5
  have ht : Tryd.prog.underlying 95 = some (.slice 5) := Tryd.underlying95
  have hu : Tryd.prog.underlying 9 = some .string := Tryd.underlying9
  have hsb : (b ++ s).size = b.size + s.size := by simp
  have grown : ∀ (old : Nat) (row : Option Nat), old < b.size + s.size →
      BRow (w.drew.alloc (.cells ((strCells b).toArray ++ (strCells s).toArray ++ Builtin.zeroCells (Value.int .u8 0).cells (grownCap w (b.size + s.size) old 5 - (b.size + s.size))) 5)) (.slice (some ⟨w.heap.size, 0, none⟩) (b.size + s.size) (grownCap w (b.size + s.size) old 5)) (b ++ s) ∧
      w.grownBy (w.drew.alloc (.cells ((strCells b).toArray ++ (strCells s).toArray ++ Builtin.zeroCells (Value.int .u8 0).cells (grownCap w (b.size + s.size) old 5 - (b.size + s.size))) 5)) row := by
    intro old row ho
    have hge := grownCap_ge w (b.size + s.size) old 5
    have hcm : grownCap w (b.size + s.size) old 5 ≤ maxLen := grownCap_le_maxLen w (b.size + s.size) old 5 (by unfold maxLen; omega)
    refine ⟨.inr ⟨w.heap.size, _, _, by rw [hsb], Go.heap_alloc_new w.drew _, by omega, hcm, ?_, ?_⟩, ⟨rfl, rfl, rfl, by simp, fun k hk _ => Go.heap_alloc_old w.drew _ hk⟩⟩
    · have hz1 : (Value.int IntKind.u8 0).cells.size = 1 := rfl
      simp only [Array.size_append, List.size_toArray, size_zeroCells, hz1, strCells_length]
      omega
    · simp only [Array.toList_append]
      rw [← strCells_append, ← strCells_length]
      exact List.take_left
  rcases h with ⟨rfl, hb⟩ | ⟨g, cap, cur, rfl, hg, hnc, hcm, hcs, htake⟩
  · have hx : strCells b = [] := List.eq_nil_of_length_eq_zero (by rw [strCells_length]; exact hb)
    by_cases hm : s.size = 0
    · refine ⟨.slice none 0 0, w, ?_, .inl ⟨rfl, by omega⟩, ⟨rfl, rfl, rfl, Nat.le_refl _, fun _ _ _ => rfl⟩, fun k hk => .inl hk⟩
      have hf := run_firstCells_string (P := Tryd.prog) w 1 s
      rw [hm] at hf
      simp [Builtin.append_, run_underlying ht, run_underlying hu, sizeOf, typeInfo, hi, hsz, Builtin.lenOf, hm, hf]
    · have hr := run_append_nil_string (P := Tryd.prog) w 95 9 ty 5 i (.int .u8 0) ht hu hi hz s (by omega) (by omega) (by rw [hby]; omega)
      have hgr := grown 0 (Value.ownBlock (.slice none 0 0)) (by omega)
      rw [hb, hx] at hgr
      have e0 : (#[] : Array Value) ++ (strCells s).toArray = (strCells s).toArray := by simp
      simp only [Nat.zero_add] at hgr
      rw [show ([] : List Value).toArray = #[] from rfl, e0] at hgr
      have e1 : (s.data.map fun b => Value.int .u8 b.toNat) = (strCells s).toArray := by
        apply Array.ext'
        simp [strCells]
      rw [e1] at hr
      exact ⟨_, _, hr, hgr.1, hgr.2, fun k hk => .inr (by simp [Value.ownBlock] at hk; omega)⟩
  · by_cases hroom : b.size + s.size ≤ cap
    · have hr := run_append_room_string (P := Tryd.prog) w 95 9 ty 5 i ht hu hi hsz g b.size cap cur hg s hroom (by omega)
      refine ⟨_, _, hr, .inr ⟨g, cap, _, by rw [hsb], setRow_heap w g cur _ 5 _ hg, by omega, hcm, ?_, ?_⟩, ⟨rfl, rfl, rfl, by simp, fun k _ hk => setRow_other w g k _ (fun e => hk (by simp [Value.ownBlock, e]))⟩, fun k hk => .inl hk⟩
      · simp only [List.size_toArray, List.length_append, List.length_take, List.length_drop, Array.length_toList, strCells_length]
        omega
      · rw [htake, ← strCells_append, ← strCells_length]
        exact List.take_left
    · have holds : ∀ j u, (strCells b)[j]? = some u → w.cell? ((⟨g, 0, none⟩ : Addr).add j) = some u := by
        intro j u hj
        have hadd : (⟨g, 0, none⟩ : Addr).add j = ⟨g, j, none⟩ := by unfold Addr.add; split <;> simp_all
        rw [hadd, cell_of_row w g j cur 5 (0, 0) hg]
        rw [← htake, List.getElem?_take] at hj
        split at hj
        · simpa using hj
        · cases hj
      have hr := run_append_grow_string (P := Tryd.prog) w 95 9 ty 5 i (.int .u8 0) ht hu hi hz ⟨g, 0, none⟩ b.size cap (strCells b) (by rw [hsz, strCells_length, Nat.mul_one]) holds s (by omega) (by omega) (by rw [hby]; exact growslice_fits (by omega) (by omega))
      have hgr := grown cap (Value.ownBlock (.slice (some ⟨g, 0, none⟩) b.size cap)) (by omega)
      exact ⟨_, _, hr, hgr.1, hgr.2, fun k hk => .inr (by simp [Value.ownBlock] at hk; omega)⟩
theorem app_bytes {w : World} {ops : Array Oper} {rest : List Oper} {o : Oper} {a : Act} {Q : Exit → Act → World → Prop} (hgd : o.guard = none) (sl x : Operand)
    (ho : o.op = .call { callee := .builtin .append, args := #[sl, x], argTypes := #[95, 9] })
    (v : Value) (b : ByteArray) (hv : a.eval sl = v) (hb : BRow w v b) (s : ByteArray) (hx : a.eval x = .string s) (hs : b.size + s.size ≤ 1048576)
    (h : ∀ v' w', BRow w' v' (b ++ s) → w.grownBy w' v.ownBlock → (∀ k, v'.ownBlock = some k → v.ownBlock = some k ∨ w.heap.size ≤ k) → wpList Tryd.prog ops Q rest (a.put o.dst v') w') : wpList Tryd.prog ops Q (o :: rest) a w := by
  refine wpList_plain hgd fun K hK => ?_
  obtain ⟨v', w', hr, h2, h3, h4⟩ := run_app w o.type v b hb s hs
  unfold Oper.wp execOp
  simp only [ho, resolve, invoke, builtin, Sem.run_bind, Sem.run_pure, Result.andThen_ok, List.map_toArray, List.map_cons, List.map_nil, hv, hx, hr]
  exact hK _ _ (h v' w' h2 h3 h4)
end Go.Proofs.YtjlpgjfgeikdeaaDoor
end

section
/- What a disk is, in the program and in the document; the small functions of package disk. -/
set_option linter.unusedVariables false
set_option linter.unusedSimpArgs false
set_option linter.unnecessarySimpa false
set_option maxRecDepth 100000
namespace Go.Proofs.YtjlpgjfgeikdeaaDoor
open Go.RowKit Go.ChangeShapes Go.WideShapes Go.ChangeAt
/-- a file: its bytes, how many of them are safe -/
structure MF where
  b : ByteArray
  safe : Nat
/-- a disk: its files, its room -/
structure MD where
  f : Nat → MF
  room : Int
def tail4 (a b c d : MF) : Nat := a.b.size + b.b.size + c.b.size + d.b.size
def MD.used (M : MD) : Nat := (M.f 0).b.size + (M.f 1).b.size + (M.f 2).b.size + (M.f 3).b.size
/-- what every disk that New made keeps -/
def MD.Ok (M : MD) : Prop := 1 ≤ M.room ∧ M.room ≤ 1048576 ∧ (M.used : Int) ≤ M.room ∧ ∀ i, i < 4 → (M.f i).safe ≤ (M.f i).b.size
def freshM (room : Int) : MD := ⟨fun _ => ⟨⟨#[]⟩, 0⟩, room⟩
/-- the cells of a disk whose files' rows are v -/
def cellsD (v : Nat → Value) (M : MD) : List Value := [v 0, .int .i64 (M.f 0).safe, v 1, .int .i64 (M.f 1).safe, v 2, .int .i64 (M.f 2).safe, v 3, .int .i64 (M.f 3).safe, .int .i64 M.room]
def cellsR (M : MD) : List Value := [.string (M.f 0).b, .int .i64 (M.f 0).safe, .string (M.f 1).b, .int .i64 (M.f 1).safe, .string (M.f 2).b, .int .i64 (M.f 2).safe, .string (M.f 3).b, .int .i64 (M.f 3).safe, .int .i64 M.room]
/-- the program's disk -/
structure DiskAt (w : World) (d : Nat) (v : Nat → Value) (M : MD) : Prop where
  at_ : At w d 100 (cellsD v M)
  row : ∀ i, i < 4 → BRow w (v i) (M.f i).b
  off : ∀ i, i < 4 → ∀ k, (v i).ownBlock = some k → k ≠ d
  two : ∀ i j, i < 4 → j < 4 → i ≠ j → ∀ k, (v i).ownBlock = some k → (v j).ownBlock ≠ some k
/-- the blocks that a disk owns -/
def footD (d : Nat) (v : Nat → Value) (k : Nat) : Prop := k = d ∨ ∃ i, i < 4 ∧ (v i).ownBlock = some k
theorem DiskAt.lt {w : World} {d : Nat} {v : Nat → Value} {M : MD} (h : DiskAt w d v M) : ∀ k, footD d v k → k < w.heap.size := by
  rintro k (rfl | ⟨i, hi, hk⟩)
  · exact h.at_.lt
  · exact (h.row i hi).lt k hk
theorem DiskAt.chg {S : Nat → Prop} {w w' : World} {d : Nat} {v : Nat → Value} {M : MD} (h : DiskAt w d v M) (c : ChgS S w w') (hS : ∀ k, footD d v k → ¬ S k) : DiskAt w' d v M :=
  ⟨c.at_ h.at_ (hS d (.inl rfl)), fun i hi => (h.row i hi).chg c fun k hk => hS k (.inr ⟨i, hi, hk⟩), h.off, h.two⟩
theorem DiskAt.keep {w w' : World} {d : Nat} {v : Nat → Value} {M : MD} (h : DiskAt w d v M) (hb : Below w.heap.size w w') : DiskAt w' d v M := h.chg (S := fun _ => False) (.of_below hb) fun _ _ h => h
theorem DiskAt.drewN {w : World} {d : Nat} {v : Nat → Value} {M : MD} (h : DiskAt w d v M) (m : Nat) : DiskAt (w.drewN m) d v M := ⟨h.at_.drewN m, h.row, h.off, h.two⟩
theorem DiskAt.alloc {w : World} {d : Nat} {v : Nat → Value} {M : MD} (h : DiskAt w d v M) (o : Obj) : DiskAt (w.alloc o) d v M := h.keep ((Below.refl _ _).alloc (Nat.le_refl _) o)
theorem new_any (room : Int) (w : World) (h : 1 ≤ room) (h2 : room ≤ 1048576) : Calls Tryd.prog 28 #[.int .i64 room] w fun e w' => e = .returned (.tuple #[.pointer (some ⟨w.heap.size, 0, none⟩), .int .i64 0]) ∧ DiskAt w' w.heap.size (fun _ => .slice none 0 0) (freshM room) ∧ Below w.heap.size w w' := by
  go_enter Tryd.func28, Tryd.ntmps28
  go_wp2
  go_ret2
  refine ⟨rfl, ⟨At.new w 100 _, fun i _ => .inl ⟨rfl, rfl⟩, ?_, ?_⟩, (Below.refl _ _).alloc (Nat.le_refl _) _⟩
  · intro i _ k hk; simp [Value.ownBlock] at hk
  · intro i j _ _ _ k hk; simp [Value.ownBlock] at hk
theorem new_none (room : Int) (w : World) (h : ¬ (1 ≤ room ∧ room ≤ 1048576)) : Calls Tryd.prog 28 #[.int .i64 room] w fun e w' => e = .returned (.tuple #[.pointer none, .int .i64 1]) ∧ w' = w := by
  by_cases h1 : 1 ≤ room
  · have h2 : ¬ room ≤ 1048576 := fun h2 => h ⟨h1, h2⟩
    go_enter Tryd.func28, Tryd.ntmps28
    go_wp2
    go_ret2
    exact ⟨rfl, rfl⟩
  · go_enter Tryd.func28, Tryd.ntmps28
    go_wp2
    go_ret2
    exact ⟨rfl, rfl⟩
theorem rnew_any (room : Int) (w : World) (h : 1 ≤ room) (h2 : room ≤ 1048576) : Calls Tryd.prog 29 #[.int .i64 room] w fun e w' => e = .returned (.tuple #[.pointer (some ⟨w.heap.size, 0, none⟩), .int .i64 0]) ∧ At w' w.heap.size 83 (cellsR (freshM room)) ∧ Below w.heap.size w w' := by
  go_enter Tryd.func29, Tryd.ntmps29
  go_wp2
  go_ret2
  exact ⟨rfl, At.new w 83 _, (Below.refl _ _).alloc (Nat.le_refl _) _⟩
theorem rnew_none (room : Int) (w : World) (h : ¬ (1 ≤ room ∧ room ≤ 1048576)) : Calls Tryd.prog 29 #[.int .i64 room] w fun e w' => e = .returned (.tuple #[.pointer none, .int .i64 1]) ∧ w' = w := by
  by_cases h1 : 1 ≤ room
  · have h2 : ¬ room ≤ 1048576 := fun h2 => h ⟨h1, h2⟩
    go_enter Tryd.func29, Tryd.ntmps29
    go_wp2
    go_ret2
    exact ⟨rfl, rfl⟩
  · go_enter Tryd.func29, Tryd.ntmps29
    go_wp2
    go_ret2
    exact ⟨rfl, rfl⟩
/-- is there a file of that number? -/
def isB (n : Int) : Bool := decide (0 ≤ n) && decide (n < 4)
theorem is_any (n : Int) (w : World) : Calls Tryd.prog 52 #[.int .i64 n] w fun e w' => e = .returned (.bool (isB n)) ∧ w' = w := by
  by_cases h : 0 ≤ n
  · by_cases h2 : n < 4
    · have HE : Hid (isB n = true) := by show _ = _; simp [isB, h, h2]
      go_enter Tryd.func52, Tryd.ntmps52
      go_wp2
      go_ret
      exact ⟨by rw [HE.out]; rfl, rfl⟩
    · have HE : Hid (isB n = false) := by show _ = _; simp [isB, h2]
      go_enter Tryd.func52, Tryd.ntmps52
      go_wp2
      go_ret
      exact ⟨by rw [HE.out]; rfl, rfl⟩
  · have HE : Hid (isB n = false) := by show _ = _; simp [isB, h]
    go_enter Tryd.func52, Tryd.ntmps52
    go_wp2
    go_ret
    exact ⟨by rw [HE.out]; rfl, rfl⟩
theorem of_any (d n : Nat) (w : World) (h : n < 4) : Calls Tryd.prog 43 #[.pointer (some ⟨d, 0, none⟩), .int .i64 n] w fun e w' => e = .returned (.pointer (some ⟨d, n * 2, none⟩)) ∧ w' = w := by
  go_enter Tryd.func43, Tryd.ntmps43
  go_wp2
  go_ret
  exact ⟨rfl, rfl⟩
theorem of_none (d : Nat) (n : Int) (w : World) (h : isB n = false) : Calls Tryd.prog 43 #[.pointer (some ⟨d, 0, none⟩), .int .i64 n] w fun e w' => e = .returned (.pointer none) ∧ w' = w := by
  by_cases h1 : 0 ≤ n
  · have h2 : ¬ n < 4 := fun h2 => by simp [isB, h1, h2] at h
    clear h
    go_enter Tryd.func43, Tryd.ntmps43
    go_wp2
    go_ret
    exact ⟨rfl, rfl⟩
  · clear h
    go_enter Tryd.func43, Tryd.ntmps43
    go_wp2
    go_ret
    exact ⟨rfl, rfl⟩
end Go.Proofs.YtjlpgjfgeikdeaaDoor
end

section
/- The room in use. -/
set_option linter.unusedVariables false
set_option linter.unusedSimpArgs false
set_option linter.unnecessarySimpa false
set_option maxRecDepth 100000
namespace Go.Proofs.YtjlpgjfgeikdeaaDoor
open Go.RowKit Go.ChangeShapes Go.WideShapes Go.ChangeAt
/-- the bytes of the first files -/
def MD.pre (M : MD) : Nat → Nat
  | 0 => 0
  | 1 => (M.f 0).b.size
  | 2 => (M.f 0).b.size + (M.f 1).b.size
  | 3 => (M.f 0).b.size + (M.f 1).b.size + (M.f 2).b.size
  | _ => (M.f 0).b.size + (M.f 1).b.size + (M.f 2).b.size + (M.f 3).b.size
theorem DiskAt.slice {w : World} {d : Nat} {v : Nat → Value} {M : MD} (h : DiskAt w d v M) (i : Nat) (hi : i < 4) : ∃ A c, v i = .slice A (M.f i).b.size c := (h.row i hi).slice
theorem wpList_index61 {ops : Array Oper} {rest : List Oper} {o : Oper} {a : Act} {w : World} {Q : Exit → Act → World → Prop} (hgd : o.guard = none) (x i : Operand)
    (ho : o.op = .index 98 x i) (cs : Array Value) (hx : a.eval x = .agg cs) (k : Nat) (hi : a.eval i = .int .i64 (k : Int)) (hk : k < 4)
    (h : wpList Tryd.prog ops Q rest (a.put o.dst (.agg (cs.extract (k * 2) (k * 2 + 2)))) w) : wpList Tryd.prog ops Q (o :: rest) a w := by
  refine wpList_plain hgd fun K hK => ?_
  have hu : Tryd.prog.underlying 98 = some (.array 4 97) := Tryd.underlying98
  obtain ⟨ti, hti, hs⟩ : ∃ ti, Tryd.prog.info? 97 = some ti ∧ ti.size = 2 := by
    have h : (Tryd.prog.info? 97).map (·.size) = some 2 := by kernel_rfl
    cases e : Tryd.prog.info? 97 with
    | none => rw [e] at h; cases h
    | some ti => rw [e] at h; exact ⟨ti, rfl, by simpa using h⟩
  have hr : (Instr.index 98 (.agg cs) (.int .i64 k)).run Tryd.prog w = .ok (.agg (cs.extract (k * 2) (k * 2 + 2))) w := by
    unfold Instr.index
    simp [run_underlying hu, sizeOf, typeInfo, hti, hs, asIntOf, part, hk]
  unfold Oper.wp execOp
  simp only [ho, resolve, Sem.run_bind, Sem.run_pure, Result.andThen_ok, hx, hi, hr]
  exact hK _ _ h
set_option maxRecDepth 100000 in
theorem used_any (d : Nat) (v : Nat → Value) (M : MD) (w : World) (hD : DiskAt w d v M) (hu : M.used ≤ 1048576) :
    Calls Tryd.prog 21 #[.pointer (some ⟨d, 0, none⟩)] w fun e w' => e = .returned (.int .i64 M.used) ∧ Below w.heap.size w w' := by
  obtain ⟨A0, c0, e0⟩ := hD.slice 0 (by decide)
  obtain ⟨A1, c1, e1⟩ := hD.slice 1 (by decide)
  obtain ⟨A2, c2, e2⟩ := hD.slice 2 (by decide)
  obtain ⟨A3, c3, e3⟩ := hD.slice 3 (by decide)
  have HD := Lib.hid hD.at_
  unfold cellsD at HD
  rw [e0, e1, e2, e3] at HD
  have m0 := HD.out.cell 0
  have m1 := HD.out.cell 1
  have m2 := HD.out.cell 2
  have m3 := HD.out.cell 3
  have m4 := HD.out.cell 4
  have m5 := HD.out.cell 5
  have m6 := HD.out.cell 6
  have m7 := HD.out.cell 7
  unfold MD.used at hu
  clear hD e0 e1 e2 e3 HD
  obtain ⟨b0, hb0⟩ : ∃ x, x = (M.f 0).b.size := ⟨_, rfl⟩
  obtain ⟨b1, hb1⟩ : ∃ x, x = (M.f 1).b.size := ⟨_, rfl⟩
  obtain ⟨b2, hb2⟩ : ∃ x, x = (M.f 2).b.size := ⟨_, rfl⟩
  obtain ⟨b3, hb3⟩ : ∃ x, x = (M.f 3).b.size := ⟨_, rfl⟩
  have HU : Hid (M.used = b0 + b1 + b2 + b3) := by show _ = _; unfold MD.used; rw [hb0, hb1, hb2, hb3]
  have HP : Hid (M.pre 0 = 0 ∧ M.pre 1 = b0 ∧ M.pre 2 = b0 + b1 ∧ M.pre 3 = b0 + b1 + b2 ∧ M.pre 4 = b0 + b1 + b2 + b3) := by
    show _ ∧ _; unfold MD.pre; rw [hb0, hb1, hb2, hb3]; exact ⟨rfl, rfl, rfl, rfl, rfl⟩
  rw [← hb0] at m0 hu
  rw [← hb1] at m2 hu
  rw [← hb2] at m4 hu
  rw [← hb3] at m6 hu
  clear hb0 hb1 hb2 hb3
  generalize ((M.f 0).safe : Int) = s0 at *
  generalize ((M.f 1).safe : Int) = s1 at *
  generalize ((M.f 2).safe : Int) = s2 at *
  generalize ((M.f 3).safe : Int) = s3 at *
  go_enter Tryd.func21, Tryd.ntmps21
  go_wp2
  clear m0 m1 m2 m3 m4 m5 m6 m7
  go_loopw [3, 10] (fun n i wr => ∃ k : Nat, k ≤ 4 ∧ i = .int .i64 k ∧ n = .int .i64 (M.pre k) ∧ Below w.heap.size w wr) (fun _ i _ => 4 - (intOf i).toNat)
  case atStart => exact ⟨0, by omega, rfl, rfl, Below.refl _ _⟩
  case round =>
    obtain ⟨k, hk, rfl, rfl, hb⟩ := hrel
    have HB := Lib.hid hb
    clear hb
    have hcase : k = 0 ∨ k = 1 ∨ k = 2 ∨ k = 3 ∨ k = 4 := by omega
    rcases hcase with rfl | rfl | rfl | rfl | rfl
    · rw [HP.out.1]
      go_wp2_with (refine wpList_index61 rfl _ _ rfl _ rfl 0 rfl (by decide) ?_)
      go_roundw
      case rel => exact ⟨1, by omega, by go_num, by rw [HP.out.2.1];  try go_num, HB.out.alloc HB.out.size _⟩
      case measure => simp [intOf]
    · rw [HP.out.2.1]
      have sw : IntKind.i64.wrap ((b0 : Int) + b1) = b0 + b1 := IntWalk.i64_in _ (by omega)
      go_wp2_with (refine wpList_index61 rfl _ _ rfl _ rfl 1 rfl (by decide) ?_)
      go_roundw
      case rel => exact ⟨2, by omega, by go_num, by rw [HP.out.2.2.1];  try go_num, HB.out.alloc HB.out.size _⟩
      case measure => simp [intOf]
    · rw [HP.out.2.2.1]
      have sw : IntKind.i64.wrap ((b0 : Int) + b1 + b2) = b0 + b1 + b2 := IntWalk.i64_in _ (by omega)
      go_wp2_with (refine wpList_index61 rfl _ _ rfl _ rfl 2 rfl (by decide) ?_)
      go_roundw
      case rel => exact ⟨3, by omega, by go_num, by rw [HP.out.2.2.2.1];  try go_num, HB.out.alloc HB.out.size _⟩
      case measure => simp [intOf]
    · rw [HP.out.2.2.2.1]
      have sw : IntKind.i64.wrap ((b0 : Int) + b1 + b2 + b3) = b0 + b1 + b2 + b3 := IntWalk.i64_in _ (by omega)
      go_wp2_with (refine wpList_index61 rfl _ _ rfl _ rfl 3 rfl (by decide) ?_)
      go_roundw
      case rel => exact ⟨4, by omega, by go_num, by rw [HP.out.2.2.2.2];  try go_num, HB.out.alloc HB.out.size _⟩
      case measure => simp [intOf]
    · rw [HP.out.2.2.2.2]
      go_wp2
      go_ret
      exact ⟨by rw [HU.out]; rfl, HB.out⟩
set_option maxRecDepth 100000 in
theorem rused_any (d : Nat) (M : MD) (w : World) (hD : At w d 83 (cellsR M)) (hu : M.used ≤ 1048576) :
    Calls Tryd.prog 53 #[.pointer (some ⟨d, 0, none⟩)] w fun e w' => e = .returned (.int .i64 M.used) ∧ ∃ n, w' = w.drewN n := by
  have HD := Lib.hid hD
  unfold cellsR at HD
  have m0 := HD.out.cell 0
  have m2 := HD.out.cell 2
  have m4 := HD.out.cell 4
  have m6 := HD.out.cell 6
  unfold MD.used at hu
  clear hD HD
  obtain ⟨b0, hb0⟩ : ∃ x, x = (M.f 0).b := ⟨_, rfl⟩
  obtain ⟨b1, hb1⟩ : ∃ x, x = (M.f 1).b := ⟨_, rfl⟩
  obtain ⟨b2, hb2⟩ : ∃ x, x = (M.f 2).b := ⟨_, rfl⟩
  obtain ⟨b3, hb3⟩ : ∃ x, x = (M.f 3).b := ⟨_, rfl⟩
  have HU : Hid (M.used = b0.size + b1.size + b2.size + b3.size) := by show _ = _; unfold MD.used; rw [hb0, hb1, hb2, hb3]
  have HP : Hid (M.pre 0 = 0 ∧ M.pre 1 = b0.size ∧ M.pre 2 = b0.size + b1.size ∧ M.pre 3 = b0.size + b1.size + b2.size ∧ M.pre 4 = b0.size + b1.size + b2.size + b3.size) := by
    show _ ∧ _; unfold MD.pre; rw [hb0, hb1, hb2, hb3]; exact ⟨rfl, rfl, rfl, rfl, rfl⟩
  rw [← hb0] at m0 hu
  rw [← hb1] at m2 hu
  rw [← hb2] at m4 hu
  rw [← hb3] at m6 hu
  clear hb0 hb1 hb2 hb3
  go_enter Tryd.func53, Tryd.ntmps53
  go_wp2
  go_loopw [3, 4] (fun n i wr => ∃ k : Nat, k ≤ 4 ∧ i = .int .i64 k ∧ n = .int .i64 (M.pre k) ∧ ∃ m, wr = w.drewN m) (fun _ i _ => 4 - (intOf i).toNat)
  case atStart => exact ⟨0, by omega, rfl, rfl, 0, rfl⟩
  case round =>
    obtain ⟨k, hk, rfl, rfl, m, rfl⟩ := hrel
    have hcase : k = 0 ∨ k = 1 ∨ k = 2 ∨ k = 3 ∨ k = 4 := by omega
    rcases hcase with rfl | rfl | rfl | rfl | rfl
    · rw [HP.out.1]
      go_wp2
      go_roundw
      case rel => exact ⟨1, by omega, by go_num, by rw [HP.out.2.1];  try go_num, _, rfl⟩
      case measure => simp [intOf]
    · rw [HP.out.2.1]
      have sw : IntKind.i64.wrap ((b0.size : Int) + b1.size) = b0.size + b1.size := IntWalk.i64_in _ (by omega)
      go_wp2
      go_roundw
      case rel => exact ⟨2, by omega, by go_num, by rw [HP.out.2.2.1];  try go_num, _, rfl⟩
      case measure => simp [intOf]
    · rw [HP.out.2.2.1]
      have sw : IntKind.i64.wrap ((b0.size : Int) + b1.size + b2.size) = b0.size + b1.size + b2.size := IntWalk.i64_in _ (by omega)
      go_wp2
      go_roundw
      case rel => exact ⟨3, by omega, by go_num, by rw [HP.out.2.2.2.1];  try go_num, _, rfl⟩
      case measure => simp [intOf]
    · rw [HP.out.2.2.2.1]
      have sw : IntKind.i64.wrap ((b0.size : Int) + b1.size + b2.size + b3.size) = b0.size + b1.size + b2.size + b3.size := IntWalk.i64_in _ (by omega)
      go_wp2
      go_roundw
      case rel => exact ⟨4, by omega, by go_num, by rw [HP.out.2.2.2.2];  try go_num, _, rfl⟩
      case measure => simp [intOf]
    · rw [HP.out.2.2.2.2]
      go_wp2
      go_ret
      exact ⟨by rw [HU.out]; rfl, _, rfl⟩
end Go.Proofs.YtjlpgjfgeikdeaaDoor
end

section
/- Read, Size, Sync of the program's disk. -/
set_option linter.unusedVariables false
set_option linter.unusedSimpArgs false
set_option linter.unnecessarySimpa false
set_option maxRecDepth 100000
namespace Go.Proofs.YtjlpgjfgeikdeaaDoor
open Go.RowKit Go.ChangeShapes Go.WideShapes Go.ChangeAt
open Go.Lib (strCells strCells_length)
theorem conv_row {w : World} {v : Value} {b : ByteArray} (h : BRow w v b) : (convert 95 9 v).run Tryd.prog w = .ok (.string b) w := by
  have ht : Tryd.prog.underlying 95 = some (.slice 5) := Tryd.underlying95
  have h5 : Tryd.prog.underlying 5 = some (.int .u8) := Tryd.underlying5
  have h9 : Tryd.prog.underlying 9 = some .string := Tryd.underlying9
  rcases h with ⟨rfl, hb⟩ | ⟨g, cap, cur, rfl, hg, hnc, hcm, hcs, htake⟩
  · rw [run_convert_bytes_nil w 95 5 ht h5 0 0 9 h9]
    have : b = ByteArray.empty := ByteArray.size_eq_zero_iff.1 hb
    rw [this]
  · have e := run_convert_bytes_arg (P := Tryd.prog) w 95 5 ht h5 g 0 b.size cap (b.data.toList.map fun x => (x.toNat : Int)) (by rw [List.length_map, Array.length_toList]; rfl) (fun i hi => by
      rw [Nat.zero_add, cell_of_row w g i cur 5 (0, 0) hg]
      have hi' : i < b.data.toList.length := by rw [Array.length_toList]; exact hi
      have h1 : (strCells b)[i]? = some (.int .u8 (b.data.toList[i].toNat : Int)) := by
        unfold strCells
        rw [List.getElem?_map, List.getElem?_eq_getElem hi']; rfl
      rw [← htake, List.getElem?_take, if_pos hi] at h1
      rw [← Array.getElem?_toList, h1]
      simp [List.getD, List.getElem?_eq_getElem hi']) 9 h9
    rw [e]
    congr 2
    unfold strOfNums
    rw [List.map_map]
    have : (fun n : Int => UInt8.ofNat n.toNat) ∘ (fun x : UInt8 => (x.toNat : Int)) = id := by funext x; simp
    rw [this]
    simp
theorem wpList_conv {ops : Array Oper} {rest : List Oper} {o : Oper} {a : Act} {w : World} {Q : Exit → Act → World → Prop} (hgd : o.guard = none) (x : Operand)
    (ho : o.op = .convert 95 9 x) (v : Value) (hx : a.eval x = v) (b : ByteArray) (hb : BRow w v b)
    (h : wpList Tryd.prog ops Q rest (a.put o.dst (.string b)) w) : wpList Tryd.prog ops Q (o :: rest) a w := by
  refine wpList_plain hgd fun K hK => ?_
  have hr := conv_row hb
  unfold Oper.wp execOp
  simp only [ho, resolve, Sem.run_bind, Sem.run_pure, Result.andThen_ok, hx, hr]
  exact hK _ _ h
theorem cellsD_row (v : Nat → Value) (M : MD) (n : Nat) (h : n < 4) : (cellsD v M)[n * 2]? = some (v n) := by
  have : n = 0 ∨ n = 1 ∨ n = 2 ∨ n = 3 := by omega
  rcases this with rfl | rfl | rfl | rfl <;> rfl
theorem cellsD_safe (v : Nat → Value) (M : MD) (n : Nat) (h : n < 4) : (cellsD v M)[n * 2 + 1]? = some (.int .i64 (M.f n).safe) := by
  have : n = 0 ∨ n = 1 ∨ n = 2 ∨ n = 3 := by omega
  rcases this with rfl | rfl | rfl | rfl <;> rfl
theorem cellsR_row (M : MD) (n : Nat) (h : n < 4) : (cellsR M)[n * 2]? = some (.string (M.f n).b) := by
  have : n = 0 ∨ n = 1 ∨ n = 2 ∨ n = 3 := by omega
  rcases this with rfl | rfl | rfl | rfl <;> rfl
theorem cellsR_safe (M : MD) (n : Nat) (h : n < 4) : (cellsR M)[n * 2 + 1]? = some (.int .i64 (M.f n).safe) := by
  have : n = 0 ∨ n = 1 ∨ n = 2 ∨ n = 3 := by omega
  rcases this with rfl | rfl | rfl | rfl <;> rfl
theorem isB_nat {n : Int} (h : isB n = true) : ∃ m : Nat, m < 4 ∧ n = (m : Int) := by
  simp [isB] at h
  exact ⟨n.toNat, by omega, by omega⟩
theorem read_any (d : Nat) (v : Nat → Value) (M : MD) (n : Nat) (w : World) (hn : n < 4) (hD : DiskAt w d v M) :
    Calls Tryd.prog 38 #[.pointer (some ⟨d, 0, none⟩), .int .i64 n] w fun e w' => e = .returned (.tuple #[.string (M.f n).b, .int .i64 0]) ∧ w' = w := by
  have m0 := hD.at_.cell (n * 2)
  rw [cellsD_row v M n hn] at m0
  have HR := Lib.hid (hD.row n hn)
  clear hD
  go_enter Tryd.func38, Tryd.ntmps38
  go_wp2_with fail
  refine (of_any d n _ hn).mono ?_
  rintro e w1 ⟨rfl, rfl⟩
  go_wp2_with (refine wpList_conv rfl _ rfl _ rfl _ HR.out ?_)
  go_ret2
  exact ⟨rfl, rfl⟩
theorem read_none (d : Nat) (n : Int) (w : World) (hn : isB n = false) :
    Calls Tryd.prog 38 #[.pointer (some ⟨d, 0, none⟩), .int .i64 n] w fun e w' => e = .returned (.tuple #[.string ⟨#[]⟩, .int .i64 40]) ∧ w' = w := by
  go_enter Tryd.func38, Tryd.ntmps38
  go_wp2_with fail
  refine (of_none d n _ hn).mono ?_
  rintro e w1 ⟨rfl, rfl⟩
  go_wp2_with fail
  go_ret2
  exact ⟨rfl, rfl⟩
theorem size_any (d : Nat) (v : Nat → Value) (M : MD) (n : Nat) (w : World) (hn : n < 4) (hD : DiskAt w d v M) :
    Calls Tryd.prog 15 #[.pointer (some ⟨d, 0, none⟩), .int .i64 n] w fun e w' => e = .returned (.tuple #[.int .i64 (M.f n).b.size, .int .i64 (M.f n).safe, .int .i64 0]) ∧ ∃ m, w' = w.drewN m := by
  have m0 := hD.at_.cell (n * 2)
  have m1 := hD.at_.cell (n * 2 + 1)
  rw [cellsD_row v M n hn] at m0
  rw [cellsD_safe v M n hn] at m1
  obtain ⟨A, c, hv⟩ := hD.slice n hn
  rw [hv] at m0
  clear hD hv
  go_enter Tryd.func15, Tryd.ntmps15
  go_wp2_with fail
  refine (of_any d n _ hn).mono ?_
  rintro e w1 ⟨rfl, rfl⟩
  go_wp2_with fail
  go_quiet (fail)
  go_wp2
  go_ret3
  exact ⟨rfl, _, rfl⟩
theorem size_none (d : Nat) (n : Int) (w : World) (hn : isB n = false) :
    Calls Tryd.prog 15 #[.pointer (some ⟨d, 0, none⟩), .int .i64 n] w fun e w' => e = .returned (.tuple #[.int .i64 0, .int .i64 0, .int .i64 40]) ∧ w' = w := by
  go_enter Tryd.func15, Tryd.ntmps15
  go_wp2_with fail
  refine (of_none d n _ hn).mono ?_
  rintro e w1 ⟨rfl, rfl⟩
  go_wp2_with fail
  go_ret3
  exact ⟨rfl, rfl⟩
/-- a disk with one file another -/
def MD.set (M : MD) (n : Nat) (x : MF) : MD := ⟨fun i => if i = n then x else M.f i, M.room⟩
def upd (v : Nat → Value) (n : Nat) (x : Value) : Nat → Value := fun i => if i = n then x else v i
theorem cellsD_set_safe (v : Nat → Value) (M : MD) (n : Nat) (h : n < 4) (s : Nat) : (cellsD v M).set (n * 2 + 1) (.int .i64 s) = cellsD v (M.set n ⟨(M.f n).b, s⟩) := by
  have : n = 0 ∨ n = 1 ∨ n = 2 ∨ n = 3 := by omega
  rcases this with rfl | rfl | rfl | rfl <;> simp [cellsD, MD.set]
theorem cellsD_set_row (v : Nat → Value) (M : MD) (n : Nat) (h : n < 4) (x : Value) (b : ByteArray) : (cellsD v M).set (n * 2) x = cellsD (upd v n x) (M.set n ⟨b, (M.f n).safe⟩) := by
  have : n = 0 ∨ n = 1 ∨ n = 2 ∨ n = 3 := by omega
  rcases this with rfl | rfl | rfl | rfl <;> simp [cellsD, MD.set, upd]
theorem DiskAt.setSafe {w : World} {d : Nat} {v : Nat → Value} {M : MD} (h : DiskAt w d v M) (n : Nat) (hn : n < 4) (s : Nat) :
    DiskAt (w.setCell ⟨d, n * 2 + 1, none⟩ (.int .i64 s)) d v (M.set n ⟨(M.f n).b, s⟩) := by
  refine ⟨?_, fun i hi => ?_, h.off, h.two⟩
  · rw [← cellsD_set_safe v M n hn s]; exact h.at_.set _ _
  · have e : ((M.set n ⟨(M.f n).b, s⟩).f i).b = (M.f i).b := by
      unfold MD.set; simp only; split
      · rename_i h; rw [h]
      · rfl
    rw [e]
    exact (h.row i hi).kept fun k hk => Below.heap_setCell w ⟨d, n * 2 + 1, none⟩ _ k (h.off i hi k hk)
theorem sync_any (d : Nat) (v : Nat → Value) (M : MD) (n : Nat) (w : World) (hn : n < 4) (hD : DiskAt w d v M) :
    Calls Tryd.prog 31 #[.pointer (some ⟨d, 0, none⟩), .int .i64 n] w fun e w' => e = .returned (.int .i64 0) ∧ DiskAt w' d v (M.set n ⟨(M.f n).b, (M.f n).b.size⟩) ∧ ChgS (fun k => k = d) w w' := by
  have m0 := hD.at_.cell (n * 2)
  have m1 := hD.at_.cell (n * 2 + 1)
  have f1 := hD.at_.free (n * 2 + 1)
  rw [cellsD_row v M n hn] at m0
  rw [cellsD_safe v M n hn] at m1
  obtain ⟨A, c, hv⟩ := hD.slice n hn
  rw [hv] at m0
  have HD := Lib.hid (hD.setSafe n hn (M.f n).b.size)
  clear hD hv
  go_enter Tryd.func31, Tryd.ntmps31
  go_wp2_with fail
  refine (of_any d n _ hn).mono ?_
  rintro e w1 ⟨rfl, rfl⟩
  go_wp2_with fail
  go_ret
  exact ⟨rfl, HD.out, ChgS.set (S := fun k => k = d) (p := ⟨d, n * 2 + 1, none⟩) (ChgS.refl _ _) (.inl rfl) _⟩
theorem sync_none (d : Nat) (n : Int) (w : World) (hn : isB n = false) :
    Calls Tryd.prog 31 #[.pointer (some ⟨d, 0, none⟩), .int .i64 n] w fun e w' => e = .returned (.int .i64 40) ∧ w' = w := by
  go_enter Tryd.func31, Tryd.ntmps31
  go_wp2_with fail
  refine (of_none d n _ hn).mono ?_
  rintro e w1 ⟨rfl, rfl⟩
  go_wp2_with fail
  go_ret
  exact ⟨rfl, rfl⟩
end Go.Proofs.YtjlpgjfgeikdeaaDoor
end

section
/- Append of the program's disk. -/
set_option linter.unusedVariables false
set_option linter.unusedSimpArgs false
set_option linter.unnecessarySimpa false
set_option maxRecDepth 100000
namespace Go.Proofs.YtjlpgjfgeikdeaaDoor
open Go.RowKit Go.ChangeShapes Go.WideShapes Go.ChangeAt
theorem below_undrew {n : Nat} {w w' : World} (h : Below n w.drew w') : Below n w w' := ⟨h.os, h.tape, h.output, h.size, h.block⟩
theorem DiskAt.setRow {w w' : World} {d : Nat} {v : Nat → Value} {M : MD} (h : DiskAt w d v M) (n : Nat) (hn : n < 4) (x : Value) (b : ByteArray) (hx : BRow w' x b) (g : w.grownBy w' (v n).ownBlock)
    (hb : ∀ k, x.ownBlock = some k → (v n).ownBlock = some k ∨ w.heap.size ≤ k) :
    DiskAt (w'.setCell ⟨d, n * 2, none⟩ x) d (upd v n x) (M.set n ⟨b, (M.f n).safe⟩) := by
  have hdl := h.at_.lt
  have hdn : ∀ k, x.ownBlock = some k → k ≠ d := by
    intro k hk
    rcases hb k hk with hb | hb
    · exact h.off n hn k hb
    · omega
  have keep : ∀ i, i < 4 → i ≠ n → BRow w' (v i) (M.f i).b := fun i hi hne => (h.row i hi).grown g fun k hk e => h.two i n hi hn hne k hk e
  refine ⟨?_, fun i hi => ?_, fun i hi k hk => ?_, fun i j hi hj hne k hk => ?_⟩
  · rw [← cellsD_set_row v M n hn x b]
    refine At.set ?_ _ _
    exact (g.block d hdl (fun e => h.off n hn d e.symm rfl)).trans h.at_
  · have hbr : BRow w' (upd v n x i) ((M.set n ⟨b, (M.f n).safe⟩).f i).b := by
      unfold upd MD.set
      simp only
      split
      · exact hx
      · rename_i hne; exact keep i hi hne
    refine hbr.kept fun k hk => Below.heap_setCell w' ⟨d, n * 2, none⟩ _ k ?_
    unfold upd at hk
    split at hk
    · exact hdn k hk
    · exact h.off i hi k hk
  · unfold upd at hk
    split at hk
    · exact hdn k hk
    · exact h.off i hi k hk
  · unfold upd at hk ⊢
    split at hk
    · rename_i hin
      split
      · omega
      · rename_i hjn
        intro hk2
        rcases hb k hk with hb | hb
        · exact h.two j n hj hn hjn k hk2 hb
        · have := (h.row j hj).lt k hk2
          omega
    · rename_i hin
      split
      · intro hk2
        rcases hb k hk2 with hb | hb
        · exact h.two i n hi hn hin k hk hb
        · have := (h.row i hi).lt k hk
          omega
      · exact h.two i j hi hj hne k hk
/-- a call that changes a disk alone -/
def Works (d : Nat) (v : Nat → Value) (M' : MD) (w w' : World) : Prop :=
  ∃ v', DiskAt w' d v' M' ∧ ChgS (footD d v) w w' ∧ ∀ k, footD d v' k → footD d v k ∨ w.heap.size ≤ k
theorem Works.of {d : Nat} {v : Nat → Value} {M : MD} {w w' : World} (h : DiskAt w' d v M) (c : ChgS (footD d v) w w') : Works d v M w w' := ⟨v, h, c, fun _ hk => .inl hk⟩
theorem foot_upd {d : Nat} {v : Nat → Value} {n : Nat} {x : Value} (hn : n < 4) {N : Nat} (hb : ∀ k, x.ownBlock = some k → (v n).ownBlock = some k ∨ N ≤ k) : ∀ k, footD d (upd v n x) k → footD d v k ∨ N ≤ k := by
  rintro k (rfl | ⟨i, hi, hk⟩)
  · exact .inl (.inl rfl)
  · unfold upd at hk
    split at hk
    · rcases hb k hk with hb | hb
      · exact .inl (.inr ⟨n, hn, hb⟩)
      · exact .inr hb
    · exact .inl (.inr ⟨i, hi, hk⟩)
set_option maxRecDepth 100000 in
theorem append_fits (d : Nat) (v : Nat → Value) (M : MD) (n : Nat) (s : ByteArray) (w : World) (hn : n < 4) (hD : DiskAt w d v M) (hok : M.Ok) (hs : s.size ≤ 9223372036854775807) (hfit : (s.size : Int) ≤ M.room - M.used) :
    Calls Tryd.prog 30 #[.pointer (some ⟨d, 0, none⟩), .int .i64 n, .string s] w fun e w' => e = .returned (.int .i64 0) ∧ Works d v (M.set n ⟨(M.f n).b ++ s, (M.f n).safe⟩) w w' := by
  obtain ⟨hr1, hr2, hr3, _⟩ := hok
  have HD := Lib.hid hD
  have hu : M.used ≤ 1048576 := by omega
  have hbu : (M.f n).b.size + s.size ≤ 1048576 := by
    have : (M.f n).b.size ≤ M.used := by
      have : n = 0 ∨ n = 1 ∨ n = 2 ∨ n = 3 := by omega
      unfold MD.used
      rcases this with rfl | rfl | rfl | rfl <;> omega
    omega
  have m8 : w.cell? ⟨d, 8, none⟩ = some (.int .i64 M.room) := hD.at_.cell 8
  have t : decide (M.room - (M.used : Int) < (s.size : Int)) = false := decide_eq_false (by omega)
  have sw : IntKind.i64.wrap (M.room - (M.used : Int)) = M.room - M.used := IntWalk.i64_in _ (by omega)
  clear hD
  go_enter Tryd.func30, Tryd.ntmps30
  go_wp2_with fail
  refine (of_any d n _ hn).mono ?_
  rintro e w1 ⟨rfl, rfl⟩
  go_wp2_with fail
  go_cut [22] (fun x wx => x = .bool false ∧ DiskAt wx d v M ∧ Below w1.heap.size w1 wx)
  case first =>
    have HDd : Hid (DiskAt w1.drew d v M) := HD.out.drewN 1
    go_region_with (go_at_call 21; refine (used_any d v M w1.drew HDd.out hu).mono ?_; rintro e wb ⟨rfl, hb⟩; have m8b : wb.cell? ⟨d, 8, none⟩ = some (.int .i64 M.room) := (HDd.out.keep hb).at_.cell 8; have HB := Lib.hid hb; clear hb)
    all_goals
      go_wp2_with fail
      go_meet
      exact ⟨rfl, (HDd.out.keep HB.out), below_undrew HB.out⟩
  case rest =>
    obtain ⟨rfl, hD2, hB2⟩ := hcut
    have HD2 := Lib.hid hD2
    have HB2 := Lib.hid hB2
    have n0 := hD2.at_.cell (n * 2)
    rw [cellsD_row v M n hn] at n0
    clear hD2 hB2 m8 t sw
    have HR := Lib.hid (HD2.out.row n hn)
    go_wp2_with (at_builtin; refine app_bytes rfl _ _ rfl _ _ rfl HR.out s rfl hbu ?_; intro v2 w2 hr hg hbl; obtain ⟨A2, c2, hv2⟩ := hr.slice; rw [ByteArray.size_append] at hv2; subst hv2; have HR2 := Lib.hid hr; have HG := Lib.hid hg; have HL := Lib.hid hbl; clear hr hg hbl; have hA2 : At w2 d 100 (cellsD v M) := (HG.out.block d HD2.out.at_.lt (fun e => HD2.out.off n hn d e.symm rfl)).trans HD2.out.at_; have n2 := hA2.cell (n * 2); rw [cellsD_row v M n hn] at n2; have f2 := hA2.free (n * 2); clear hA2)
    go_ret
    refine ⟨rfl, _, HD2.out.setRow n hn _ _ HR2.out HG.out HL.out, ?_, ?_⟩
    · exact ((ChgS.of_below HB2.out).grown HG.out (fun k hk => .inl (.inr ⟨n, hn, hk⟩))).set (p := ⟨d, n * 2, none⟩) (.inl (.inl rfl)) _
    · exact foot_upd hn fun k hk => (HL.out k hk).imp id fun h => Nat.le_trans HB2.out.size h
end Go.Proofs.YtjlpgjfgeikdeaaDoor
end

section
/- Append where there is no room, or no file; and the document's Read, Size, Append, Sync. -/
set_option linter.unusedVariables false
set_option linter.unusedSimpArgs false
set_option linter.unnecessarySimpa false
set_option maxRecDepth 100000
namespace Go.Proofs.YtjlpgjfgeikdeaaDoor
open Go.RowKit Go.ChangeShapes Go.WideShapes Go.ChangeAt
set_option maxRecDepth 100000 in
theorem append_full (d : Nat) (v : Nat → Value) (M : MD) (n : Nat) (s : ByteArray) (w : World) (hn : n < 4) (hD : DiskAt w d v M) (hok : M.Ok) (hs : s.size ≤ 9223372036854775807) (hfit : ¬ (s.size : Int) ≤ M.room - M.used) :
    Calls Tryd.prog 30 #[.pointer (some ⟨d, 0, none⟩), .int .i64 n, .string s] w fun e w' => e = .returned (.int .i64 41) ∧ Works d v M w w' := by
  obtain ⟨hr1, hr2, hr3, _⟩ := hok
  have HD := Lib.hid hD
  have hu : M.used ≤ 1048576 := by omega
  have m8 : w.cell? ⟨d, 8, none⟩ = some (.int .i64 M.room) := hD.at_.cell 8
  have t : decide (M.room - (M.used : Int) < (s.size : Int)) = true := decide_eq_true (by omega)
  have sw : IntKind.i64.wrap (M.room - (M.used : Int)) = M.room - M.used := IntWalk.i64_in _ (by omega)
  clear hD
  go_enter Tryd.func30, Tryd.ntmps30
  go_wp2_with fail
  refine (of_any d n _ hn).mono ?_
  rintro e w1 ⟨rfl, rfl⟩
  go_wp2_with fail
  go_cut [22] (fun x wx => x = .bool true ∧ DiskAt wx d v M ∧ Below w1.heap.size w1 wx)
  case first =>
    have HDd : Hid (DiskAt w1.drew d v M) := HD.out.drewN 1
    go_region_with (go_at_call 21; refine (used_any d v M w1.drew HDd.out hu).mono ?_; rintro e wb ⟨rfl, hb⟩; have m8b : wb.cell? ⟨d, 8, none⟩ = some (.int .i64 M.room) := (HDd.out.keep hb).at_.cell 8; have HB := Lib.hid hb; clear hb)
    all_goals
      go_wp2_with fail
      go_meet
      exact ⟨rfl, (HDd.out.keep HB.out), below_undrew HB.out⟩
  case rest =>
    obtain ⟨rfl, hD2, hB2⟩ := hcut
    have HD2 := Lib.hid hD2
    have HB2 := Lib.hid hB2
    clear hD2 hB2 m8 t sw
    go_wp2_with fail
    go_ret
    exact ⟨rfl, .of HD2.out (.of_below HB2.out)⟩
theorem append_none (d : Nat) (n : Int) (s : ByteArray) (w : World) (hn : isB n = false) :
    Calls Tryd.prog 30 #[.pointer (some ⟨d, 0, none⟩), .int .i64 n, .string s] w fun e w' => e = .returned (.int .i64 40) ∧ w' = w := by
  go_enter Tryd.func30, Tryd.ntmps30
  go_wp2_with fail
  refine (of_none d n _ hn).mono ?_
  rintro e w1 ⟨rfl, rfl⟩
  go_wp2_with fail
  go_ret
  exact ⟨rfl, rfl⟩
theorem isB_of (n : Nat) (h : n < 4) : isB (n : Int) = true := by simp [isB]; omega
theorem rread_any (r : Nat) (M : MD) (n : Nat) (w : World) (hn : n < 4) (hR : At w r 83 (cellsR M)) :
    Calls Tryd.prog 39 #[.pointer (some ⟨r, 0, none⟩), .int .i64 n] w fun e w' => e = .returned (.tuple #[.string (M.f n).b, .int .i64 0]) ∧ w' = w := by
  have m0 := hR.cell (n * 2)
  rw [cellsR_row M n hn] at m0
  have HI := Lib.hid (isB_of n hn)
  clear hR
  go_enter Tryd.func39, Tryd.ntmps39
  go_wp2_with fail
  refine (is_any n _).mono ?_
  rintro e w1 ⟨rfl, rfl⟩
  rw [HI.out]
  go_wp2_with fail
  go_ret2
  exact ⟨rfl, rfl⟩
theorem rread_none (r : Nat) (n : Int) (w : World) (hn : isB n = false) :
    Calls Tryd.prog 39 #[.pointer (some ⟨r, 0, none⟩), .int .i64 n] w fun e w' => e = .returned (.tuple #[.string ⟨#[]⟩, .int .i64 40]) ∧ w' = w := by
  have HI := Lib.hid hn
  clear hn
  go_enter Tryd.func39, Tryd.ntmps39
  go_wp2_with fail
  refine (is_any n _).mono ?_
  rintro e w1 ⟨rfl, rfl⟩
  rw [HI.out]
  go_wp2_with fail
  go_ret2
  exact ⟨rfl, rfl⟩
theorem rsize_any (r : Nat) (M : MD) (n : Nat) (w : World) (hn : n < 4) (hR : At w r 83 (cellsR M)) :
    Calls Tryd.prog 40 #[.pointer (some ⟨r, 0, none⟩), .int .i64 n] w fun e w' => e = .returned (.tuple #[.int .i64 (M.f n).b.size, .int .i64 (M.f n).safe, .int .i64 0]) ∧ ∃ m, w' = w.drewN m := by
  have m0 := hR.cell (n * 2)
  have m1 := hR.cell (n * 2 + 1)
  rw [cellsR_row M n hn] at m0
  rw [cellsR_safe M n hn] at m1
  have HI := Lib.hid (isB_of n hn)
  clear hR
  go_enter Tryd.func40, Tryd.ntmps40
  go_wp2_with fail
  refine (is_any n _).mono ?_
  rintro e w1 ⟨rfl, rfl⟩
  rw [HI.out]
  go_wp2_with fail
  go_quiet (fail)
  go_wp2
  go_ret3
  exact ⟨rfl, _, rfl⟩
theorem rsize_none (r : Nat) (n : Int) (w : World) (hn : isB n = false) :
    Calls Tryd.prog 40 #[.pointer (some ⟨r, 0, none⟩), .int .i64 n] w fun e w' => e = .returned (.tuple #[.int .i64 0, .int .i64 0, .int .i64 40]) ∧ w' = w := by
  have HI := Lib.hid hn
  clear hn
  go_enter Tryd.func40, Tryd.ntmps40
  go_wp2_with fail
  refine (is_any n _).mono ?_
  rintro e w1 ⟨rfl, rfl⟩
  rw [HI.out]
  go_wp2_with fail
  go_ret3
  exact ⟨rfl, rfl⟩
theorem cellsR_set_safe (M : MD) (n : Nat) (h : n < 4) (s : Nat) : (cellsR M).set (n * 2 + 1) (.int .i64 s) = cellsR (M.set n ⟨(M.f n).b, s⟩) := by
  have : n = 0 ∨ n = 1 ∨ n = 2 ∨ n = 3 := by omega
  rcases this with rfl | rfl | rfl | rfl <;> simp [cellsR, MD.set]
theorem cellsR_set_row (M : MD) (n : Nat) (h : n < 4) (b : ByteArray) : (cellsR M).set (n * 2) (.string b) = cellsR (M.set n ⟨b, (M.f n).safe⟩) := by
  have : n = 0 ∨ n = 1 ∨ n = 2 ∨ n = 3 := by omega
  rcases this with rfl | rfl | rfl | rfl <;> simp [cellsR, MD.set]
theorem rsync_any (r : Nat) (M : MD) (n : Nat) (w : World) (hn : n < 4) (hR : At w r 83 (cellsR M)) :
    Calls Tryd.prog 33 #[.pointer (some ⟨r, 0, none⟩), .int .i64 n] w fun e w' => e = .returned (.int .i64 0) ∧ At w' r 83 (cellsR (M.set n ⟨(M.f n).b, (M.f n).b.size⟩)) ∧ Chg r w w' := by
  have m0 := hR.cell (n * 2)
  have m1 := hR.cell (n * 2 + 1)
  have f1 := hR.free (n * 2 + 1)
  rw [cellsR_row M n hn] at m0
  rw [cellsR_safe M n hn] at m1
  have HI := Lib.hid (isB_of n hn)
  have HS := Lib.hid (cellsR_set_safe M n hn (M.f n).b.size ▸ hR.set (n * 2 + 1) (.int .i64 (M.f n).b.size))
  clear hR
  go_enter Tryd.func33, Tryd.ntmps33
  go_wp2_with fail
  refine (is_any n _).mono ?_
  rintro e w1 ⟨rfl, rfl⟩
  rw [HI.out]
  go_wp2_with fail
  go_region
  all_goals
    go_wp2
    go_ret
    exact ⟨rfl, HS.out.drewN 1, ((Chg.refl _ _).set _ _).drew⟩
theorem rsync_none (r : Nat) (n : Int) (w : World) (hn : isB n = false) :
    Calls Tryd.prog 33 #[.pointer (some ⟨r, 0, none⟩), .int .i64 n] w fun e w' => e = .returned (.int .i64 40) ∧ w' = w := by
  have HI := Lib.hid hn
  clear hn
  go_enter Tryd.func33, Tryd.ntmps33
  go_wp2_with fail
  refine (is_any n _).mono ?_
  rintro e w1 ⟨rfl, rfl⟩
  rw [HI.out]
  go_wp2_with fail
  go_ret
  exact ⟨rfl, rfl⟩
theorem fits_size {M : MD} {n : Nat} {s : ByteArray} (hn : n < 4) (hu : M.used ≤ 1048576) (hfit : (s.size : Int) ≤ M.room - M.used) (hr : M.room ≤ 1048576) : (M.f n).b.size + s.size ≤ 1048576 := by
  have : (M.f n).b.size ≤ M.used := by
    have : n = 0 ∨ n = 1 ∨ n = 2 ∨ n = 3 := by omega
    unfold MD.used
    rcases this with rfl | rfl | rfl | rfl <;> omega
  omega
set_option maxRecDepth 100000 in
theorem rappend_fits (r : Nat) (M : MD) (n : Nat) (s : ByteArray) (w : World) (hn : n < 4) (hR : At w r 83 (cellsR M)) (hok : M.Ok) (hs : s.size ≤ 9223372036854775807) (hfit : (s.size : Int) ≤ M.room - M.used) :
    Calls Tryd.prog 32 #[.pointer (some ⟨r, 0, none⟩), .int .i64 n, .string s] w fun e w' => e = .returned (.int .i64 0) ∧ At w' r 83 (cellsR (M.set n ⟨(M.f n).b ++ s, (M.f n).safe⟩)) ∧ Chg r w w' := by
  obtain ⟨hr1, hr2, hr3, _⟩ := hok
  have HR := Lib.hid hR
  have hu : M.used ≤ 1048576 := by omega
  have hbu := fits_size hn hu hfit hr2
  have m8 : w.cell? ⟨r, 8, none⟩ = some (.int .i64 M.room) := hR.cell 8
  have m0 := hR.cell (n * 2)
  have f0 := hR.free (n * 2)
  rw [cellsR_row M n hn] at m0
  have t : decide (M.room - (M.used : Int) < (s.size : Int)) = false := decide_eq_false (by omega)
  have sw : IntKind.i64.wrap (M.room - (M.used : Int)) = M.room - M.used := IntWalk.i64_in _ (by omega)
  have HI := Lib.hid (isB_of n hn)
  have HS := Lib.hid (cellsR_set_row M n hn ((M.f n).b ++ s) ▸ hR.set (n * 2) (.string ((M.f n).b ++ s)))
  clear hR
  go_enter Tryd.func32, Tryd.ntmps32
  go_wp2_with fail
  refine (is_any n _).mono ?_
  rintro e w1 ⟨rfl, rfl⟩
  rw [HI.out]
  go_wp2_with fail
  go_quiet ((go_at_call 53; exact Calls.quiet_of (rused_any r M _ (HR.out.drewN _) hu)))
  go_wp2_with fail
  go_region
  all_goals
    go_wp2
    go_ret
    exact ⟨rfl, HS.out.drewN 1, ((Chg.refl _ _).drewN _).set _ _⟩
end Go.Proofs.YtjlpgjfgeikdeaaDoor
end

section
/- A disk in which something is safe and something is not: law.begun. -/
set_option linter.unusedVariables false
set_option linter.unusedSimpArgs false
set_option linter.unnecessarySimpa false
set_option maxRecDepth 100000
namespace Go.Proofs.YtjlpgjfgeikdeaaDoor
open Go.RowKit Go.ChangeShapes Go.WideShapes Go.ChangeAt
theorem set_set (M : MD) (n : Nat) (x y : MF) : (M.set n x).set n y = M.set n y := by
  unfold MD.set; simp only [MD.mk.injEq, and_true]; funext i; split <;> rfl
theorem fresh_ok {room : Int} (h : 3 ≤ room) (h2 : room ≤ 1048576) : (freshM room).Ok := by
  refine ⟨by show 1 ≤ room; omega, h2, ?_, fun i _ => Nat.le_refl _⟩
  show ((0 : Nat) : Int) ≤ room
  omega
def freshV : Nat → Value := fun _ => .slice none 0 0
theorem foot_fresh {d : Nat} {v : Nat → Value} {B : Nat} (h : ∀ k, footD d v k → B ≤ k) {v' : Nat → Value} {N : Nat} (h2 : ∀ k, footD d v' k → footD d v k ∨ N ≤ k) (hN : B ≤ N) : ∀ k, footD d v' k → B ≤ k := by
  intro k hk
  rcases h2 k hk with h3 | h3
  · exact h k h3
  · omega
end Go.Proofs.YtjlpgjfgeikdeaaDoor
end
