import Derived.Test.YtpmoanjeoaeabaaDoorRows
import Derived.WalkKit
import Derived.KernelRfl
import Derived.Lib.Hide
import Derived.Below
import Derived.OpenShut
import Derived.ProofKit
import Derived.Laws.Cells
import Derived.Laws.Pointers
import Derived.Laws.MakeOwn
import Derived.BigRegion
import Derived.BigQuiet
import Derived.Deep.QuietTactic
import Derived.Deep.RegionWith
import Derived.Deep.RegionHeld
import Derived.Deep.DeepCutAuto
import Derived.OwnWalk
import Derived.WalkSpells
import Derived.Deep.LoopGhost
import Derived.Maps.AppendAt
import Derived.SliceStrings
import Derived.Sort.EncStr
import Derived.Sort.Row
section
/- Words on memory: a block known whole; what may be read and written in it. -/
set_option linter.unusedVariables false
set_option linter.unusedSimpArgs false
set_option linter.unnecessarySimpa false
namespace Go.Proofs.YtpmoanjeoaeabaaDoor
open Go.RowKit Go.ChangeShapes Go.WideShapes Go.ChangeAt
/-- a block, known whole -/
def At (w : World) (g t : Nat) (vs : List Value) : Prop := w.heap[g]? = some (.cells vs.toArray t)
theorem At.lt {w : World} {g t : Nat} {vs : List Value} (h : At w g t vs) : g < w.heap.size := by
  rcases Nat.lt_or_ge g w.heap.size with h' | h'
  · exact h'
  · unfold At at h; simp [Array.getElem?_eq_none h'] at h
theorem At.cell {w : World} {g t : Nat} {vs : List Value} (h : At w g t vs) (i : Nat) : w.cell? ⟨g, i, none⟩ = vs[i]? := by
  unfold At at h; simp [World.cell?, h]
theorem At.free {w : World} {g t : Nat} {vs : List Value} (h : At w g t vs) (i : Nat) : w.frozen? ⟨g, i, none⟩ = false := by
  unfold At at h; simp [World.frozen?, h]
theorem At.set {w : World} {g t : Nat} {vs : List Value} (h : At w g t vs) (i : Nat) (v : Value) : At (w.setCell ⟨g, i, none⟩ v) g t (vs.set i v) := by
  unfold At at h ⊢
  have hl := At.lt (w := w) h
  simp only [World.setCell, Array.getElem?_modify]
  simp [h]
theorem At.far {w : World} {g t : Nat} {vs : List Value} (h : At w g t vs) {p : Addr} (hp : g ≠ p.block) (v : Value) : At (w.setCell p v) g t vs := by
  unfold At at h ⊢; rw [Below.heap_setCell w p v g hp]; exact h
theorem At.below {w w' : World} {n g t : Nat} {vs : List Value} (h : At w g t vs) (hg : g < n) (hb : Below n w w') : At w' g t vs := (hb.block g hg).trans h
theorem At.keep {w w' : World} {g t : Nat} {vs : List Value} (h : At w g t vs) (hb : Below w.heap.size w w') : At w' g t vs := h.below h.lt hb
theorem At.alloc {w : World} {g t : Nat} {vs : List Value} (h : At w g t vs) (o : Obj) : At (w.alloc o) g t vs := h.keep ((Below.refl _ _).alloc (Nat.le_refl _) _)
theorem At.new (w : World) (t : Nat) (cs : Array Value) : At (w.alloc (.cells cs t)) w.heap.size t cs.toList := by
  unfold At; simp [World.alloc, -World.alloc_eq]
theorem At.drewN {w : World} {g t : Nat} {vs : List Value} (h : At w g t vs) (m : Nat) : At (w.drewN m) g t vs := h
theorem below_drewN {n : Nat} {w0 w : World} (h : Below n w0 w) (m : Nat) : Below n w0 (w.drewN m) := ⟨h.os, h.tape, h.output, h.size, h.block⟩
theorem below_step {W w w' : World} (h : Below W.heap.size W w) (h2 : Below w.heap.size w w') : Below W.heap.size W w' := h.trans (h2.mono h.size)
/-- what a call that writes into block g alone leaves -/
structure Chg (g : Nat) (w w' : World) : Prop where
  os : w'.os = w.os
  tape : w'.tape = w.tape
  output : w'.output = w.output
  size : w.heap.size ≤ w'.heap.size
  block : ∀ k, k < w.heap.size → k ≠ g → w'.heap[k]? = w.heap[k]?
theorem Chg.refl (g : Nat) (w : World) : Chg g w w := ⟨rfl, rfl, rfl, Nat.le_refl _, fun _ _ _ => rfl⟩
theorem Chg.trans {g : Nat} {a b c : World} (h : Chg g a b) (k : Chg g b c) : Chg g a c :=
  ⟨k.os.trans h.os, k.tape.trans h.tape, k.output.trans h.output, Nat.le_trans h.size k.size, fun i hi hg => (k.block i (Nat.lt_of_lt_of_le hi h.size) hg).trans (h.block i hi hg)⟩
theorem Chg.of_below {g : Nat} {w w' : World} (h : Below w.heap.size w w') : Chg g w w' := ⟨h.os, h.tape, h.output, h.size, fun k hk _ => h.block k hk⟩
theorem Chg.set {g : Nat} {a w : World} (h : Chg g a w) (i : Nat) (v : Value) : Chg g a (w.setCell ⟨g, i, none⟩ v) :=
  ⟨h.os, h.tape, h.output, by simpa using h.size, fun k hk hg => (Below.heap_setCell w ⟨g, i, none⟩ v k hg).trans (h.block k hk hg)⟩
theorem Chg.alloc {g : Nat} {a w : World} (h : Chg g a w) (o : Obj) : Chg g a (w.alloc o) := h.trans (.of_below ((Below.refl _ _).alloc (Nat.le_refl _) o))
theorem Chg.drewN {g : Nat} {a w : World} (h : Chg g a w) (m : Nat) : Chg g a (w.drewN m) := ⟨h.os, h.tape, h.output, h.size, h.block⟩
theorem Chg.drew {g : Nat} {a w : World} (h : Chg g a w) : Chg g a w.drew := ⟨h.os, h.tape, h.output, h.size, h.block⟩
theorem Chg.new {g : Nat} {a w : World} (h : Chg g a w) {p : Addr} (hp : a.heap.size ≤ p.block) (v : Value) : Chg g a (w.setCell p v) :=
  ⟨h.os, h.tape, h.output, by simpa using h.size, fun k hk hg => (Below.heap_setCell w p v k (by omega)).trans (h.block k hk hg)⟩
theorem Chg.at_ {g : Nat} {w w' : World} (h : Chg g w w') {k t : Nat} {vs : List Value} (ha : At w k t vs) (hg : k ≠ g) : At w' k t vs := (h.block k ha.lt hg).trans ha
theorem Chg.below {g n : Nat} {w w' : World} (h : Chg g w w') (hg : n ≤ g) (hn : n ≤ w.heap.size) : Below n w w' := ⟨h.os, h.tape, h.output, h.size, fun k hk => h.block k (by omega) (by omega)⟩
theorem u32_of {a : Int} (h : (Lit.int .u32 a).wf = true) : ∃ n : Nat, n < 4294967296 ∧ a = (n : Int) := by
  have e1 : IntKind.u32.min = 0 := by decide
  have e2 : IntKind.u32.max = 4294967295 := by decide
  simp [Lit.wf, e1, e2] at h
  exact ⟨a.toNat, by omega, by omega⟩
theorem i64_of {a : Int} (h : (Lit.int .i64 a).wf = true) : -9223372036854775808 ≤ a ∧ a ≤ 9223372036854775807 := by
  have e1 : IntKind.i64.min = -9223372036854775808 := by decide
  have e2 : IntKind.i64.max = 9223372036854775807 := by decide
  simpa [Lit.wf, e1, e2] using h
end Go.Proofs.YtpmoanjeoaeabaaDoor
end

section
/- Words on memory: what stands in it, piece by piece, each piece in blocks of its own. -/
set_option linter.unusedVariables false
set_option linter.unusedSimpArgs false
set_option linter.unnecessarySimpa false
namespace Go.Proofs.YtpmoanjeoaeabaaDoor
open Go.RowKit Go.ChangeShapes Go.WideShapes Go.ChangeAt
/-- a part of memory -/
abbrev Hp := Nat → Option Obj
def Hp.le (a b : Hp) : Prop := ∀ g o, a g = some o → b g = some o
theorem Hp.le.refl (a : Hp) : a.le a := fun _ _ h => h
theorem Hp.le.trans {a b c : Hp} (h : a.le b) (k : b.le c) : a.le c := fun g o e => k g o (h g o e)
/-- what is said of a part -/
def HP := Hp → Prop
/-- the pieces stand in unlike blocks -/
def Splits : Hp → List HP → Prop
  | _, [] => True
  | h, A :: L => ∃ h1 h2 : Hp, h1.le h ∧ h2.le h ∧ (∀ g, h1 g = none ∨ h2 g = none) ∧ A h1 ∧ Splits h2 L
def Hp.or (a b : Hp) : Hp := fun g => match a g with | some o => some o | none => b g
theorem Hp.or_left (a b : Hp) : a.le (a.or b) := fun g o h => by simp [Hp.or, h]
theorem Hp.or_right {a b : Hp} (hd : ∀ g, a g = none ∨ b g = none) : b.le (a.or b) := fun g o h => by
  rcases hd g with e | e
  · simp [Hp.or, e, h]
  · rw [e] at h; cases h
theorem Hp.or_le {a b c : Hp} (h : a.le c) (k : b.le c) : (a.or b).le c := fun g o e => by
  unfold Hp.or at e
  cases ha : a g with
  | some x => rw [ha] at e; exact h g o (ha.trans e)
  | none => rw [ha] at e; exact k g o e
theorem Hp.or_none {a b : Hp} {g : Nat} : a.or b g = none ↔ a g = none ∧ b g = none := by
  unfold Hp.or
  cases ha : a g <;> simp
theorem Hp.le_none {a b : Hp} (h : a.le b) {g : Nat} (e : b g = none) : a g = none := by
  cases ha : a g with
  | none => rfl
  | some o => rw [h g o ha] at e; cases e
theorem Splits.mono {h h' : Hp} (hh : h.le h') : ∀ {L : List HP}, Splits h L → Splits h' L
  | [], _ => trivial
  | _ :: _, ⟨h1, h2, l1, l2, d, a, s⟩ => ⟨h1, h2, l1.trans hh, l2.trans hh, d, a, s⟩
theorem Splits.swap {h : Hp} {A B : HP} {L : List HP} : Splits h (A :: B :: L) → Splits h (B :: A :: L) := by
  rintro ⟨h1, h2, l1, l2, d, a, h3, h4, l3, l4, d2, b, s⟩
  have d14 : ∀ g, h1 g = none ∨ h4 g = none := fun g => (d g).imp id fun e => Hp.le_none l4 e
  refine ⟨h3, h1.or h4, l3.trans l2, Hp.or_le l1 (l4.trans l2), fun g => ?_, b, h1, h4, Hp.or_left _ _, Hp.or_right d14, d14, a, s⟩
  rcases d g with e | e
  · rcases d2 g with e2 | e2
    · exact .inl e2
    · exact .inr (Hp.or_none.2 ⟨e, e2⟩)
  · exact .inl (Hp.le_none l3 e)
theorem Splits.tail {h : Hp} {A : HP} {L : List HP} : Splits h (A :: L) → Splits h L := fun ⟨_, _, _, l2, _, _, s⟩ => s.mono l2
theorem Splits.perm {L M : List HP} (p : L.Perm M) : ∀ {h : Hp}, Splits h L → Splits h M := by
  induction p with
  | nil => exact fun s => s
  | cons A _ ih => rintro h ⟨h1, h2, l1, l2, d, a, s⟩; exact ⟨h1, h2, l1, l2, d, a, ih s⟩
  | swap A B L => exact fun s => s.swap
  | trans _ _ ih1 ih2 => exact fun s => ih2 (ih1 s)
theorem Splits.imp {h : Hp} {A B : HP} {L : List HP} (k : ∀ h, A h → B h) : Splits h (A :: L) → Splits h (B :: L) := fun ⟨h1, h2, l1, l2, d, a, s⟩ => ⟨h1, h2, l1, l2, d, k _ a, s⟩
theorem Splits.mem {A : HP} : ∀ {L : List HP} {h : Hp}, A ∈ L → Splits h L → ∃ h1 : Hp, h1.le h ∧ A h1
  | [], _, m, _ => by cases m
  | B :: L, h, m, ⟨h1, h2, l1, l2, _, a, s⟩ => by
    cases m with
    | head => exact ⟨h1, l1, a⟩
    | tail _ m => obtain ⟨h3, l3, a3⟩ := Splits.mem m s; exact ⟨h3, l3.trans l2, a3⟩
/-- several pieces as one -/
def sep (L : List HP) : HP := fun h => Splits h L
theorem Splits.open_ : ∀ {M L : List HP} {h : Hp}, Splits h (sep M :: L) → Splits h (M ++ L)
  | [], _, _, ⟨_, _, _, l2, _, _, s⟩ => s.mono l2
  | A :: M, L, h, ⟨h1, h2, l1, l2, d, ⟨h3, h4, l3, l4, d2, a, m⟩, s⟩ => by
    have d42 : ∀ g, h4 g = none ∨ h2 g = none := fun g => (d g).imp (fun e => Hp.le_none l4 e) id
    refine ⟨h3, h4.or h2, l3.trans l1, Hp.or_le (l4.trans l1) l2, fun g => ?_, a, Splits.open_ (M := M) ⟨h4, h2, Hp.or_left _ _, Hp.or_right d42, d42, m, s⟩⟩
    rcases d2 g with e | e
    · exact .inl e
    · rcases d g with e2 | e2
      · exact .inl (Hp.le_none l3 e2)
      · exact .inr (Hp.or_none.2 ⟨e, e2⟩)
theorem Splits.close : ∀ {M L : List HP} {h : Hp}, Splits h (M ++ L) → Splits h (sep M :: L)
  | [], _, h, s => ⟨fun _ => none, h, fun _ _ e => by simp at e, Hp.le.refl h, fun _ => .inl rfl, trivial, s⟩
  | A :: M, L, h, ⟨h1, h2, l1, l2, d, a, s⟩ => by
    obtain ⟨h3, h4, l3, l4, d2, m, s⟩ := Splits.close (M := M) s
    have d13 : ∀ g, h1 g = none ∨ h3 g = none := fun g => (d g).imp id fun e => Hp.le_none l3 e
    refine ⟨h1.or h3, h4, Hp.or_le l1 (l3.trans l2), l4.trans l2, fun g => ?_, ⟨h1, h3, Hp.or_left _ _, Hp.or_right d13, d13, a, m⟩, s⟩
    rcases d g with e | e
    · rcases d2 g with e2 | e2
      · exact .inl (Hp.or_none.2 ⟨e, e2⟩)
      · exact .inr e2
    · exact .inr (Hp.le_none l4 e)
def ex {α : Type} (P : α → HP) : HP := fun h => ∃ x, P x h
theorem Splits.open_ex {α : Type} {P : α → HP} {L : List HP} {h : Hp} : Splits h (ex P :: L) → ∃ x, Splits h (P x :: L) := fun ⟨h1, h2, l1, l2, d, ⟨x, a⟩, s⟩ => ⟨x, h1, h2, l1, l2, d, a, s⟩
theorem Splits.close_ex {α : Type} {P : α → HP} {L : List HP} {h : Hp} (x : α) : Splits h (P x :: L) → Splits h (ex P :: L) := fun ⟨h1, h2, l1, l2, d, a, s⟩ => ⟨h1, h2, l1, l2, d, ⟨x, a⟩, s⟩
/-- a piece of which something plain is known -/
def wth (p : Prop) (A : HP) : HP := fun h => p ∧ A h
theorem Splits.open_wth {p : Prop} {A : HP} {L : List HP} {h : Hp} : Splits h (wth p A :: L) → p ∧ Splits h (A :: L) := fun ⟨h1, h2, l1, l2, d, ⟨x, a⟩, s⟩ => ⟨x, h1, h2, l1, l2, d, a, s⟩
theorem Splits.close_wth {p : Prop} {A : HP} {L : List HP} {h : Hp} (x : p) : Splits h (A :: L) → Splits h (wth p A :: L) := fun ⟨h1, h2, l1, l2, d, a, s⟩ => ⟨h1, h2, l1, l2, d, ⟨x, a⟩, s⟩
/-- a block, known whole -/
def BlkO (g : Nat) (o : Obj) : HP := fun h => h g = some o
def Blk (g t : Nat) (vs : List Value) : HP := BlkO g (.cells vs.toArray t)
/-- all that was there when the call began -/
def Old (w0 : World) : HP := fun h => ∀ g, g < w0.heap.size → h g = w0.heap[g]?
def hp (w : World) : Hp := fun g => w.heap[g]?
/-- what stands in memory: pieces, each in blocks of its own; the streams are as they were -/
structure Sat (w0 w : World) (L : List HP) : Prop where
  os : w.os = w0.os
  tape : w.tape = w0.tape
  output : w.output = w0.output
  size : w0.heap.size ≤ w.heap.size
  own : Splits (hp w) L
section
variable {w0 w w' : World} {L M F : List HP} {A B C D E G : HP}
theorem Sat.start (w : World) : Sat w w [Old w] :=
  ⟨rfl, rfl, rfl, Nat.le_refl _, hp w, fun _ => none, Hp.le.refl _, fun _ _ e => by simp at e, fun _ => .inr rfl, fun _ _ => rfl, trivial⟩
theorem Sat.perm (h : Sat w0 w L) (p : L.Perm M) : Sat w0 w M := ⟨h.os, h.tape, h.output, h.size, h.own.perm p⟩
theorem Sat.map (h : Sat w0 w L) (k : ∀ h, Splits h L → Splits h M) : Sat w0 w M := ⟨h.os, h.tape, h.output, h.size, k _ h.own⟩
theorem Sat.tail (h : Sat w0 w (A :: L)) : Sat w0 w L := h.map fun _ => Splits.tail
/-- the second, third .. piece to the front -/
theorem Sat.r2 (h : Sat w0 w (A :: B :: L)) : Sat w0 w (B :: A :: L) := h.map fun _ => Splits.swap
theorem Sat.r3 (h : Sat w0 w (A :: B :: C :: L)) : Sat w0 w (C :: A :: B :: L) := h.perm (((List.Perm.swap C B L).cons A).trans (List.Perm.swap C A (B :: L)))
theorem Sat.r4 (h : Sat w0 w (A :: B :: C :: D :: L)) : Sat w0 w (D :: A :: B :: C :: L) := h.perm ((((List.Perm.swap D C L).cons B).cons A).trans (((List.Perm.swap D B (C :: L)).cons A).trans (List.Perm.swap D A _)))
theorem Sat.r5 (h : Sat w0 w (A :: B :: C :: D :: E :: L)) : Sat w0 w (E :: A :: B :: C :: D :: L) := (h.perm ((((List.Perm.swap E D L).cons C).cons B).cons A)).r4
theorem Sat.r6 (h : Sat w0 w (A :: B :: C :: D :: E :: G :: L)) : Sat w0 w (G :: A :: B :: C :: D :: E :: L) := (h.perm (((((List.Perm.swap G E L).cons D).cons C).cons B).cons A)).r5
/-- the first piece behind the second, third .. -/
theorem Sat.b2 (h : Sat w0 w (A :: B :: L)) : Sat w0 w (B :: A :: L) := h.r2
theorem Sat.b3 (h : Sat w0 w (A :: B :: C :: L)) : Sat w0 w (B :: C :: A :: L) := h.perm ((List.Perm.swap B A _).trans ((List.Perm.swap C A L).cons B))
theorem Sat.b4 (h : Sat w0 w (A :: B :: C :: D :: L)) : Sat w0 w (B :: C :: D :: A :: L) := h.b3.perm (((List.Perm.swap D A L).cons C).cons B)
theorem Sat.b5 (h : Sat w0 w (A :: B :: C :: D :: E :: L)) : Sat w0 w (B :: C :: D :: E :: A :: L) := h.b4.perm ((((List.Perm.swap E A L).cons D).cons C).cons B)
theorem Sat.open_ (h : Sat w0 w (sep M :: L)) : Sat w0 w (M ++ L) := h.map fun _ => Splits.open_
theorem Sat.close (h : Sat w0 w (M ++ L)) : Sat w0 w (sep M :: L) := h.map fun _ => Splits.close
theorem Sat.close2 (h : Sat w0 w (A :: B :: L)) : Sat w0 w (sep [A, B] :: L) := Sat.close (M := [A, B]) h
theorem Sat.close3 (h : Sat w0 w (A :: B :: C :: L)) : Sat w0 w (sep [A, B, C] :: L) := Sat.close (M := [A, B, C]) h
theorem Sat.open_ex {α : Type} {P : α → HP} (h : Sat w0 w (ex P :: L)) : ∃ x, Sat w0 w (P x :: L) := let ⟨x, hx⟩ := h.own.open_ex; ⟨x, h.os, h.tape, h.output, h.size, hx⟩
theorem Sat.close_ex {α : Type} {P : α → HP} (x : α) (h : Sat w0 w (P x :: L)) : Sat w0 w (ex P :: L) := h.map fun _ => Splits.close_ex x
theorem Sat.open_wth {p : Prop} (h : Sat w0 w (wth p A :: L)) : p ∧ Sat w0 w (A :: L) := ⟨h.own.open_wth.1, h.map fun _ s => s.open_wth.2⟩
theorem Sat.close_wth {p : Prop} (x : p) (h : Sat w0 w (A :: L)) : Sat w0 w (wth p A :: L) := h.map fun _ => Splits.close_wth x
theorem Sat.imp (h : Sat w0 w (A :: L)) (k : ∀ h, A h → B h) : Sat w0 w (B :: L) := h.map fun _ => Splits.imp k
theorem Sat.drewN (h : Sat w0 w L) (n : Nat) : Sat w0 (w.drewN n) L := ⟨h.os, h.tape, h.output, h.size, h.own⟩
theorem Sat.drew (h : Sat w0 w L) : Sat w0 w.drew L := ⟨h.os, h.tape, h.output, h.size, h.own⟩
theorem Sat.undrew (h : Sat w0 w.drew L) : Sat w0 w L := ⟨h.os, h.tape, h.output, h.size, h.own⟩
theorem Sat.below (h : Sat w0 w L) (hb : Below w.heap.size w w') : Sat w0 w' L :=
  ⟨hb.os.trans h.os, hb.tape.trans h.tape, hb.output.trans h.output, Nat.le_trans h.size hb.size, h.own.mono fun g o e => (hb.block g (Array.getElem?_eq_some_iff.1 e).1).trans e⟩
theorem Sat.blk {g t : Nat} {vs : List Value} (h : Sat w0 w (Blk g t vs :: L)) : At w g t vs := let ⟨_, _, l1, _, _, a, _⟩ := h.own; l1 _ _ a
theorem Sat.blkO {g : Nat} {o : Obj} (h : Sat w0 w (BlkO g o :: L)) : w.heap[g]? = some o := let ⟨_, _, l1, _, _, a, _⟩ := h.own; l1 _ _ a
theorem Sat.old (h : Sat w0 w L) (m : Old w0 ∈ L) : Below w0.heap.size w0 w := by
  obtain ⟨h1, l1, a⟩ := h.own.mem m
  refine ⟨h.os, h.tape, h.output, h.size, fun k hk => ?_⟩
  have e := a k hk
  rw [Array.getElem?_eq_getElem hk] at e ⊢
  exact l1 k _ e
/-- a block is written -/
theorem Sat.update {g : Nat} {o o' : Obj} (h : Sat w0 w (BlkO g o :: L)) (h1 : w'.os = w.os) (h2 : w'.tape = w.tape) (h3 : w'.output = w.output) (h4 : w.heap.size ≤ w'.heap.size)
    (h5 : w'.heap[g]? = some o') (h6 : ∀ k, k < w.heap.size → k ≠ g → w'.heap[k]? = w.heap[k]?) : Sat w0 w' (BlkO g o' :: L) := by
  refine ⟨h1.trans h.os, h2.trans h.tape, h3.trans h.output, Nat.le_trans h.size h4, ?_⟩
  obtain ⟨a, b, l1, l2, d, e, s⟩ := h.own
  have hbg : b g = none := (d g).resolve_left (by rw [show a g = some o from e]; simp)
  refine ⟨fun k => if k = g then some o' else none, b, fun k x hk => ?_, fun k x hk => ?_, fun k => ?_, by simp [BlkO], s⟩
  · by_cases hkg : k = g
    · subst hkg; simp at hk; subst hk; exact h5
    · simp [hkg] at hk
  · have hkg : k ≠ g := by rintro rfl; rw [hbg] at hk; cases hk
    have := l2 k x hk
    exact (h6 k (Array.getElem?_eq_some_iff.1 this).1 hkg).trans this
  · by_cases hkg : k = g
    · subst hkg; exact .inr hbg
    · exact .inl (by simp [hkg])
theorem Sat.set {g t : Nat} {vs : List Value} (h : Sat w0 w (Blk g t vs :: L)) (i : Nat) (v : Value) : Sat w0 (w.setCell ⟨g, i, none⟩ v) (Blk g t (vs.set i v) :: L) :=
  Sat.update h rfl rfl rfl (by simp) (h.blk.set i v) fun k _ hk => Below.heap_setCell w ⟨g, i, none⟩ v k hk
theorem Sat.chg {g t u : Nat} {vs us : List Value} (h : Sat w0 w (Blk g t vs :: L)) (c : Chg g w w') (a : At w' g u us) : Sat w0 w' (Blk g u us :: L) :=
  Sat.update h c.os c.tape c.output c.size a c.block
theorem Sat.alloc (h : Sat w0 w L) (o : Obj) : Sat w0 (w.alloc o) (BlkO w.heap.size o :: L) := by
  refine ⟨h.os, h.tape, h.output, by have := h.size; simp; omega, fun k => if k = w.heap.size then some o else none, hp w, fun k x hk => ?_, fun k x hk => ?_, fun k => ?_, by simp [BlkO], h.own⟩
  · by_cases e : k = w.heap.size
    · subst e; simp at hk; subst hk; exact heap_alloc_new w o
    · simp [e] at hk
  · exact (heap_alloc_old w o (Array.getElem?_eq_some_iff.1 hk).1).trans hk
  · by_cases e : k = w.heap.size
    · subst e; exact .inr (by simp [hp])
    · exact .inl (by simp [e])
theorem Sat.new (h : Sat w0 w L) (cs : Array Value) (t : Nat) : Sat w0 (w.alloc (.cells cs t)) (Blk w.heap.size t cs.toList :: L) := h.alloc _
theorem old_cell {w w' : World} {p : Addr} {v : Value} (hb : Below w.heap.size w w') (h : w.cell? p = some v) : w'.cell? p = some v := (hb.cell (World.block_lt_of_cell? w _ h)).trans h
theorem Sat.lt {g t : Nat} {vs : List Value} (h : Sat w0 w (Blk g t vs :: L)) : g < w.heap.size := h.blk.lt
end
/-- a row that a slice owns: its n elements of sz cells each -/
def Row (E sz : Nat) (A : Option Addr) (n c : Nat) (xs : List Value) : HP := fun h =>
  xs.length = n * sz ∧ ((A = none ∧ n = 0 ∧ c = 0) ∨ ∃ g cur, A = some ⟨g, 0, none⟩ ∧ h g = some (.cells cur E (0, 0)) ∧ n ≤ c ∧ c ≤ maxLen ∧ cur.size = c * sz ∧ cur.toList.take (n * sz) = xs)
section
variable {w0 w w' : World} {L : List HP} {E sz n c : Nat} {A : Option Addr} {xs : List Value}
theorem Sat.row (h : Sat w0 w (Row E sz A n c xs :: L)) : w.ownsRow 0 E sz (.slice A n c) n xs := by
  obtain ⟨h1, _, l1, _, _, ⟨hl, a⟩, _⟩ := h.own
  refine ⟨hl, ?_⟩
  rcases a with ⟨rfl, rfl, rfl⟩ | ⟨g, cur, rfl, hg, h2, h3, h4, h5⟩
  · exact .inl ⟨rfl, rfl⟩
  · exact .inr ⟨g, c, cur, rfl, Nat.zero_le _, l1 _ _ hg, h2, h3, h4, h5⟩
theorem Sat.nilRow (h : Sat w0 w L) (E sz : Nat) : Sat w0 w (Row E sz none 0 0 [] :: L) :=
  ⟨h.os, h.tape, h.output, h.size, fun _ => none, hp w, fun _ _ e => by simp at e, Hp.le.refl _, fun _ => .inl rfl, ⟨by simp, .inl ⟨rfl, rfl, rfl⟩⟩, h.own⟩
theorem Sat.rowOf {g : Nat} {cur : Array Value} (h : Sat w0 w (BlkO g (.cells cur E (0, 0)) :: L)) (h1 : xs.length = n * sz) (h2 : n ≤ c) (h3 : c ≤ maxLen) (h4 : cur.size = c * sz) (h5 : cur.toList.take (n * sz) = xs) :
    Sat w0 w (Row E sz (some ⟨g, 0, none⟩) n c xs :: L) :=
  h.imp fun _ a => ⟨h1, .inr ⟨g, cur, rfl, a, h2, h3, h4, h5⟩⟩
theorem Sat.rowLen (h : Sat w0 w (Row E sz A n c xs :: L)) : xs.length = n * sz := h.row.1
theorem Sat.rowCap (h : Sat w0 w (Row E sz A n c xs :: L)) : n ≤ c ∧ c ≤ maxLen := by
  obtain ⟨h1, _, _, _, _, ⟨_, a⟩, _⟩ := h.own
  rcases a with ⟨_, rfl, rfl⟩ | ⟨g, cur, _, _, h2, h3, _⟩
  · exact ⟨Nat.le_refl _, Nat.zero_le _⟩
  · exact ⟨h2, h3⟩
theorem Sat.rowNone (h : Sat w0 w (Row E sz none n c xs :: L)) : n = 0 ∧ c = 0 ∧ xs = [] := by
  obtain ⟨h1, _, _, _, _, ⟨hl, a⟩, _⟩ := h.own
  rcases a with ⟨_, rfl, rfl⟩ | ⟨g, cur, e, _⟩
  · exact ⟨rfl, rfl, List.eq_nil_of_length_eq_zero (by simpa using hl)⟩
  · cases e
/-- its block, where there is one -/
theorem Sat.rowBlk {a : Addr} (h : Sat w0 w (Row E sz (some a) n c xs :: L)) : ∃ g cur, a = ⟨g, 0, none⟩ ∧ n ≤ c ∧ c ≤ maxLen ∧ cur.size = c * sz ∧ cur.toList.take (n * sz) = xs ∧ xs.length = n * sz ∧ Sat w0 w (BlkO g (.cells cur E (0, 0)) :: L) := by
  obtain ⟨h1, h2, l1, l2, d, ⟨hl, a⟩, s⟩ := h.own
  rcases a with ⟨e, _⟩ | ⟨g, cur, e, hg, r1, r2, r3, r4⟩
  · cases e
  · cases e
    exact ⟨g, cur, rfl, r1, r2, r3, r4, hl, h.os, h.tape, h.output, h.size, h1, h2, l1, l2, d, hg, s⟩
/-- its cells -/
theorem Sat.rowCell (h : Sat w0 w (Row E sz A n c xs :: L)) (hn : xs ≠ []) : ∃ g, A = some ⟨g, 0, none⟩ ∧ (∀ j, j < xs.length → w.cell? ⟨g, j, none⟩ = xs[j]?) ∧ ∀ j, w.frozen? ⟨g, j, none⟩ = false := by
  cases A with
  | none => exact absurd h.rowNone.2.2 hn
  | some a =>
    obtain ⟨g, cur, rfl, h1, h2, h3, h4, hl, hS⟩ := h.rowBlk
    have hb := hS.blkO
    refine ⟨g, rfl, fun j hj => ?_, fun j => by simp [World.frozen?, hb]⟩
    rw [cell_of_row w g j cur E (0, 0) hb, ← h4, List.getElem?_take, if_pos (by omega)]
    simp
/-- an element is written -/
theorem Sat.rowSet {g : Nat} (h : Sat w0 w (Row E sz (some ⟨g, 0, none⟩) n c xs :: L)) (j : Nat) (v : Value) : Sat w0 (w.setCell ⟨g, j, none⟩ v) (Row E sz (some ⟨g, 0, none⟩) n c (xs.set j v) :: L) := by
  obtain ⟨g', cur, e, h1, h2, h3, h4, hl, hS⟩ := h.rowBlk
  cases e
  have hb := hS.blkO
  have hS2 : Sat w0 (w.setCell ⟨g, j, none⟩ v) (BlkO g (.cells (cur.setIfInBounds j v) E (0, 0)) :: L) :=
    Sat.update hS rfl rfl rfl (by simp) (by simp [World.setCell, Array.getElem?_modify, hb]) fun k _ hk => Below.heap_setCell w ⟨g, j, none⟩ v k hk
  refine hS2.rowOf (by simpa using hl) h1 h2 (by simpa using h3) ?_
  rw [← h4]
  simp [List.take_set]
/-- behind a law that ends in 'grownBy' -/
theorem Sat.rowGrown {A' : Option Addr} {n' c' : Nat} {xs' : List Value} (h : Sat w0 w (Row E sz A n c xs :: L)) (ho : w'.ownsRow 0 E sz (.slice A' n' c') n' xs') (hg : w.grownBy w' (Value.slice A n c).ownBlock)
    (hat : (Value.slice A' n' c').ownBlock = (Value.slice A n c).ownBlock ∨ (Value.slice A' n' c').ownBlock = some w.heap.size) : Sat w0 w' (Row E sz A' n' c' xs' :: L) := by
  obtain ⟨hl, ho⟩ := ho
  have far : Sat w0 w' L := by
    refine ⟨hg.os.trans h.os, hg.tape.trans h.tape, hg.output.trans h.output, Nat.le_trans h.size hg.size, ?_⟩
    obtain ⟨h1, h2, l1, l2, d, ⟨_, a⟩, s⟩ := h.own
    refine s.mono fun k o hk => ?_
    have hk' := l2 k o hk
    refine (hg.block k (Array.getElem?_eq_some_iff.1 hk').1 fun e => ?_).trans hk'
    rcases a with ⟨rfl, _⟩ | ⟨g, cur, rfl, hgg, _⟩
    · simp [Value.ownBlock] at e
    · simp [Value.ownBlock] at e
      subst e
      rcases d k with e2 | e2
      · rw [hgg] at e2; cases e2
      · rw [hk] at e2; cases e2
  rcases ho with ⟨e, rfl⟩ | ⟨g', cap', cur', e, _, hg', r1, r2, r3, r4⟩
  · cases e
    have hx : xs' = [] := List.eq_nil_of_length_eq_zero (by simpa using hl)
    subst hx
    exact far.nilRow E sz
  · cases e
    by_cases hold : (Value.slice A n c).ownBlock = some g'
    · cases A with
      | none => simp [Value.ownBlock] at hold
      | some a =>
        obtain ⟨g, cur, rfl, _, _, _, _, _, hS⟩ := h.rowBlk
        simp [Value.ownBlock] at hold
        subst hold
        exact (Sat.update hS hg.os hg.tape hg.output hg.size hg' fun k hk hne => hg.block k hk (by simp [Value.ownBlock]; omega)).rowOf hl r1 r2 r3 r4
    · have hnew : g' = w.heap.size := by
        rcases hat with e | e
        · exact absurd (e.symm.trans (by simp [Value.ownBlock])) hold
        · simpa [Value.ownBlock] using e
      refine Sat.rowOf (g := g') (cur := cur') ?_ hl r1 r2 r3 r4
      refine ⟨far.os, far.tape, far.output, far.size, ?_⟩
      obtain ⟨h1, h2, l1, l2, d, ⟨_, a⟩, s⟩ := h.own
      refine ⟨fun k => if k = g' then some (.cells cur' E (0, 0)) else none, h2, fun k x hk => ?_, fun k o hk => ?_, fun k => ?_, by simp [BlkO], s⟩
      · by_cases e : k = g'
        · subst e; simp at hk; subst hk; exact hg'
        · simp [e] at hk
      · have hk' := l2 k o hk
        refine (hg.block k (Array.getElem?_eq_some_iff.1 hk').1 fun e => ?_).trans hk'
        rcases a with ⟨rfl, _⟩ | ⟨g, cur, rfl, hgg, _⟩
        · simp [Value.ownBlock] at e
        · simp [Value.ownBlock] at e
          subst e
          rcases d k with e2 | e2
          · rw [hgg] at e2; cases e2
          · rw [hk] at e2; cases e2
      · by_cases e : k = g'
        · subst e
          refine .inr ?_
          cases hh : h2 k with
          | none => rfl
          | some o => have := l2 k o hh; rw [hp, hnew] at this; simp at this
        · exact .inl (by simp [e])
end
/-- append onto a row that is owned -/
theorem wp_app {P : Program} {w0 w : World} {L : List HP} {o : Oper} {a : Act} {K : Act → World → Prop} {Q : Exit → Act → World → Prop} (s x : Operand) (t : TypeId)
    (ho : o.op = .call { callee := .builtin .append, args := #[s, x], argTypes := #[t, t] })
    (e : TypeId) (i : TypeInfo) (z : Value) (size bytes : Nat) (ht : P.underlying t = some (.slice e)) (hi : P.info? e = some i) (hz : i.zero = some z)
    (hsize : i.size = size) (hby : i.bytes = bytes) (hzs : z.cells.size = size) (hsz : 0 < size)
    {A : Option Addr} {n c : Nat} {xs : List Value} (hs : a.eval s = .slice A n c) (hS : Sat w0 w (Row e size A n c xs :: L))
    (ad : Addr) (m cc : Nat) (news : List Value) (hx : a.eval x = .slice (some ad) m cc) (hl : news.length = m * size) (hnews : ∀ j u, news[j]? = some u → w.cell? (ad.add j) = some u) (h1 : ∀ u ∈ news, u.oneCell' = true)
    (h63 : n + m ≤ maxLen) (hbytes : (n + m) * bytes ≤ 140737488355328)
    (h : ∀ A' c' w', Sat w0 w' (Row e size A' (n + m) c' (xs ++ news) :: L) → K (a.put o.dst (.slice A' (n + m) c')) w') : o.wp P a w K Q := by
  obtain ⟨v', w', hr, h2, h3, h4, h5⟩ := run_append_own_at (P := P) w 0 t o.type e i z size bytes ht hi hz hsize hby hzs hsz (.slice A n c) n xs hS.row ad m cc news hl hnews h1 h63 hbytes (Nat.zero_le _)
  unfold Oper.wp execOp
  simp only [ho, resolve, invoke, builtin, Sem.run_bind, Sem.run_pure, Result.andThen_ok, List.map_toArray, List.map_cons, List.map_nil, hs, hx, hr]
  have hf : ∃ A' c', v' = .slice A' (n + m) c' := by
    rcases h2.2 with ⟨rfl, e⟩ | ⟨g, cap, cur, rfl, _⟩
    · exact ⟨_, _, by rw [e]⟩
    · exact ⟨_, _, rfl⟩
  obtain ⟨A', c', rfl⟩ := hf
  exact h A' c' w' (hS.rowGrown h2 h3 h5)
/-- a slice that can be read: its cells -/
def Rd (w : World) (B : Option Addr) (m sz : Nat) (ys : List Value) : Prop :=
  ys.length = m * sz ∧ ∀ j u, ys[j]? = some u → ∃ ad : Addr, B = some ad ∧ w.cell? (ad.add j) = some u
theorem Rd.below {w w' : World} {B : Option Addr} {m sz : Nat} {ys : List Value} (h : Rd w B m sz ys) (hb : Below w.heap.size w w') : Rd w' B m sz ys := by
  refine ⟨h.1, fun j u hu => ?_⟩
  obtain ⟨ad, e, hc⟩ := h.2 j u hu
  exact ⟨ad, e, (hb.cell (World.block_lt_of_cell? w _ hc)).trans hc⟩
theorem Rd.drewN {w : World} {B : Option Addr} {m sz : Nat} {ys : List Value} (h : Rd w B m sz ys) (n : Nat) : Rd (w.drewN n) B m sz ys := h
theorem Sat.rd {w0 w : World} {L : List HP} {E sz n c : Nat} {A : Option Addr} {xs : List Value} (h : Sat w0 w (Row E sz A n c xs :: L)) : Rd w A n sz xs := by
  refine ⟨h.rowLen, fun j u hu => ?_⟩
  have hn : xs ≠ [] := by rintro rfl; simp at hu
  obtain ⟨g, rfl, hc, _⟩ := h.rowCell hn
  have hj := (List.getElem?_eq_some_iff.1 hu).1
  refine ⟨_, rfl, ?_⟩
  have : (⟨g, 0, none⟩ : Addr).add j = ⟨g, j, none⟩ := by unfold Addr.add; split <;> simp_all
  rw [this, hc j hj, hu]
theorem Sat.rdBlk {w0 w : World} {L : List HP} {g t : Nat} {ys : List Value} (h : Sat w0 w (Blk g t ys :: L)) (m sz : Nat) (hl : ys.length = m * sz) : Rd w (some ⟨g, 0, none⟩) m sz ys := by
  refine ⟨hl, fun j u hu => ⟨_, rfl, ?_⟩⟩
  have : (⟨g, 0, none⟩ : Addr).add j = ⟨g, j, none⟩ := by unfold Addr.add; split <;> simp_all
  rw [this, h.blk.cell j, hu]
theorem run_app0 {P : Program} (w : World) (t ty e : TypeId) (i : TypeInfo) (ht : P.underlying t = some (.slice e)) (hi : P.info? e = some i) (A B : Option Addr) (n c cc : Nat) (hnc : n ≤ c) :
    (Builtin.append_ #[t, t] ty #[.slice A n c, .slice B 0 cc]).run P w = .ok (.slice A n c) w := by
  cases A <;> cases B <;> simp [Builtin.append_, run_underlying ht, sizeOf, typeInfo, hi, Builtin.lenOf, Builtin.firstCells, loadCells, loadCellsFrom, storeCells, hnc]
/-- append of whatever can be read onto a row that is owned -/
theorem wp_appS {P : Program} {w0 w : World} {L : List HP} {o : Oper} {a : Act} {K : Act → World → Prop} {Q : Exit → Act → World → Prop} (s x : Operand) (t : TypeId)
    (ho : o.op = .call { callee := .builtin .append, args := #[s, x], argTypes := #[t, t] })
    (e : TypeId) (i : TypeInfo) (z : Value) (size bytes : Nat) (ht : P.underlying t = some (.slice e)) (hi : P.info? e = some i) (hz : i.zero = some z)
    (hsize : i.size = size) (hby : i.bytes = bytes) (hzs : z.cells.size = size) (hsz : 0 < size)
    {A : Option Addr} {n c : Nat} {xs : List Value} (hs : a.eval s = .slice A n c) (hS : Sat w0 w (Row e size A n c xs :: L))
    {B : Option Addr} {m cc : Nat} {news : List Value} (hx : a.eval x = .slice B m cc) (hr : Rd w B m size news) (h1 : ∀ u ∈ news, u.oneCell' = true)
    (h63 : n + m ≤ maxLen) (hbytes : (n + m) * bytes ≤ 140737488355328)
    (h : ∀ A' c' w', Sat w0 w' (Row e size A' (n + m) c' (xs ++ news) :: L) → K (a.put o.dst (.slice A' (n + m) c')) w') : o.wp P a w K Q := by
  cases m with
  | zero =>
    have hn : news = [] := List.eq_nil_of_length_eq_zero (by simpa using hr.1)
    subst hn
    have hrun := run_app0 (P := P) w t o.type e i ht hi A B n c cc hS.rowCap.1
    unfold Oper.wp execOp
    simp only [ho, resolve, invoke, builtin, Sem.run_bind, Sem.run_pure, Result.andThen_ok, List.map_toArray, List.map_cons, List.map_nil, hs, hx, hrun]
    exact h A c w (by simpa using hS)
  | succ m =>
    have hne : ∃ u, news[0]? = some u := by
      have : 0 < news.length := by rw [hr.1]; exact Nat.mul_pos (by omega) hsz
      exact ⟨_, List.getElem?_eq_getElem this⟩
    obtain ⟨u, hu⟩ := hne
    obtain ⟨ad, rfl, _⟩ := hr.2 0 u hu
    refine wp_app s x t ho e i z size bytes ht hi hz hsize hby hzs hsz hs hS ad (m + 1) cc news hx hr.1 (fun j u hu => ?_) h1 h63 hbytes h
    obtain ⟨ad', e', hc⟩ := hr.2 j u hu
    cases e'
    exact hc
theorem wpList_appS {P : Program} {w0 w : World} {L : List HP} {ops : Array Oper} {rest : List Oper} {o : Oper} {a : Act} {Q : Exit → Act → World → Prop} (hgd : o.guard = none) (s x : Operand) (t : TypeId)
    (ho : o.op = .call { callee := .builtin .append, args := #[s, x], argTypes := #[t, t] })
    (e : TypeId) (i : TypeInfo) (z : Value) (size bytes : Nat) (ht : P.underlying t = some (.slice e)) (hi : P.info? e = some i) (hz : i.zero = some z)
    (hsize : i.size = size) (hby : i.bytes = bytes) (hzs : z.cells.size = size) (hsz : 0 < size)
    {A : Option Addr} {n c : Nat} {xs : List Value} (hs : a.eval s = .slice A n c) (hS : Sat w0 w (Row e size A n c xs :: L))
    {B : Option Addr} {m cc : Nat} {news : List Value} (hx : a.eval x = .slice B m cc) (hr : Rd w B m size news) (h1 : ∀ u ∈ news, u.oneCell' = true)
    (h63 : n + m ≤ maxLen) (hbytes : (n + m) * bytes ≤ 140737488355328)
    (h : ∀ A' c' w', Sat w0 w' (Row e size A' (n + m) c' (xs ++ news) :: L) → wpList P ops Q rest (a.put o.dst (.slice A' (n + m) c')) w') : wpList P ops Q (o :: rest) a w :=
  wpList_plain hgd fun _ hK => wp_appS s x t ho e i z size bytes ht hi hz hsize hby hzs hsz hs hS hx hr h1 h63 hbytes fun A' c' w' hS' => hK _ _ (h A' c' w' hS')
theorem step_appS {P : Program} {w0 w : World} {L : List HP} {ops : Array Oper} {o : Oper} {a : Act} {K : Act → World → Prop} {Q : Exit → Act → World → Prop} {E : Prop} (hgd : o.guard = none) (s x : Operand) (t : TypeId)
    (ho : o.op = .call { callee := .builtin .append, args := #[s, x], argTypes := #[t, t] })
    (e : TypeId) (i : TypeInfo) (z : Value) (size bytes : Nat) (ht : P.underlying t = some (.slice e)) (hi : P.info? e = some i) (hz : i.zero = some z)
    (hsize : i.size = size) (hby : i.bytes = bytes) (hzs : z.cells.size = size) (hsz : 0 < size)
    {A : Option Addr} {n c : Nat} {xs : List Value} (hs : a.eval s = .slice A n c) (hS : Sat w0 w (Row e size A n c xs :: L))
    {B : Option Addr} {m cc : Nat} {news : List Value} (hx : a.eval x = .slice B m cc) (hr : Rd w B m size news) (h1 : ∀ u ∈ news, u.oneCell' = true)
    (h63 : n + m ≤ maxLen) (hbytes : (n + m) * bytes ≤ 140737488355328)
    (h : ∀ A' c' w', Sat w0 w' (Row e size A' (n + m) c' (xs ++ news) :: L) → K (a.put o.dst (.slice A' (n + m) c')) w') : if Region.wanted o (yielded ops a.tmps) = true then Oper.wp P o a w K Q else E := by
  rw [if_pos (by simp [Region.wanted, hgd])]
  exact wp_appS s x t ho e i z size bytes ht hi hz hsize hby hzs hsz hs hS hx hr h1 h63 hbytes h
theorem step_app1 {P : Program} {w0 w : World} {L : List HP} {ops : Array Oper} {o : Oper} {a : Act} {K : Act → World → Prop} {Q : Exit → Act → World → Prop} {E : Prop} (hgd : o.guard = none) (s x : Operand) (t : TypeId)
    (ho : o.op = .call { callee := .builtin .append, args := #[s, x], argTypes := #[t, t] })
    (e : TypeId) (i : TypeInfo) (z : Value) (size bytes : Nat) (ht : P.underlying t = some (.slice e)) (hi : P.info? e = some i) (hz : i.zero = some z)
    (hsize : i.size = size) (hby : i.bytes = bytes) (hzs : z.cells.size = size) (hsz : 0 < size)
    {A : Option Addr} {n c tb gb : Nat} {xs news : List Value} (hs : a.eval s = .slice A n c) (hS : Sat w0 w (Blk gb tb news :: Row e size A n c xs :: L))
    {cc : Nat} (hx : a.eval x = .slice (some ⟨gb, 0, none⟩) 1 cc) (hl : news.length = size) (h1 : ∀ u ∈ news, u.oneCell' = true)
    (h63 : n + 1 ≤ maxLen) (hbytes : (n + 1) * bytes ≤ 140737488355328)
    (h : ∀ A' c' w', Sat w0 w' (Row e size A' (n + 1) c' (xs ++ news) :: L) → K (a.put o.dst (.slice A' (n + 1) c')) w') : if Region.wanted o (yielded ops a.tmps) = true then Oper.wp P o a w K Q else E :=
  step_appS hgd s x t ho e i z size bytes ht hi hz hsize hby hzs hsz hs hS.tail hx (hS.rdBlk 1 size (by omega)) h1 h63 hbytes h
/-- append of one element, which lies in a block of its own -/
theorem wpList_app1 {P : Program} {w0 w : World} {L : List HP} {ops : Array Oper} {rest : List Oper} {o : Oper} {a : Act} {Q : Exit → Act → World → Prop} (hgd : o.guard = none) (s x : Operand) (t : TypeId)
    (ho : o.op = .call { callee := .builtin .append, args := #[s, x], argTypes := #[t, t] })
    (e : TypeId) (i : TypeInfo) (z : Value) (size bytes : Nat) (ht : P.underlying t = some (.slice e)) (hi : P.info? e = some i) (hz : i.zero = some z)
    (hsize : i.size = size) (hby : i.bytes = bytes) (hzs : z.cells.size = size) (hsz : 0 < size)
    {A : Option Addr} {n c tb gb : Nat} {xs news : List Value} (hs : a.eval s = .slice A n c) (hS : Sat w0 w (Blk gb tb news :: Row e size A n c xs :: L))
    {cc : Nat} (hx : a.eval x = .slice (some ⟨gb, 0, none⟩) 1 cc) (hl : news.length = size) (h1 : ∀ u ∈ news, u.oneCell' = true)
    (h63 : n + 1 ≤ maxLen) (hbytes : (n + 1) * bytes ≤ 140737488355328)
    (h : ∀ A' c' w', Sat w0 w' (Row e size A' (n + 1) c' (xs ++ news) :: L) → wpList P ops Q rest (a.put o.dst (.slice A' (n + 1) c')) w') : wpList P ops Q (o :: rest) a w :=
  wpList_appS hgd s x t ho e i z size bytes ht hi hz hsize hby hzs hsz hs hS.tail hx (hS.rdBlk 1 size (by omega)) h1 h63 hbytes h
end Go.Proofs.YtpmoanjeoaeabaaDoor
end

section
/- What the reading of arguments gives: slices of records, arrays, records. -/
set_option linter.unusedVariables false
set_option linter.unusedSimpArgs false
set_option linter.unnecessarySimpa false
namespace Go.Proofs.YtpmoanjeoaeabaaDoor
open Go.RowKit Go.ChangeShapes Go.WideShapes Go.ChangeAt
/-- a slice of records of sz cells each -/
def Elems (w : World) (v : Value) (sz : Nat) (L : List (List Value)) : Prop :=
  ∃ (A : Option Addr) (c : Nat), v = .slice A L.length c ∧ L.length ≤ c ∧ c ≤ maxLen ∧ (∀ x ∈ L, x.length = sz) ∧
    (L = [] ∨ ∃ b o, A = some ⟨b, o, none⟩ ∧ ∀ i, i < L.length → ∀ j, j < sz → w.cell? ⟨b, o + i * sz + j, none⟩ = (L.getD i [])[j]?)
theorem Elems.keep {w w' : World} {v : Value} {sz : Nat} {L : List (List Value)} (h : Elems w v sz L) (hb : Below w.heap.size w w') : Elems w' v sz L := by
  obtain ⟨A, c, e, hc, hm, hl, h⟩ := h
  refine ⟨A, c, e, hc, hm, hl, h.imp id ?_⟩
  rintro ⟨b, o, rfl, hcell⟩
  refine ⟨b, o, rfl, fun i hi j hj => (hb.cell ?_).trans (hcell i hi j hj)⟩
  have h0 := hcell i hi j hj
  show b < w.heap.size
  rcases Nat.lt_or_ge b w.heap.size with h' | h'
  · exact h'
  · have hx : (L.getD i []).length = sz := hl _ (by rw [← List.getElem_eq_getD (h := hi)]; exact List.getElem_mem _)
    rw [List.getElem?_eq_getElem (by omega)] at h0
    simp [World.cell?, Array.getElem?_eq_none h'] at h0
theorem Elems.at_ {w : World} {A : Option Addr} {n c sz : Nat} {L : List (List Value)} (h : Elems w (.slice A n c) sz L) : n = L.length ∧ L.length ≤ maxLen ∧
    (0 < L.length → ∃ b o, A = some ⟨b, o, none⟩ ∧ ∀ i, i < L.length → ∀ j, j < sz → w.cell? ⟨b, o + i * sz + j, none⟩ = (L.getD i [])[j]?) := by
  obtain ⟨A', c', e, hc, hm, hl, h⟩ := h
  injection e with e1 e2 e3
  subst e1 e2 e3
  refine ⟨rfl, by omega, fun hp => ?_⟩
  rcases h with rfl | h
  · simp at hp
  · exact h
theorem elems_of {H : Type} {enc : TypeId × Value → H} {P : Program} {W : World} {base : Nat} {spare : Nat → Bool} {held : Bool} {t e : TypeId} {a : Option Addr} {len cap sz : Nat} {d : DataW H} {ps : List MemPlace}
    (hu : P.underlying t = some (.slice e)) (hc : P.cellsOf e = sz) (hs : 0 < sz) (h : DataW.Trod enc P W base spare held t (.slice a len cap) d ps) :
    ∃ (L : List (List Value)) (ys rs : List (DataW H)), Elems W (.slice a len cap) sz L ∧ ys.length = L.length ∧ ((L = [] ∧ d = .nil) ∨ d = .slice ys rs) ∧
      ∀ i, i < L.length → ∃ m p, DataW.trod enc P W base spare held m e (L.getD i []) = some (ys.getD i .nil, p) := by
  obtain ⟨fuel, hf⟩ := h
  rcases DataW.trod_slice hu hf with ⟨h0, hx⟩ | ⟨x, l, c, elems, rest, n, _, hcs, hx, hb, hl, hm, hlen, hel, _, _⟩
  · simp [Value.cells] at h0
    obtain ⟨rfl, rfl, rfl⟩ := h0
    injection hx with hx _
    exact ⟨[], [], [], ⟨none, 0, rfl, Nat.le_refl _, Nat.zero_le _, by simp, .inl rfl⟩, rfl, .inl ⟨rfl, hx⟩, by simp⟩
  · simp [Value.cells] at hcs
    obtain ⟨rfl, rfl, rfl⟩ := hcs
    injection hx with hx _
    have each : ∀ i, i < len → ∃ cs y, W.cells? base (x.add (i * sz)) sz = some cs ∧ DataW.trod enc P W base spare held n e cs = some y ∧ elems[i]? = some y := by
      intro i hi
      have h1 := hel i hi
      have h2 : ∃ y, elems[i]? = some y := ⟨elems[i]'(by omega), by simp [hlen, hi]⟩
      obtain ⟨y, hy⟩ := h2
      rw [hy, hc, Option.bind_eq_some_iff] at h1
      obtain ⟨cs, h3, h4⟩ := h1
      exact ⟨cs, y, h3, h4, hy⟩
    have hL : ∃ L : List (List Value), L.length = len ∧ ∀ i, i < len → W.cells? base (x.add (i * sz)) sz = some (L.getD i []) := by
      refine ⟨(List.range len).map fun i => (W.cells? base (x.add (i * sz)) sz).getD [], by simp, fun i hi => ?_⟩
      obtain ⟨cs, y, h1, _⟩ := each i hi
      simp [List.getD, hi, h1]
    obtain ⟨L, hLl, hL⟩ := hL
    have hlenx : ∀ z ∈ L, z.length = sz := by
      intro z hz
      obtain ⟨i, hi, rfl⟩ := List.getElem_of_mem hz
      have h1 := hL i (by omega)
      rw [← List.getElem_eq_getD (h := hi)] at h1
      exact (World.cells?_some h1).2.1
    refine ⟨L, elems.map (·.1), rest.map (·.1), ⟨some x, cap, by rw [hLl], by omega, hm, hlenx, ?_⟩, by rw [List.length_map]; omega, .inr hx, ?_⟩
    · by_cases hz : L = []
      · exact .inl hz
      · refine .inr ?_
        have hp : 0 < len := by
          rw [← hLl]; cases L with
          | nil => exact absurd rfl hz
          | cons => simp
        obtain ⟨b, o, spot⟩ := x
        have h1 := (World.cells?_some (hL 0 hp)).2.2 0 hs
        have hx0 : (L.getD 0 []).length = sz := (World.cells?_some (hL 0 hp)).2.1
        rw [List.getElem?_eq_getElem (by omega)] at h1
        have hspot : spot = none := by
          have := World.cell?_spot h1
          simpa [Addr.add] using this
        subst hspot
        refine ⟨b, o, rfl, fun i hi j hj => ?_⟩
        have h2 := (World.cells?_some (hL i (by omega))).2.2 j hj
        rw [← h2]
        congr 1
        unfold Addr.add
        split <;> split <;> simp_all
    · intro i hi
      obtain ⟨cs, y, h1, h2, h3⟩ := each i (by omega)
      have h4 := hL i (by omega)
      rw [h1] at h4
      injection h4 with h4
      refine ⟨n, y.2, ?_⟩
      rw [← h4, h2]
      simp [List.getD, h3]
theorem ints4 {H : Type} {enc : TypeId × Value → H} {P : Program} {W : World} {base fuel : Nat} {spare : Nat → Bool} {held : Bool} {t e : TypeId} {cs : List Value} {x : DataW H × List MemPlace}
    (ht : P.underlying t = some (.array 4 e)) (he : P.underlying e = some (.int .i64)) (hc : P.cellsOf e = 1) (hc4 : P.cellsOf t = 4) (h : DataW.trod enc P W base spare held fuel t cs = some x) :
    ∃ a b c d : Int, cs = [.int .i64 a, .int .i64 b, .int .i64 c, .int .i64 d] ∧ (Lit.int .i64 a).wf = true ∧ (Lit.int .i64 b).wf = true ∧ (Lit.int .i64 c).wf = true ∧ (Lit.int .i64 d).wf = true ∧
      x.1 = .agg [.lit (.int .i64 a), .lit (.int .i64 b), .lit (.int .i64 c), .lit (.int .i64 d)] := by
  obtain ⟨xs, m, rfl, hx, hlen, hn, hel⟩ := DataW.trod_array ht h
  rw [hc4] at hlen
  match cs, hlen with
  | [c0, c1, c2, c3], _ =>
    match xs, hn with
    | [x0, x1, x2, x3], _ =>
      have h0 := hel 0 (by decide)
      have h1 := hel 1 (by decide)
      have h2 := hel 2 (by decide)
      have h3 := hel 3 (by decide)
      rw [hc] at h0 h1 h2 h3
      obtain ⟨k0, e0, f0, w0⟩ := DataW.trod_int he (x := x0) h0
      obtain ⟨k1, e1, f1, w1⟩ := DataW.trod_int he (x := x1) h1
      obtain ⟨k2, e2, f2, w2⟩ := DataW.trod_int he (x := x2) h2
      obtain ⟨k3, e3, f3, w3⟩ := DataW.trod_int he (x := x3) h3
      simp at e0 e1 e2 e3
      subst e0 e1 e2 e3 f0 f1 f2 f3
      exact ⟨k0, k1, k2, k3, rfl, w0, w1, w2, w3, by rw [hx]; rfl⟩
end Go.Proofs.YtpmoanjeoaeabaaDoor
end

section
/- What the reading of a definition gives: its steps, their keys and needs. -/
set_option linter.unusedVariables false
set_option linter.unusedSimpArgs false
set_option linter.unnecessarySimpa false
set_option maxRecDepth 100000
namespace Go.Proofs.YtpmoanjeoaeabaaDoor
open Go.RowKit Go.ChangeShapes Go.WideShapes Go.ChangeAt
def wf64 (n : Int) : Prop := -9223372036854775808 ≤ n ∧ n ≤ 9223372036854775807
theorem wf64_of {n : Int} (h : (Lit.int .i64 n).wf = true) : wf64 n := by
  have hh := i64_of h
  unfold wf64
  exact ⟨hh.1, hh.2⟩
/-- a step, with the places of its keys and needs -/
structure St where
  name : ByteArray
  kind : Int
  part : Int
  keys : List ByteArray
  needs : List Int
  kA : Option Addr
  kc : Nat
  nA : Option Addr
  nc : Nat
def strC (b : ByteArray) : List Value := [.string b]
def intC (n : Int) : List Value := [.int .i64 n]
def St.vs (s : St) : List Value := [.string s.name, .int .i64 s.kind, .int .i64 s.part, .slice s.kA s.keys.length s.kc, .slice s.nA s.needs.length s.nc]
structure StAt (w : World) (s : St) : Prop where
  keys : Elems w (.slice s.kA s.keys.length s.kc) 1 (s.keys.map strC)
  needs : Elems w (.slice s.nA s.needs.length s.nc) 1 (s.needs.map intC)
  kind : wf64 s.kind
  part : wf64 s.part
  need : ∀ n ∈ s.needs, wf64 n
  name : s.name.size ≤ 9223372036854775807
  key : ∀ k ∈ s.keys, k.size ≤ 9223372036854775807
structure Df where
  name : ByteArray
  steps : List St
  A : Option Addr
  c : Nat
def Df.vs (d : Df) : List Value := [.string d.name, .slice d.A d.steps.length d.c]
def Df.v (d : Df) : Value := .agg #[.string d.name, .slice d.A d.steps.length d.c]
structure DefAt (w : World) (d : Df) : Prop where
  steps : Elems w (.slice d.A d.steps.length d.c) 5 (d.steps.map St.vs)
  each : ∀ s ∈ d.steps, StAt w s
  name : d.name.size ≤ 9223372036854775807
theorem StAt.keep {w w' : World} {s : St} (h : StAt w s) (hb : Below w.heap.size w w') : StAt w' s := ⟨h.keys.keep hb, h.needs.keep hb, h.kind, h.part, h.need, h.name, h.key⟩
theorem DefAt.keep {w w' : World} {d : Df} (h : DefAt w d) (hb : Below w.heap.size w w') : DefAt w' d := ⟨h.steps.keep hb, fun s hs => (h.each s hs).keep hb, h.name⟩
theorem map_of {α : Type} {vs : α → List Value} {q : α → Prop} (L : List (List Value)) (h : ∀ i, i < L.length → ∃ o : α, L.getD i [] = vs o ∧ q o) : ∃ M : List α, L = M.map vs ∧ ∀ o ∈ M, q o := by
  have : ∀ L : List (List Value), (∀ x ∈ L, ∃ o : α, x = vs o ∧ q o) → ∃ M : List α, L = M.map vs ∧ ∀ o ∈ M, q o := by
    intro L
    induction L with
    | nil => intro _; exact ⟨[], rfl, by simp⟩
    | cons x l ih =>
      intro hx
      obtain ⟨o, e, ho⟩ := hx x (by simp)
      obtain ⟨M, e2, hM⟩ := ih (fun y hy => hx y (by simp [hy]))
      refine ⟨o :: M, by rw [e, e2]; rfl, fun z hz => ?_⟩
      rcases List.mem_cons.1 hz with rfl | hz
      · exact ho
      · exact hM z hz
  refine this L fun x hx => ?_
  obtain ⟨i, hi, rfl⟩ := List.getElem_of_mem hx
  obtain ⟨o, e, ho⟩ := h i hi
  exact ⟨o, by rw [← e, ← List.getElem_eq_getD (h := hi)], ho⟩
section
variable {H : Type} {enc : TypeId × Value → H} {W : World} {base fuel : Nat} {spare : Nat → Bool} {held : Bool}
theorem slice_form {t e : TypeId} {v : Value} {x : DataW H × List MemPlace} (ht : Tryd.prog.underlying t = some (.slice e)) (h : DataW.trod enc Tryd.prog W base spare held fuel t [v] = some x) : ∃ A n c, v = .slice A n c := by
  rcases DataW.trod_slice ht h with ⟨h, _⟩ | ⟨x, l, c, _, _, _, _, h, _⟩
  · injection h with h; exact ⟨_, _, _, h⟩
  · injection h with h; exact ⟨_, _, _, h⟩
theorem trod_cells {t : TypeId} {v : Value} {x : DataW H × List MemPlace} (hv : v.cells.toList = [v]) (h : DataW.trod enc Tryd.prog W base spare held fuel t [v] = some x) : DataW.Trod enc Tryd.prog W base spare held t v x.1 x.2 := ⟨fuel, by rw [hv]; exact h⟩
theorem read32 {v : Value} {x : DataW H × List MemPlace} (h : DataW.trod enc Tryd.prog W base spare held fuel 32 [v] = some x) :
    ∃ (A : Option Addr) (c : Nat) (l : List ByteArray), v = .slice A l.length c ∧ Elems W (.slice A l.length c) 1 (l.map strC) ∧ ∀ k ∈ l, k.size ≤ 9223372036854775807 := by
  obtain ⟨A, n, c, rfl⟩ := slice_form Tryd.underlying32 h
  obtain ⟨L, ys, rs, hE, hy, hd, hL⟩ := elems_of Tryd.underlying32 (show Tryd.prog.cellsOf 9 = 1 by kernel_rfl) (by decide) (trod_cells rfl h)
  obtain ⟨M, rfl, hM⟩ := map_of L (vs := strC) (q := fun k => k.size ≤ 9223372036854775807) (fun i hi => by
    obtain ⟨f, p, hr⟩ := hL i hi
    obtain ⟨k0, e0, _, w0⟩ := DataW.trod_string Tryd.underlying9 hr
    exact ⟨k0, e0, w0⟩)
  have hn := hE.at_.1
  rw [List.length_map] at hn
  subst hn
  exact ⟨A, c, M, rfl, hE, hM⟩
theorem read33 {v : Value} {x : DataW H × List MemPlace} (h : DataW.trod enc Tryd.prog W base spare held fuel 33 [v] = some x) :
    ∃ (A : Option Addr) (c : Nat) (l : List Int), v = .slice A l.length c ∧ Elems W (.slice A l.length c) 1 (l.map intC) ∧ ∀ k ∈ l, wf64 k := by
  obtain ⟨A, n, c, rfl⟩ := slice_form Tryd.underlying33 h
  obtain ⟨L, ys, rs, hE, hy, hd, hL⟩ := elems_of Tryd.underlying33 (show Tryd.prog.cellsOf 3 = 1 by kernel_rfl) (by decide) (trod_cells rfl h)
  obtain ⟨M, rfl, hM⟩ := map_of L (vs := intC) (q := wf64) (fun i hi => by
    obtain ⟨f, p, hr⟩ := hL i hi
    obtain ⟨k0, e0, _, w0⟩ := DataW.trod_int Tryd.underlying3 hr
    exact ⟨k0, e0, wf64_of w0⟩)
  have hn := hE.at_.1
  rw [List.length_map] at hn
  subst hn
  exact ⟨A, c, M, rfl, hE, hM⟩
theorem read35 {cs : List Value} {x : DataW H × List MemPlace} (h : DataW.trod enc Tryd.prog W base spare held fuel 35 cs = some x) : ∃ s : St, cs = s.vs ∧ StAt W s := by
  obtain ⟨xs, n, rfl, hx, hlen, hn, hel⟩ := DataW.trod_struct Tryd.underlying35 h
  rw [show Tryd.prog.cellsOf 35 = 5 by kernel_rfl] at hlen
  have q3 : Tryd.prog.cellsOf 3 = 1 := by kernel_rfl
  have q9 : Tryd.prog.cellsOf 9 = 1 := by kernel_rfl
  have q32 : Tryd.prog.cellsOf 32 = 1 := by kernel_rfl
  have q33 : Tryd.prog.cellsOf 33 = 1 := by kernel_rfl
  match cs, hlen with
  | [c0, c1, c2, c3, c4], _ =>
    have h0 := hel 0 _ rfl
    have h1 := hel 1 _ rfl
    have h2 := hel 2 _ rfl
    have h3 := hel 3 _ rfl
    have h4 := hel 4 _ rfl
    match xs, hn with
    | [x0, x1, x2, x3, x4], _ =>
      have h3' : DataW.trod enc Tryd.prog W base spare held n 32 [c3] = some x3 := by
        have hq : DataW.trod enc Tryd.prog W base spare held n 32 (([c0, c1, c2, c3, c4].drop 3).take (Tryd.prog.cellsOf 32)) = some x3 := h3
        rw [q32] at hq
        exact hq
      have h4' : DataW.trod enc Tryd.prog W base spare held n 33 [c4] = some x4 := by
        have hq : DataW.trod enc Tryd.prog W base spare held n 33 (([c0, c1, c2, c3, c4].drop 4).take (Tryd.prog.cellsOf 33)) = some x4 := h4
        rw [q33] at hq
        exact hq
      obtain ⟨k0, e0, _, w0⟩ := DataW.trod_string Tryd.underlying9 (x := x0) h0
      obtain ⟨k1, e1, _, w1⟩ := DataW.trod_int Tryd.underlying3 (x := x1) h1
      obtain ⟨k2, e2, _, w2⟩ := DataW.trod_int Tryd.underlying3 (x := x2) h2
      obtain ⟨kA, kc, ks, rfl, hks, hkw⟩ := read32 h3'
      obtain ⟨nA, nc, ns, rfl, hns, hnw⟩ := read33 h4'
      refine ⟨⟨k0, k1, k2, ks, ns, kA, kc, nA, nc⟩, ?_, hks, hns, wf64_of w1, wf64_of w2, hnw, w0, hkw⟩
      simp [q9, q3] at e0 e1 e2
      simp [St.vs, e0, e1, e2]
theorem read22 {v : Value} {x : DataW H × List MemPlace} (h : DataW.trod enc Tryd.prog W base spare held fuel 22 [v] = some x) :
    ∃ (A : Option Addr) (c : Nat) (l : List St), v = .slice A l.length c ∧ Elems W (.slice A l.length c) 5 (l.map St.vs) ∧ ∀ s ∈ l, StAt W s := by
  obtain ⟨A, n, c, rfl⟩ := slice_form Tryd.underlying22 h
  obtain ⟨L, ys, rs, hE, hy, hd, hL⟩ := elems_of Tryd.underlying22 (show Tryd.prog.cellsOf 35 = 5 by kernel_rfl) (by decide) (trod_cells rfl h)
  obtain ⟨M, rfl, hM⟩ := map_of L (vs := St.vs) (q := StAt W) (fun i hi => by
    obtain ⟨f, p, hr⟩ := hL i hi
    exact read35 hr)
  have hn := hE.at_.1
  rw [List.length_map] at hn
  subst hn
  exact ⟨A, c, M, rfl, hE, hM⟩
theorem read24 {cs : List Value} {x : DataW H × List MemPlace} (h : DataW.trod enc Tryd.prog W base spare held fuel 24 cs = some x) : ∃ d : Df, cs = d.vs ∧ DefAt W d := by
  obtain ⟨xs, n, rfl, hx, hlen, hn, hel⟩ := DataW.trod_struct Tryd.underlying24 h
  rw [show Tryd.prog.cellsOf 24 = 2 by kernel_rfl] at hlen
  have q9 : Tryd.prog.cellsOf 9 = 1 := by kernel_rfl
  have q22 : Tryd.prog.cellsOf 22 = 1 := by kernel_rfl
  match cs, hlen with
  | [c0, c1], _ =>
    have h0 := hel 0 _ rfl
    have h1 := hel 1 _ rfl
    match xs, hn with
    | [x0, x1], _ =>
      have h1' : DataW.trod enc Tryd.prog W base spare held n 22 [c1] = some x1 := by
        have hq : DataW.trod enc Tryd.prog W base spare held n 22 (([c0, c1].drop 1).take (Tryd.prog.cellsOf 22)) = some x1 := h1
        rw [q22] at hq
        exact hq
      obtain ⟨k0, e0, _, w0⟩ := DataW.trod_string Tryd.underlying9 (x := x0) h0
      obtain ⟨A, c, l, rfl, hl, hs⟩ := read22 h1'
      refine ⟨⟨k0, l, A, c⟩, ?_, hl, hs, w0⟩
      simp [q9] at e0
      simp [Df.vs, e0]
end
theorem agg_of {v : Value} {a b : Value} {l : List Value} (h : v.cells.toList = a :: b :: l) : v = .agg (a :: b :: l).toArray := by
  cases v <;> simp [Value.cells] at h
  rename_i cs
  have : cs = (a :: b :: l).toArray := by rw [← h]
  rw [this]
theorem open24 {H : Type} {enc : TypeId × Value → H} {W : World} {base : Nat} {spare : Nat → Bool} {held : Bool} {v : Value} {d : DataW H} {ps : List MemPlace} (h : DataW.Trod enc Tryd.prog W base spare held 24 v d ps) : ∃ D : Df, v = D.v ∧ DefAt W D := by
  obtain ⟨fuel, hf⟩ := h
  obtain ⟨D, e, hD⟩ := read24 hf
  exact ⟨D, agg_of e, hD⟩
end Go.Proofs.YtpmoanjeoaeabaaDoor
end

section
/- Reading steps, keys and needs; the needs of a step: the document's and the program's. -/
set_option linter.unusedVariables false
set_option linter.unusedSimpArgs false
set_option linter.unnecessarySimpa false
set_option maxRecDepth 100000
namespace Go.Proofs.YtpmoanjeoaeabaaDoor
open Go.RowKit Go.ChangeShapes Go.WideShapes Go.ChangeAt
section
variable {w : World} {d : Df} {A : Option Addr} {c : Nat}
theorem ones_cells {α : Type} {f : α → Value} {l : List α} (h : Elems w (.slice A l.length c) 1 (l.map fun x => [f x])) (h0 : 0 < l.length) :
    ∃ b o, A = some ⟨b, o, none⟩ ∧ ∀ k (hk : k < l.length), w.cell? ⟨b, o + k, none⟩ = some (f l[k]) := by
  obtain ⟨b, o, e, hc⟩ := h.at_.2.2 (by rw [List.length_map]; exact h0)
  refine ⟨b, o, e, fun k hk => ?_⟩
  have h1 := hc k (by rw [List.length_map]; exact hk) 0 (by decide)
  have hx : (l.map fun x => [f x]).getD k [] = [f l[k]] := by simp [List.getD, hk]
  rw [hx, Nat.mul_one, Nat.add_zero] at h1
  exact h1
theorem need_cells {l : List Int} (h : Elems w (.slice A l.length c) 1 (l.map intC)) (h0 : 0 < l.length) :
    ∃ b o, A = some ⟨b, o, none⟩ ∧ ∀ k (hk : k < l.length), w.cell? ⟨b, o + k, none⟩ = some (.int .i64 l[k]) := ones_cells (f := fun n => .int .i64 n) h h0
theorem key_cells {l : List ByteArray} (h : Elems w (.slice A l.length c) 1 (l.map strC)) (h0 : 0 < l.length) :
    ∃ b o, A = some ⟨b, o, none⟩ ∧ ∀ k (hk : k < l.length), w.cell? ⟨b, o + k, none⟩ = some (.string l[k]) := ones_cells (f := fun n => .string n) h h0
theorem step_cells (h : DefAt w d) (h0 : 0 < d.steps.length) : ∃ b o, d.A = some ⟨b, o, none⟩ ∧ ∀ k (hk : k < d.steps.length),
    w.cell? ⟨b, o + k * 5, none⟩ = some (.string d.steps[k].name) ∧ w.cell? ⟨b, o + k * 5 + 1, none⟩ = some (.int .i64 d.steps[k].kind) ∧ w.cell? ⟨b, o + k * 5 + 2, none⟩ = some (.int .i64 d.steps[k].part) ∧
    w.cell? ⟨b, o + k * 5 + 3, none⟩ = some (.slice d.steps[k].kA d.steps[k].keys.length d.steps[k].kc) ∧ w.cell? ⟨b, o + k * 5 + 4, none⟩ = some (.slice d.steps[k].nA d.steps[k].needs.length d.steps[k].nc) := by
  obtain ⟨b, o, e, hc⟩ := h.steps.at_.2.2 (by rw [List.length_map]; exact h0)
  refine ⟨b, o, e, fun k hk => ?_⟩
  have h1 := hc k (by rw [List.length_map]; exact hk)
  have hx : (d.steps.map St.vs).getD k [] = (d.steps[k]).vs := by simp [List.getD, hk]
  rw [hx] at h1
  exact ⟨h1 0 (by decide), h1 1 (by decide), h1 2 (by decide), h1 3 (by decide), h1 4 (by decide)⟩
end
/-- a need that is as it must be -/
def okAt (l : List Int) (i n : Nat) (k : Nat) : Prop := 0 ≤ l.getD k 0 ∧ l.getD k 0 < n ∧ l.getD k 0 ≠ i ∧ (0 < k → l.getD (k - 1) 0 < l.getD k 0)
instance (l : List Int) (i n k : Nat) : Decidable (okAt l i n k) := by unfold okAt; infer_instance
def needsB (l : List Int) (i n : Nat) : Bool := decide (∀ k, k < l.length → okAt l i n k)
theorem needs_no {l : List Int} {i n k : Nat} (hk : k < l.length) (h : ¬ okAt l i n k) : needsB l i n = false := decide_eq_false fun g => h (g k hk)
def RnRel (w : World) (l : List Int) (i n : Nat) (x : Value) (wr : World) : Prop := ∃ k : Nat, k ≤ l.length ∧ x = .int .i64 k ∧ Below w.heap.size w wr ∧ ∀ j, j < k → okAt l i n j
set_option maxHeartbeats 1600000 in
theorem rneeds_any {w : World} {A : Option Addr} {c : Nat} (l : List Int) (i n : Nat) (h : Elems w (.slice A l.length c) 1 (l.map intC)) (hl : l.length ≤ 1000000000000000000) :
    Calls Tryd.prog 77 #[.slice A l.length c, .int .i64 i, .int .i64 n] w fun e w' => e = .returned (.bool (needsB l i n)) ∧ Below w.heap.size w w' := by
  have HE := Lib.hid h
  clear h
  go_enter Tryd.func77, Tryd.ntmps77
  go_wp2_with fail
  go_loopw [7] (RnRel w l i n) (fun x _ => l.length - (intOf x).toNat)
  case atStart => exact ⟨0, Nat.zero_le _, rfl, Below.refl _ _, fun j hj => by omega⟩
  case round =>
    obtain ⟨k, hk, rfl, hb, hok⟩ := hrel
    by_cases hlt : k < l.length
    · obtain ⟨b, o, rfl, hcell⟩ := need_cells (HE.out.keep hb) (by omega)
      have c0 := hcell k hlt
      have c1 : 0 < k → wr.cell? ⟨b, o + (k - 1), none⟩ = some (.int .i64 (l.getD (k - 1) 0)) := fun h => by
        rw [hcell (k - 1) (by omega), ← List.getElem_eq_getD (h := by omega)]
      have hx : l[k] = l.getD k 0 := List.getElem_eq_getD (h := hlt) 0
      rw [hx] at c0
      obtain ⟨x, hX⟩ : ∃ x, l.getD k 0 = x := ⟨_, rfl⟩
      obtain ⟨y, hY⟩ : ∃ x, l.getD (k - 1) 0 = x := ⟨_, rfl⟩
      have HOK : Hid (okAt l i n k ↔ 0 ≤ x ∧ x < n ∧ x ≠ i ∧ (0 < k → y < x)) := by unfold okAt; rw [hX, hY]; exact Iff.rfl
      have HNO := Lib.hid (fun h => needs_no (i := i) (n := n) hlt h)
      have HB := Lib.hid hb
      have HOLD := Lib.hid hok
      rw [hX] at c0
      rw [hY] at c1
      clear hcell hx hX hY hb hok
      by_cases h1 : x < 0
      · have t1 : decide (x < 0) = true := decide_eq_true h1
        go_wp2_with fail
        go_quiet (fail)
        go_wp2_with fail
        go_ret
        exact ⟨by rw [HNO.out (fun g => by have := HOK.out.1 g; omega)]; rfl, below_drewN HB.out _⟩
      have t1 : decide (x < 0) = false := decide_eq_false h1
      by_cases h2 : (n : Int) ≤ x
      · have t2 : decide ((n : Int) ≤ x) = true := decide_eq_true h2
        go_wp2_with fail
        go_quiet (fail)
        go_wp2_with fail
        go_ret
        exact ⟨by rw [HNO.out (fun g => by have := HOK.out.1 g; omega)]; rfl, below_drewN HB.out _⟩
      have t2 : decide ((n : Int) ≤ x) = false := decide_eq_false h2
      by_cases h3 : x = i
      · have t3 : (x == (i : Int)) = true := by rw [beq_iff_eq]; exact h3
        have H3 := Lib.hid h3
        clear h3
        go_wp2_with fail
        go_quiet (fail)
        go_wp2_with fail
        go_ret
        have h3 := H3.out
        exact ⟨by rw [HNO.out (fun g => by have := HOK.out.1 g; omega)]; rfl, below_drewN HB.out _⟩
      have t3 : (x == (i : Int)) = false := by rw [beq_eq_false_iff_ne]; exact h3
      have HS : Hid (okAt l i n k → ∀ j, j < k + 1 → okAt l i n j) := fun g j hj => by
        by_cases e : j = k
        · subst e; exact g
        · exact HOLD.out j (by omega)
      by_cases h0 : k = 0
      · have tk : decide ((0 : Int) < (k : Int)) = false := decide_eq_false (by omega)
        have tk2 : decide (0 < k) = false := decide_eq_false (by omega)
        have H0 := Lib.hid h0
        clear c1 h0
        go_wp2_with fail
        go_quiet (fail)
        go_wp2_with fail
        go_roundw
        case rel => exact ⟨k + 1, by omega, by go_num, below_drewN HB.out _, HS.out (HOK.out.2 ⟨by omega, by omega, h3, fun h => by have := H0.out; omega⟩)⟩
        case measure => simp [intOf]; omega
      have c2 := c1 (by omega)
      have tk : decide ((0 : Int) < (k : Int)) = true := decide_eq_true (by omega)
      have tk2 : decide (0 < k) = true := decide_eq_true (by omega)
      have hk0 : 0 < k := by omega
      have sw : IntKind.i64.wrap ((k : Int) - 1) = ((k - 1 : Nat) : Int) := by
        rw [show (k : Int) - 1 = ((k - 1 : Nat) : Int) by omega]
        exact IntWalk.i64_in _ (by omega)
      have i0 : (0 : Int) ≤ ((k - 1 : Nat) : Int) := by omega
      have i1 : ((k - 1 : Nat) : Int) < (l.length : Int) := by omega
      clear c1
      by_cases h4 : x ≤ y
      · have t4 : decide (x ≤ y) = true := decide_eq_true h4
        go_wp2_with fail
        go_quiet (fail)
        go_wp2_with fail
        go_ret
        exact ⟨by rw [HNO.out (fun g => by have := (HOK.out.1 g).2.2.2 (by omega); omega)]; rfl, below_drewN HB.out _⟩
      have t4 : decide (x ≤ y) = false := decide_eq_false h4
      go_wp2_with fail
      go_quiet (fail)
      go_wp2_with fail
      go_roundw
      case rel => exact ⟨k + 1, by omega, by go_num, below_drewN HB.out _, HS.out (HOK.out.2 ⟨by omega, by omega, h3, fun h => by omega⟩)⟩
      case measure => simp [intOf]; omega
    · obtain rfl : k = l.length := by omega
      have e : needsB l i n = true := decide_eq_true hok
      go_wp2_with fail
      go_ret
      exact ⟨by rw [e]; rfl, hb⟩
end Go.Proofs.YtpmoanjeoaeabaaDoor
end

section
/- The program's needs of a step. -/
set_option linter.unusedVariables false
set_option linter.unusedSimpArgs false
set_option linter.unnecessarySimpa false
set_option maxRecDepth 100000
namespace Go.Proofs.YtpmoanjeoaeabaaDoor
open Go.RowKit Go.ChangeShapes Go.WideShapes Go.ChangeAt
def lastOf (l : List Int) (k : Nat) : Int := if k = 0 then -1 else l.getD (k - 1) 0
theorem ok_last {l : List Int} {i n k : Nat} (h : ∀ j, j < k → okAt l i n j) : okAt l i n k ↔ lastOf l k < l.getD k 0 ∧ l.getD k 0 < n ∧ l.getD k 0 ≠ i := by
  unfold lastOf okAt
  by_cases e : k = 0
  · rw [if_pos e]
    constructor
    · rintro ⟨h1, h2, h3, _⟩
      exact ⟨by omega, h2, h3⟩
    · rintro ⟨h1, h2, h3⟩
      exact ⟨by omega, h2, h3, fun g => by omega⟩
  · rw [if_neg e]
    have h0 := (h (k - 1) (by omega)).1
    constructor
    · rintro ⟨h1, h2, h3, h4⟩
      exact ⟨h4 (by omega), h2, h3⟩
    · rintro ⟨h1, h2, h3⟩
      exact ⟨by omega, h2, h3, fun _ => h1⟩
def NdRel (W : World) (b : Nat) (V : List Value) (l : List Int) (i n : Nat) (last x : Value) (wr : World) : Prop :=
  ∃ k : Nat, k ≤ l.length ∧ x = .int .i64 k ∧ last = .int .i64 (lastOf l k) ∧ Sat W wr [Blk b 24 V, Old W] ∧ ∀ j, j < k → okAt l i n j
set_option maxHeartbeats 1600000 in
theorem needs_any {w : World} (d : Df) (i : Nat) (hD : DefAt w d) (hi : i < d.steps.length) (hl : d.steps[i].needs.length ≤ 1000000000000000000) (hn : d.steps.length ≤ 1000000000000000000) :
    Calls Tryd.prog 68 #[d.v, .int .i64 i] w fun e w' => e = .returned (.bool (needsB d.steps[i].needs i d.steps.length)) ∧ Below w.heap.size w w' := by
  obtain ⟨g, o, hA, hc⟩ := step_cells hD (by omega)
  obtain ⟨_, _, _, _, c4⟩ := hc i hi
  have hE := (hD.each _ (List.getElem_mem hi)).needs
  obtain ⟨s, hs⟩ : ∃ s, d.steps[i] = s := ⟨_, rfl⟩
  rw [hs] at c4 hE hl ⊢
  clear hc hs
  obtain ⟨n, hN⟩ : ∃ n, d.steps.length = n := ⟨_, rfl⟩
  have h1 := (Sat.start w).new #[.string d.name, .slice (some ⟨g, o, none⟩) n d.c] 24
  obtain ⟨b, hb⟩ : ∃ b, w.heap.size = b := ⟨_, rfl⟩
  have hE2 := Lib.hid hE
  have x4 := old_cell (h1.old (by simp)) c4
  obtain ⟨l, hL⟩ : ∃ l, s.needs = l := ⟨_, rfl⟩
  rw [hL] at x4 hE2 hl ⊢
  unfold Df.v
  rw [hA, hN]
  rw [hN] at hi hn
  rw [hb] at h1
  have H1 := Lib.hid h1
  clear c4 hE hL hN hA h1 hD
  go_enter Tryd.func68, Tryd.ntmps68
  go_wp2_with fail
  try simp only [hb]
  go_loopw [5, 15] (NdRel w b [.string d.name, .slice (some ⟨g, o, none⟩) n d.c] l i n) (fun _ x _ => l.length - (intOf x).toNat)
  case atStart => exact ⟨0, Nat.zero_le _, rfl, rfl, H1.out, fun j hj => by omega⟩
  case round =>
    obtain ⟨k, hk, rfl, rfl, hT, hok⟩ := hrel
    clear H1 x4
    by_cases hlt : k < l.length
    · obtain ⟨b2, o2, hnA, hcell⟩ := need_cells (hE2.out.keep (hT.old (by simp))) (by omega)
      have c0 := hcell k hlt
      have c1 : wr.cell? ⟨b, 1, none⟩ = some (.slice (some ⟨g, o, none⟩) n d.c) := hT.blk.cell 1
      have hx : l[k] = l.getD k 0 := List.getElem_eq_getD (h := hlt) 0
      rw [hx] at c0
      have hiff := ok_last hok
      have hnl : lastOf l (k + 1) = l.getD k 0 := by unfold lastOf; rw [if_neg (by omega)]; rfl
      obtain ⟨x, hX⟩ : ∃ x, l.getD k 0 = x := ⟨_, rfl⟩
      obtain ⟨y, hY⟩ : ∃ x, lastOf l k = x := ⟨_, rfl⟩
      rw [hX, hY] at hiff
      rw [hX] at c0 hnl
      rw [hY]
      have HNO := Lib.hid (fun h => needs_no (i := i) (n := n) hlt h)
      have HS : Hid (okAt l i n k → ∀ j, j < k + 1 → okAt l i n j) := fun g j hj => by
        by_cases e : j = k
        · subst e; exact g
        · exact hok j (by omega)
      have HOK := Lib.hid hiff
      have HT := Lib.hid hT
      have HNL := Lib.hid hnl
      rw [hnA]
      clear hcell hx hX hY hiff hnl hT hok
      by_cases h1 : x ≤ y
      · have t1 : decide (x ≤ y) = true := decide_eq_true h1
        go_wp2_with fail
        go_ret
        exact ⟨by rw [HNO.out (fun g => by have := HOK.out.1 g; omega)]; rfl, by have h9 := HT.out.old (List.mem_cons_of_mem _ List.mem_cons_self); first | exact h9 | (rw [hb] at h9; exact h9)⟩
      have t1 : decide (x ≤ y) = false := decide_eq_false h1
      by_cases h2 : (n : Int) ≤ x
      · have t2 : decide ((n : Int) ≤ x) = true := decide_eq_true h2
        go_wp2_with fail
        go_ret
        exact ⟨by rw [HNO.out (fun g => by have := HOK.out.1 g; omega)]; rfl, by have h9 := HT.out.old (List.mem_cons_of_mem _ List.mem_cons_self); first | exact h9 | (rw [hb] at h9; exact h9)⟩
      have t2 : decide ((n : Int) ≤ x) = false := decide_eq_false h2
      by_cases h3 : x = i
      · have t3 : (x == (i : Int)) = true := by rw [beq_iff_eq]; exact h3
        have H3 := Lib.hid h3
        clear h3
        go_wp2_with fail
        go_ret
        have h3 := H3.out
        exact ⟨by rw [HNO.out (fun g => by have := HOK.out.1 g; omega)]; rfl, by have h9 := HT.out.old (List.mem_cons_of_mem _ List.mem_cons_self); first | exact h9 | (rw [hb] at h9; exact h9)⟩
      have t3 : (x == (i : Int)) = false := by rw [beq_eq_false_iff_ne]; exact h3
      go_wp2_with fail
      go_roundw
      case rel => exact ⟨k + 1, by omega, by go_num, by rw [HNL.out], HT.out, HS.out (HOK.out.2 ⟨by omega, by omega, h3⟩)⟩
      case measure => simp [intOf]; omega
    · obtain rfl : k = l.length := by omega
      have e : needsB l i n = true := decide_eq_true hok
      go_wp2_with fail
      go_ret
      exact ⟨by rw [e]; rfl, hT.old (by simp)⟩
end Go.Proofs.YtpmoanjeoaeabaaDoor
end

section
/- The document's twice. -/
set_option linter.unusedVariables false
set_option linter.unusedSimpArgs false
set_option linter.unnecessarySimpa false
set_option maxRecDepth 100000
namespace Go.Proofs.YtpmoanjeoaeabaaDoor
open Go.RowKit Go.ChangeShapes Go.WideShapes Go.ChangeAt
theorem str_no {a b : ByteArray} (h : ¬ a = b) : (a.toList == b.toList) = false := by
  rw [beq_eq_false_iff_ne, ByteArray.toList_eq, ByteArray.toList_eq]
  intro e
  exact h (ByteArray.ext (Array.ext' e))
theorem str_yes {a b : ByteArray} (h : a = b) : (a.toList == b.toList) = true := by rw [h]; exact beq_self_eq_true _
/-- the name of a step -/
def nameAt (d : Df) (k : Nat) : ByteArray := (d.steps.getD k ⟨.empty, 0, 0, [], [], none, 0, none, 0⟩).name
theorem name_at (d : Df) (k : Nat) (h : k < d.steps.length) : d.steps[k].name = nameAt d k := by
  unfold nameAt
  rw [← List.getElem_eq_getD (h := h)]
/-- has a step ahead of step i its name? -/
def twiceB (d : Df) (i : Nat) : Bool := decide (∃ k, k < i ∧ nameAt d k = nameAt d i)
def TwRel (W : World) (b : Nat) (V : List Value) (d : Df) (i : Nat) (x : Value) (wr : World) : Prop :=
  ∃ k : Nat, k ≤ i ∧ x = .int .i64 k ∧ Sat W wr [Blk b 24 V, Old W] ∧ ∀ j, j < k → nameAt d j ≠ nameAt d i
set_option maxHeartbeats 1600000 in
theorem rtwice_any {w : World} (d : Df) (i : Nat) (hD : DefAt w d) (hi : i < d.steps.length) (hn : d.steps.length ≤ 1000000000000000000) :
    Calls Tryd.prog 75 #[d.v, .int .i64 i] w fun e w' => e = .returned (.bool (twiceB d i)) ∧ Below w.heap.size w w' := by
  obtain ⟨g, o, hA, hc⟩ := step_cells hD (by omega)
  have HC : Hid (∀ w', Below w.heap.size w w' → ∀ k, k < d.steps.length → w'.cell? ⟨g, o + k * 5, none⟩ = some (.string (nameAt d k))) := fun w' hb k hk => by
    rw [← name_at d k hk]
    exact old_cell hb (hc k hk).1
  clear hc
  obtain ⟨n, hN⟩ : ∃ n, d.steps.length = n := ⟨_, rfl⟩
  have h1 := (Sat.start w).new #[.string d.name, .slice (some ⟨g, o, none⟩) n d.c] 24
  obtain ⟨b, hb⟩ : ∃ b, w.heap.size = b := ⟨_, rfl⟩
  unfold Df.v
  rw [hA, hN]
  rw [hN] at hi hn HC
  rw [hb] at h1
  have H1 := Lib.hid h1
  clear hN hA h1 hD
  go_enter Tryd.func75, Tryd.ntmps75
  go_wp2_with fail
  try simp only [hb]
  go_loopw [5] (TwRel w b [.string d.name, .slice (some ⟨g, o, none⟩) n d.c] d i) (fun x _ => i - (intOf x).toNat)
  case atStart => exact ⟨0, Nat.zero_le _, rfl, H1.out, fun j hj => by omega⟩
  case round =>
    obtain ⟨k, hk, rfl, hT, hok⟩ := hrel
    clear H1
    have h9 := hT.old (List.mem_cons_of_mem _ List.mem_cons_self)
    by_cases hlt : k < i
    · have c0 := HC.out _ h9 k (by omega)
      have c2 := HC.out _ h9 i hi
      have c1 : wr.cell? ⟨b, 1, none⟩ = some (.slice (some ⟨g, o, none⟩) n d.c) := hT.blk.cell 1
      have hkn : k < n := by omega
      have HT := Lib.hid hT
      have HOK := Lib.hid hok
      have H9 := Lib.hid h9
      obtain ⟨x, hX⟩ : ∃ x, nameAt d k = x := ⟨_, rfl⟩
      obtain ⟨y, hY⟩ : ∃ x, nameAt d i = x := ⟨_, rfl⟩
      rw [hX] at c0
      rw [hY] at c2
      have HX := Lib.hid hX
      have HY := Lib.hid hY
      clear hX hY hT hok h9
      by_cases h1 : x = y
      · have t1 : (x.toList == y.toList) = true := str_yes h1
        have H2 : Hid (twiceB d i = true) := decide_eq_true ⟨k, hlt, by rw [HX.out, HY.out]; exact h1⟩
        clear h1
        go_wp2_with fail
        go_quiet (fail)
        go_wp2_with fail
        go_ret
        exact ⟨by rw [H2.out]; rfl, by have h9 := below_drewN H9.out nq; first | exact h9 | (rw [hb] at h9; exact h9)⟩
      · have t1 : (x.toList == y.toList) = false := str_no h1
        have H2 : Hid (∀ j, j < k + 1 → nameAt d j ≠ nameAt d i) := fun j hj => by
          by_cases e : j = k
          · subst e; rw [HX.out, HY.out]; exact h1
          · exact HOK.out j (by omega)
        clear h1
        go_wp2_with fail
        go_quiet (fail)
        go_wp2_with fail
        go_roundw
        case rel => exact ⟨k + 1, by omega, by go_num, HT.out.drewN _, H2.out⟩
        case measure => simp [intOf]; omega
    · obtain rfl : k = i := by omega
      have e : twiceB d k = false := decide_eq_false fun ⟨j, hj, g⟩ => hok j hj g
      go_wp2_with fail
      go_ret
      exact ⟨by rw [e]; rfl, by first | exact h9 | (rw [hb] at h9; exact h9)⟩
end Go.Proofs.YtpmoanjeoaeabaaDoor
end

section
/- Room: the program's and the document's. -/
set_option linter.unusedVariables false
set_option linter.unusedSimpArgs false
set_option linter.unnecessarySimpa false
set_option maxRecDepth 100000
namespace Go.Proofs.YtpmoanjeoaeabaaDoor
open Go.RowKit Go.ChangeShapes Go.WideShapes Go.ChangeAt
def roomN (node units : Int) : Int := if 0 ≤ node ∧ node ≤ 4 ∧ 0 ≤ units ∧ units ≤ 100000 then 2 * (200 + 64 * units + if node = 4 then 32000 else 0) else 0
def roomE (node units : Int) : Int := if 0 ≤ node ∧ node ≤ 4 ∧ 0 ≤ units ∧ units ≤ 100000 then 0 else 1
theorem room_bad {node units : Int} (h : ¬ (0 ≤ node ∧ node ≤ 4 ∧ 0 ≤ units ∧ units ≤ 100000)) : roomN node units = 0 ∧ roomE node units = 1 := ⟨if_neg h, if_neg h⟩
set_option maxHeartbeats 1600000 in
theorem room_any (node units : Int) (w : World) (h1 : wf64 node) (h2 : wf64 units) :
    Calls Tryd.prog 22 #[.int .i64 node, .int .i64 units] w fun e w' => e = .returned (.tuple #[.int .i64 (roomN node units), .int .i64 (roomE node units)]) ∧ w' = w := by
  unfold wf64 at h1 h2
  by_cases a : node < 0
  · have t1 : decide (node < 0) = true := decide_eq_true a
    obtain ⟨e1, e2⟩ := room_bad (node := node) (units := units) (by omega)
    rw [e1, e2]
    clear e1 e2
    go_enter Tryd.func22, Tryd.ntmps22
    go_wp2_with fail
    go_ret2
    exact ⟨rfl, rfl⟩
  have t1 : decide (node < 0) = false := decide_eq_false a
  by_cases b : 4 < node
  · have t2 : decide (5 ≤ node) = true := decide_eq_true (by omega)
    obtain ⟨e1, e2⟩ := room_bad (node := node) (units := units) (by omega)
    rw [e1, e2]
    clear e1 e2
    go_enter Tryd.func22, Tryd.ntmps22
    go_wp2_with fail
    go_ret2
    exact ⟨rfl, rfl⟩
  have t2 : decide (5 ≤ node) = false := decide_eq_false (by omega)
  by_cases c : units < 0
  · have t3 : decide (units < 0) = true := decide_eq_true c
    obtain ⟨e1, e2⟩ := room_bad (node := node) (units := units) (by omega)
    rw [e1, e2]
    clear e1 e2
    go_enter Tryd.func22, Tryd.ntmps22
    go_wp2_with fail
    go_ret2
    exact ⟨rfl, rfl⟩
  have t3 : decide (units < 0) = false := decide_eq_false c
  by_cases d : 100000 < units
  · have t4 : decide (100000 < units) = true := decide_eq_true d
    obtain ⟨e1, e2⟩ := room_bad (node := node) (units := units) (by omega)
    rw [e1, e2]
    clear e1 e2
    go_enter Tryd.func22, Tryd.ntmps22
    go_wp2_with fail
    go_ret2
    exact ⟨rfl, rfl⟩
  have t4 : decide (100000 < units) = false := decide_eq_false d
  have w1 : IntKind.i64.wrap (64 * units) = 64 * units := IntWalk.i64_in _ (by omega)
  have w2 : IntKind.i64.wrap (200 + 64 * units) = 200 + 64 * units := IntWalk.i64_in _ (by omega)
  have e2 : roomE node units = 0 := if_pos (by omega)
  by_cases f : node = 4
  · have t5 : (node == 4) = true := by rw [beq_iff_eq]; exact f
    have w3 : IntKind.i64.wrap (200 + 64 * units + 32000) = 200 + 64 * units + 32000 := IntWalk.i64_in _ (by omega)
    have w4 : IntKind.i64.wrap (2 * (200 + 64 * units + 32000)) = 2 * (200 + 64 * units + 32000) := IntWalk.i64_in _ (by omega)
    have e1 : roomN node units = 2 * (200 + 64 * units + 32000) := by
      unfold roomN
      rw [if_pos (by omega), if_pos f]
    rw [e1, e2]
    clear e1 e2 f
    go_enter Tryd.func22, Tryd.ntmps22
    go_wp2_with fail
    go_ret2
    exact ⟨rfl, rfl⟩
  · have t5 : (node == 4) = false := by rw [beq_eq_false_iff_ne]; exact f
    have w4 : IntKind.i64.wrap (2 * (200 + 64 * units)) = 2 * (200 + 64 * units) := IntWalk.i64_in _ (by omega)
    have e1 : roomN node units = 2 * (200 + 64 * units) := by
      unfold roomN
      rw [if_pos (by omega), if_neg f, Int.add_zero]
    rw [e1, e2]
    clear e1 e2
    go_enter Tryd.func22, Tryd.ntmps22
    go_wp2_with fail
    go_ret2
    exact ⟨rfl, rfl⟩
set_option maxHeartbeats 1600000 in
theorem rroom_any (node units : Int) (w : World) (h1 : wf64 node) (h2 : wf64 units) :
    Calls Tryd.prog 23 #[.int .i64 node, .int .i64 units] w fun e w' => e = .returned (.tuple #[.int .i64 (roomN node units), .int .i64 (roomE node units)]) ∧ w' = w := by
  unfold wf64 at h1 h2
  by_cases a : node < 0
  · have t1 : decide (node < 0) = true := decide_eq_true a
    obtain ⟨e1, e2⟩ := room_bad (node := node) (units := units) (by omega)
    rw [e1, e2]
    clear e1 e2
    go_enter Tryd.func23, Tryd.ntmps23
    go_wp2_with fail
    go_ret2
    exact ⟨rfl, rfl⟩
  have t1 : decide (node < 0) = false := decide_eq_false a
  by_cases b : 4 < node
  · have t2 : decide (4 < node) = true := decide_eq_true (by omega)
    obtain ⟨e1, e2⟩ := room_bad (node := node) (units := units) (by omega)
    rw [e1, e2]
    clear e1 e2
    go_enter Tryd.func23, Tryd.ntmps23
    go_wp2_with fail
    go_ret2
    exact ⟨rfl, rfl⟩
  have t2 : decide (4 < node) = false := decide_eq_false (by omega)
  by_cases c : units < 0
  · have t3 : decide (units < 0) = true := decide_eq_true c
    obtain ⟨e1, e2⟩ := room_bad (node := node) (units := units) (by omega)
    rw [e1, e2]
    clear e1 e2
    go_enter Tryd.func23, Tryd.ntmps23
    go_wp2_with fail
    go_ret2
    exact ⟨rfl, rfl⟩
  have t3 : decide (units < 0) = false := decide_eq_false c
  by_cases d : 100000 < units
  · have t4 : decide (100000 < units) = true := decide_eq_true d
    obtain ⟨e1, e2⟩ := room_bad (node := node) (units := units) (by omega)
    rw [e1, e2]
    clear e1 e2
    go_enter Tryd.func23, Tryd.ntmps23
    go_wp2_with fail
    go_ret2
    exact ⟨rfl, rfl⟩
  have t4 : decide (100000 < units) = false := decide_eq_false d
  have w1 : IntKind.i64.wrap (64 * units) = 64 * units := IntWalk.i64_in _ (by omega)
  have w2 : IntKind.i64.wrap (200 + 64 * units) = 200 + 64 * units := IntWalk.i64_in _ (by omega)
  have e2 : roomE node units = 0 := if_pos (by omega)
  by_cases f : node = 4
  · have t5 : (node == 4) = true := by rw [beq_iff_eq]; exact f
    have w3 : IntKind.i64.wrap (200 + 64 * units + 32000) = 200 + 64 * units + 32000 := IntWalk.i64_in _ (by omega)
    have w4 : IntKind.i64.wrap (2 * (200 + 64 * units + 32000)) = 2 * (200 + 64 * units + 32000) := IntWalk.i64_in _ (by omega)
    have e1 : roomN node units = 2 * (200 + 64 * units + 32000) := by
      unfold roomN
      rw [if_pos (by omega), if_pos f]
    rw [e1, e2]
    clear e1 e2 f
    go_enter Tryd.func23, Tryd.ntmps23
    go_wp2_with fail
    go_ret2
    exact ⟨rfl, rfl⟩
  · have t5 : (node == 4) = false := by rw [beq_eq_false_iff_ne]; exact f
    have w4 : IntKind.i64.wrap (2 * (200 + 64 * units)) = 2 * (200 + 64 * units) := IntWalk.i64_in _ (by omega)
    have e1 : roomN node units = 2 * (200 + 64 * units) := by
      unfold roomN
      rw [if_pos (by omega), if_neg f, Int.add_zero]
    rw [e1, e2]
    clear e1 e2
    go_enter Tryd.func23, Tryd.ntmps23
    go_wp2_with fail
    go_ret2
    exact ⟨rfl, rfl⟩
end Go.Proofs.YtpmoanjeoaeabaaDoor
end

section
/- The document's order. -/
set_option linter.unusedVariables false
set_option linter.unusedSimpArgs false
set_option linter.unnecessarySimpa false
set_option maxRecDepth 100000
namespace Go.Proofs.YtpmoanjeoaeabaaDoor
open Go.RowKit Go.ChangeShapes Go.WideShapes Go.ChangeAt
def kindAt (d : Df) (k : Nat) : Int := (d.steps.getD k ⟨.empty, 0, 0, [], [], none, 0, none, 0⟩).kind
theorem kind_at (d : Df) (k : Nat) (h : k < d.steps.length) : d.steps[k].kind = kindAt d k := by
  unfold kindAt
  rw [← List.getElem_eq_getD (h := h)]
def needsAt (d : Df) (k : Nat) : List Int := (d.steps.getD k ⟨.empty, 0, 0, [], [], none, 0, none, 0⟩).needs
theorem needs_at (d : Df) (k : Nat) (h : k < d.steps.length) : d.steps[k].needs = needsAt d k := by
  unfold needsAt
  rw [← List.getElem_eq_getD (h := h)]
/-- does a compensatable step, or a pivot, need one that is not compensatable? -/
def orderB (d : Df) (i : Nat) : Bool := decide (kindAt d i ≠ 3 ∧ ∃ m ∈ needsAt d i, kindAt d m.toNat ≠ 1)
def OrRel (W : World) (b : Nat) (V V2 : List Value) (d : Df) (l : List Int) (x : Value) (wr : World) : Prop :=
  ∃ k : Nat, k ≤ l.length ∧ x = .int .i64 k ∧ Sat W wr [Blk (b + 1) 35 V2, Blk b 24 V, Old W] ∧ ∀ j, j < k → kindAt d (l.getD j 0).toNat = 1
set_option maxHeartbeats 1600000 in
theorem rorder_any {w : World} (d : Df) (i : Nat) (hD : DefAt w d) (hi : i < d.steps.length) (hn : d.steps.length ≤ 1000000000000000000) (hl : (needsAt d i).length ≤ 1000000000000000000)
    (hin : ∀ m ∈ needsAt d i, 0 ≤ m ∧ m < d.steps.length) :
    Calls Tryd.prog 78 #[d.v, .int .i64 i] w fun e w' => e = .returned (.bool (orderB d i)) ∧ Below w.heap.size w w' := by
  obtain ⟨g, o, hA, hc⟩ := step_cells hD (by omega)
  have HC : Hid (∀ w', Below w.heap.size w w' → ∀ k, k < d.steps.length → w'.cell? ⟨g, o + k * 5 + 1, none⟩ = some (.int .i64 (kindAt d k))) := fun w' hb k hk => by
    rw [← kind_at d k hk]
    exact old_cell hb (hc k hk).2.1
  obtain ⟨s0, s1, s2, s3, s4⟩ := hc i hi
  have hE := Lib.hid (hD.each _ (List.getElem_mem hi)).needs
  have HKI : Hid (d.steps[i].kind = kindAt d i) := kind_at d i hi
  have HNI : Hid (d.steps[i].needs = needsAt d i) := needs_at d i hi
  obtain ⟨s, hs⟩ : ∃ s, d.steps[i] = s := ⟨_, rfl⟩
  rw [hs] at s0 s1 s2 s3 s4 hE HKI HNI
  clear hc hs
  obtain ⟨n, hN⟩ : ∃ n, d.steps.length = n := ⟨_, rfl⟩
  have h1 := (Sat.start w).new #[.string d.name, .slice (some ⟨g, o, none⟩) n d.c] 24
  have hold := h1.old (by simp)
  have c0 := old_cell hold s0
  have c1 := old_cell hold s1
  have c2 := old_cell hold s2
  have c3 := old_cell hold s3
  have c4 := old_cell hold s4
  have h2 := h1.new #[.string s.name, .int .i64 s.kind, .int .i64 s.part, .slice s.kA s.keys.length s.kc, .slice s.nA s.needs.length s.nc] 35
  have hsz : (w.alloc (.cells #[.string d.name, .slice (some ⟨g, o, none⟩) n d.c] 24)).heap.size = w.heap.size + 1 := by simp
  rw [hsz] at h2
  obtain ⟨b, hb⟩ : ∃ b, w.heap.size = b := ⟨_, rfl⟩
  obtain ⟨l, hL⟩ : ∃ l, s.needs = l := ⟨_, rfl⟩
  obtain ⟨kd, hK⟩ : ∃ l, s.kind = l := ⟨_, rfl⟩
  rw [hL] at HNI
  rw [hK] at HKI
  rw [← HNI.out] at hl hin
  unfold Df.v
  rw [hA, hN]
  rw [hN] at hi hn HC hin
  rw [hb] at h2
  have H2 := Lib.hid h2
  have HIN := Lib.hid hin
  clear hN hA h1 h2 hD s0 s1 s2 s3 s4 hold hsz hin
  rw [hL] at c4 hE H2
  rw [hK] at c1 H2
  clear hL hK
  go_enter Tryd.func78, Tryd.ntmps78
  go_wp2_with fail
  try simp only [hb]
  go_loopw [6] (OrRel w b [.string d.name, .slice (some ⟨g, o, none⟩) n d.c] [.string s.name, .int .i64 kd, .int .i64 s.part, .slice s.kA s.keys.length s.kc, .slice s.nA l.length s.nc] d l) (fun x _ => l.length - (intOf x).toNat)
  case atStart => exact ⟨0, Nat.zero_le _, rfl, H2.out, fun j hj => by omega⟩
  case round =>
    obtain ⟨k, hk, rfl, hT, hok⟩ := hrel
    clear H2 c0 c1 c2 c3 c4
    have h9 := hT.old (List.mem_cons_of_mem _ (List.mem_cons_of_mem _ List.mem_cons_self))
    have b4 : wr.cell? ⟨b + 1, 4, none⟩ = some (.slice s.nA l.length s.nc) := hT.blk.cell 4
    have b1 : wr.cell? ⟨b + 1, 1, none⟩ = some (.int .i64 kd) := hT.blk.cell 1
    have a1 : wr.cell? ⟨b, 1, none⟩ = some (.slice (some ⟨g, o, none⟩) n d.c) := hT.r2.blk.cell 1
    by_cases hlt : k < l.length
    · obtain ⟨b2, o2, hnA, hcell⟩ := need_cells (hE.out.keep h9) (by omega)
      by_cases h3 : kd = 3
      · have t3 : (kd != 3) = false := by rw [h3]; rfl
        have e : orderB d i = false := decide_eq_false fun ⟨q, _⟩ => q (by rw [← HKI.out]; exact h3)
        have H3 := Lib.hid h3
        clear h3 hcell
        go_wp2_with fail
        go_ret
        exact ⟨by rw [e]; rfl, by first | exact h9 | (rw [hb] at h9; exact h9)⟩
      · have t3 : (kd != 3) = true := by rw [bne_iff_ne]; exact h3
        have hx : l[k] = l.getD k 0 := List.getElem_eq_getD (h := hlt) 0
        have hmem : l.getD k 0 ∈ l := by rw [← hx]; exact List.getElem_mem hlt
        have hin := HIN.out _ hmem
        have c0 := hcell k hlt
        rw [hx] at c0
        obtain ⟨m, hm⟩ : ∃ m : Nat, l.getD k 0 = (m : Int) := ⟨(l.getD k 0).toNat, by omega⟩
        rw [hm] at c0 hin hmem
        have hmn : m < n := by omega
        have c1 := HC.out _ h9 m hmn
        have HM : Hid (kindAt d (l.getD k 0).toNat = kindAt d m) := by rw [hm]; rfl
        have HMEM := Lib.hid hmem
        obtain ⟨q, hq⟩ : ∃ q, kindAt d m = q := ⟨_, rfl⟩
        rw [hq] at c1 HM
        have HQ := Lib.hid hq
        have HT := Lib.hid hT
        have HOK := Lib.hid hok
        have H9 := Lib.hid h9
        have H3 := Lib.hid h3
        have i0 : (0 : Int) ≤ (m : Int) := by omega
        have i1 : (m : Int) < (n : Int) := by omega
        rw [hnA] at b4 ⊢
        clear hx hin hm hq hT hok h9 hcell h3 hmem
        by_cases h5 : q = 1
        · have t5 : (q != 1) = false := by rw [h5]; rfl
          have HS : Hid (∀ j, j < k + 1 → kindAt d (l.getD j 0).toNat = 1) := fun j hj => by
            by_cases e : j = k
            · subst e; rw [HM.out]; exact h5
            · exact HOK.out j (by omega)
          have H5 := Lib.hid h5
          clear h5
          go_wp2_with fail
          go_quiet (fail)
          go_wp2_with fail
          go_roundw
          case rel => exact ⟨k + 1, by omega, by go_num, by rw [← hnA]; exact HT.out.drewN _, HS.out⟩
          case measure => simp [intOf]; omega
        · have t5 : (q != 1) = true := by rw [bne_iff_ne]; exact h5
          have e : orderB d i = true := decide_eq_true ⟨by rw [← HKI.out]; exact H3.out, (m : Int), by rw [← HNI.out]; exact HMEM.out, by rw [show ((m : Int)).toNat = m from rfl, HQ.out]; exact h5⟩
          clear h5
          go_wp2_with fail
          go_quiet (fail)
          go_wp2_with fail
          go_ret
          exact ⟨by rw [e]; rfl, by have h9 := below_drewN H9.out nq; first | exact h9 | (rw [hb] at h9; exact h9)⟩
    · obtain rfl : k = l.length := by omega
      have e : orderB d i = false := decide_eq_false fun ⟨_, m, hm, q⟩ => by
        rw [← HNI.out] at hm
        obtain ⟨j, hj, rfl⟩ := List.getElem_of_mem hm
        have := hok j hj
        rw [← List.getElem_eq_getD (h := hj)] at this
        exact q this
      go_wp2_with fail
      go_ret
      exact ⟨by rw [e]; rfl, by first | exact h9 | (rw [hb] at h9; exact h9)⟩
end Go.Proofs.YtpmoanjeoaeabaaDoor
end

section
/- Words on memory, more: rows that the library has written; rows that a call has made. -/
set_option linter.unusedVariables false
set_option linter.unusedSimpArgs false
set_option linter.unnecessarySimpa false
namespace Go.Proofs.YtpmoanjeoaeabaaDoor
open Go.RowKit Go.ChangeShapes Go.WideShapes Go.ChangeAt
open Go.Sort (Holds putCells)
section
variable {w0 w w' : World} {L : List HP} {E sz n c g : Nat} {A : Option Addr} {xs : List Value}
theorem Sat.putRow {α : Type} [Inhabited α] (enc : α → Value) (h : Sat w0 w (Row E 1 (some ⟨g, 0, none⟩) n c xs :: L)) (d : Array α) (hd : d.size = n) (q : Nat) :
    Sat w0 (Go.Sort.putRow enc (Go.Sort.ahead w q) g 0 d) (Row E 1 (some ⟨g, 0, none⟩) n c (d.toList.map enc) :: L) := by
  obtain ⟨g', cur, e, h1, h2, h3, h4, hl, hS⟩ := h.rowBlk
  cases e
  have hb : (Go.Sort.ahead w q).heap[g]? = some (.cells cur E (0, 0)) := hS.blkO
  have hp1 : (Go.Sort.putRow enc (Go.Sort.ahead w q) g 0 d).heap[g]? = some (.cells (putCells enc 0 d cur) E (0, 0)) := by
    have hb' : w.heap[g]? = some (.cells cur E (0, 0)) := hS.blkO
    simp [Go.Sort.putRow, Go.Sort.mapBlock, Array.getElem?_modify, hb', Go.Sort.onCells]
  have hp2 : ∀ k, k < w.heap.size → k ≠ g → (Go.Sort.putRow enc (Go.Sort.ahead w q) g 0 d).heap[k]? = w.heap[k]? := by
    intro k _ hk
    simp only [Go.Sort.putRow, Go.Sort.mapBlock, Array.getElem?_modify]
    rw [if_neg (fun e => hk e.symm)]
    rfl
  have hS2 : Sat w0 (Go.Sort.putRow enc (Go.Sort.ahead w q) g 0 d) (BlkO g (.cells (putCells enc 0 d cur) E (0, 0)) :: L) :=
    Sat.update hS rfl rfl rfl (by rw [Go.Sort.size_putRow]; exact Nat.le_refl _) hp1 hp2
  refine hS2.rowOf (by simp [hd]) h1 h2 (by simp [putCells, h3]) ?_
  apply List.ext_getElem?
  intro k
  rw [List.getElem?_take]
  by_cases hk : k < n * 1
  · rw [if_pos hk, Array.getElem?_toList]
    simp only [putCells, Array.getElem?_mapIdx, List.getElem?_map, Array.getElem?_toList]
    rw [Array.getElem?_eq_getElem (show k < cur.size by rw [h3]; omega), Option.map_some, if_pos ⟨by omega, by omega⟩, Nat.sub_zero, getElem!_pos d k (by omega), Array.getElem?_eq_getElem (show k < d.size by omega)]
    rfl
  · rw [if_neg hk, List.getElem?_eq_none (by simp; omega)]
theorem Sat.rowShrink {m : Nat} (h : Sat w0 w (Row E sz A n c xs :: L)) (hm : m ≤ n) (ha : A ≠ none) : Sat w0 w (Row E sz A m c (xs.take (m * sz)) :: L) := by
  cases A with
  | none => exact absurd rfl ha
  | some a =>
    obtain ⟨g, cur, rfl, h1, h2, h3, h4, hl, hS⟩ := h.rowBlk
    have hms : m * sz ≤ n * sz := Nat.mul_le_mul_right _ hm
    refine hS.rowOf (by rw [List.length_take, hl]; omega) (by omega) h2 h3 ?_
    rw [← h4, List.take_take, Nat.min_eq_left hms]
/-- a row that a call has made -/
theorem Sat.rowNew (h : Sat w0 w L) (hb : Below w.heap.size w w') (ho : w'.ownsRow w.heap.size E sz (.slice A n c) n xs) : Sat w0 w' (Row E sz A n c xs :: L) := by
  have far := h.below hb
  obtain ⟨hl, ho⟩ := ho
  rcases ho with ⟨e, rfl⟩ | ⟨g', cap', cur', e, hg, hg', r1, r2, r3, r4⟩
  · cases e
    have hx : xs = [] := List.eq_nil_of_length_eq_zero (by simpa using hl)
    subst hx
    exact far.nilRow E sz
  · cases e
    refine Sat.rowOf (g := g') (cur := cur') ?_ hl r1 r2 r3 r4
    refine ⟨far.os, far.tape, far.output, far.size, fun k => if k = g' then some (.cells cur' E (0, 0)) else none, hp w, fun k x hk => ?_, fun k o hk => ?_, fun k => ?_, by simp [BlkO], h.own⟩
    · by_cases e : k = g'
      · subst e; simp at hk; subst hk; exact hg'
      · simp [e] at hk
    · exact (hb.block k (Array.getElem?_eq_some_iff.1 hk).1).trans hk
    · by_cases e : k = g'
      · subst e; exact .inr (Array.getElem?_eq_none hg)
      · exact .inl (by simp [e])
theorem Sat.holdsStr {M : List ByteArray} (h : Sat w0 w (Row E 1 (some ⟨g, 0, none⟩) M.length c (M.map Value.string) :: L)) : Holds encStr w g 0 (M.map fun b => b.data.toList).toArray := by
  intro j hj
  have hj' : j < M.length := by simpa using hj
  have hn : M.map Value.string ≠ [] := by intro e; rw [List.map_eq_nil_iff] at e; subst e; simp at hj'
  obtain ⟨g', e, hc, hf⟩ := h.rowCell hn
  cases e
  refine ⟨?_, hf _⟩
  rw [Nat.zero_add, hc j (by simpa using hj'), List.getElem?_map, List.getElem?_eq_getElem hj', Option.map_some]
  rw [getElem!_pos _ j hj]
  simp [encStr]
theorem encStr_map (M : List ByteArray) : (M.map fun b => b.data.toList).map encStr = M.map Value.string := by
  rw [List.map_map]
  apply List.map_congr_left
  intro b _
  simp [encStr]
end
end Go.Proofs.YtpmoanjeoaeabaaDoor
end

section
/- A region that draws its order, walked once, in the order of the text: whatever its operations and callees leave of memory is one class of worlds, told by the pieces that stand in it. -/
set_option linter.unusedVariables false
set_option linter.unusedSimpArgs false
set_option linter.unnecessarySimpa false
namespace Go.Proofs.YtpmoanjeoaeabaaDoor
open Go.RowKit Go.ChangeShapes Go.WideShapes Go.ChangeAt
/-- a world in which these pieces stand -/
structure In (w0 : World) (L : List HP) where
  w : World
  ok : Sat w0 w L
theorem wp_region_in {P : Program} {id : Nat} {Q : Exit → Act → World → Prop} {a : Act} {w w0 : World} {l : List Oper} {L : List HP} (hS : Sat w0 w L) (hm : P.follows .mixedOrders = true) (hB : Region.lexB .any l.toArray = true)
    (h : wpQuiet P l.toArray (fun w' => ∃ x : In w0 L, w' = x.w) (fun a' => ∀ w', (∃ x : In w0 L, w' = x.w) → Q .normal a' w') l a) : (Code.region id l.toArray true).wp P Q a w :=
  wp_region_quiet (C := fun w' => ∃ x : In w0 L, w' = x.w) hm hB ⟨⟨_, hS.drew⟩, rfl⟩ (by simpa using h)
/-- a callee's contract, in a world of the class -/
theorem Calls.in_ {P : Program} {f : FuncId} {args : Array Value} {w0 : World} {L : List HP} {x : In w0 L} {v : Value} (h : Calls P f args x.w fun e w' => e = .returned v ∧ Sat w0 w' L) :
    Calls P f args x.w fun e w' => e = .returned v ∧ ∃ y : In w0 L, w' = y.w := h.mono fun _ _ ⟨he, hs⟩ => ⟨he, ⟨_, hs⟩, rfl⟩
theorem Calls.in_same {P : Program} {f : FuncId} {args : Array Value} {w0 : World} {L : List HP} {x : In w0 L} {v : Value} (h : Calls P f args x.w fun e w' => e = .returned v ∧ w' = x.w) :
    Calls P f args x.w fun e w' => e = .returned v ∧ ∃ y : In w0 L, w' = y.w := h.mono fun _ _ ⟨he, hs⟩ => ⟨he, x, hs⟩
theorem Calls.in_drewN {P : Program} {f : FuncId} {args : Array Value} {w0 : World} {L : List HP} {x : In w0 L} {v : Value} (h : Calls P f args x.w fun e w' => e = .returned v ∧ ∃ m, w' = x.w.drewN m) :
    Calls P f args x.w fun e w' => e = .returned v ∧ ∃ y : In w0 L, w' = y.w := h.mono fun _ _ ⟨he, m, hs⟩ => ⟨he, ⟨_, x.ok.drewN m⟩, hs⟩
theorem Calls.in_below {P : Program} {f : FuncId} {args : Array Value} {w0 : World} {L : List HP} {x : In w0 L} {v : Value} (h : Calls P f args x.w fun e w' => e = .returned v ∧ Below x.w.heap.size x.w w') :
    Calls P f args x.w fun e w' => e = .returned v ∧ ∃ y : In w0 L, w' = y.w := h.mono fun _ _ ⟨he, hb⟩ => ⟨he, ⟨_, x.ok.below hb⟩, rfl⟩
end Go.Proofs.YtpmoanjeoaeabaaDoor
end
