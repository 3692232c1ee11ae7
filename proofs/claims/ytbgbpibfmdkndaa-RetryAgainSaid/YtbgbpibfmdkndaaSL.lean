/- Words on memory: what stands in it, piece by piece, each piece in blocks of its own. -/
import Derived.Test.YtbgbpibfmdkndaaCom
import Derived.Maps.AppendAt
set_option linter.unusedVariables false
set_option linter.unusedSimpArgs false
set_option linter.unnecessarySimpa false
namespace Go.Proofs.Ytbgbpibfmdkndaa
open Go.RowKit Go.ChangeShapes Go.WideShapes Go.ChangeAt
/-- a part of memory -/
abbrev Hp := Nat → Option Obj
def Hp.le (a b : Hp) : Prop := ∀ g o, a g = some o → b g = some o
theorem Hp.le.refl (a : Hp) : a.le a := fun _ _ h => h
theorem Hp.le.trans {a b c : Hp} (h : a.le b) (k : b.le c) : a.le c := fun g o e => k g o (h g o e)
/-- what is said of a part -/
def HP := Hp → Prop
/-- the pieces stand in unlike blocks -/
def Splits : Hp → List HP → Prop
  | _, [] => True
  | h, A :: L => ∃ h1 h2 : Hp, h1.le h ∧ h2.le h ∧ (∀ g, h1 g = none ∨ h2 g = none) ∧ A h1 ∧ Splits h2 L
def Hp.or (a b : Hp) : Hp := fun g => match a g with | some o => some o | none => b g
theorem Hp.or_left (a b : Hp) : a.le (a.or b) := fun g o h => by simp [Hp.or, h]
theorem Hp.or_right {a b : Hp} (hd : ∀ g, a g = none ∨ b g = none) : b.le (a.or b) := fun g o h => by
  rcases hd g with e | e
  · simp [Hp.or, e, h]
  · rw [e] at h; cases h
theorem Hp.or_le {a b c : Hp} (h : a.le c) (k : b.le c) : (a.or b).le c := fun g o e => by
  unfold Hp.or at e
  cases ha : a g with
  | some x => rw [ha] at e; exact h g o (ha.trans e)
  | none => rw [ha] at e; exact k g o e
theorem Hp.or_none {a b : Hp} {g : Nat} : a.or b g = none ↔ a g = none ∧ b g = none := by
  unfold Hp.or
  cases ha : a g <;> simp
theorem Hp.le_none {a b : Hp} (h : a.le b) {g : Nat} (e : b g = none) : a g = none := by
  cases ha : a g with
  | none => rfl
  | some o => rw [h g o ha] at e; cases e
theorem Splits.mono {h h' : Hp} (hh : h.le h') : ∀ {L : List HP}, Splits h L → Splits h' L
  | [], _ => trivial
  | _ :: _, ⟨h1, h2, l1, l2, d, a, s⟩ => ⟨h1, h2, l1.trans hh, l2.trans hh, d, a, s⟩
theorem Splits.swap {h : Hp} {A B : HP} {L : List HP} : Splits h (A :: B :: L) → Splits h (B :: A :: L) := by
  rintro ⟨h1, h2, l1, l2, d, a, h3, h4, l3, l4, d2, b, s⟩
  have d14 : ∀ g, h1 g = none ∨ h4 g = none := fun g => (d g).imp id fun e => Hp.le_none l4 e
  refine ⟨h3, h1.or h4, l3.trans l2, Hp.or_le l1 (l4.trans l2), fun g => ?_, b, h1, h4, Hp.or_left _ _, Hp.or_right d14, d14, a, s⟩
  rcases d g with e | e
  · rcases d2 g with e2 | e2
    · exact .inl e2
    · exact .inr (Hp.or_none.2 ⟨e, e2⟩)
  · exact .inl (Hp.le_none l3 e)
theorem Splits.tail {h : Hp} {A : HP} {L : List HP} : Splits h (A :: L) → Splits h L := fun ⟨_, _, _, l2, _, _, s⟩ => s.mono l2
theorem Splits.perm {L M : List HP} (p : L.Perm M) : ∀ {h : Hp}, Splits h L → Splits h M := by
  induction p with
  | nil => exact fun s => s
  | cons A _ ih => rintro h ⟨h1, h2, l1, l2, d, a, s⟩; exact ⟨h1, h2, l1, l2, d, a, ih s⟩
  | swap A B L => exact fun s => s.swap
  | trans _ _ ih1 ih2 => exact fun s => ih2 (ih1 s)
theorem Splits.imp {h : Hp} {A B : HP} {L : List HP} (k : ∀ h, A h → B h) : Splits h (A :: L) → Splits h (B :: L) := fun ⟨h1, h2, l1, l2, d, a, s⟩ => ⟨h1, h2, l1, l2, d, k _ a, s⟩
theorem Splits.mem {A : HP} : ∀ {L : List HP} {h : Hp}, A ∈ L → Splits h L → ∃ h1 : Hp, h1.le h ∧ A h1
  | [], _, m, _ => by cases m
  | B :: L, h, m, ⟨h1, h2, l1, l2, _, a, s⟩ => by
    cases m with
    | head => exact ⟨h1, l1, a⟩
    | tail _ m => obtain ⟨h3, l3, a3⟩ := Splits.mem m s; exact ⟨h3, l3.trans l2, a3⟩
/-- several pieces as one -/
def sep (L : List HP) : HP := fun h => Splits h L
theorem Splits.open_ : ∀ {M L : List HP} {h : Hp}, Splits h (sep M :: L) → Splits h (M ++ L)
  | [], _, _, ⟨_, _, _, l2, _, _, s⟩ => s.mono l2
  | A :: M, L, h, ⟨h1, h2, l1, l2, d, ⟨h3, h4, l3, l4, d2, a, m⟩, s⟩ => by
    have d42 : ∀ g, h4 g = none ∨ h2 g = none := fun g => (d g).imp (fun e => Hp.le_none l4 e) id
    refine ⟨h3, h4.or h2, l3.trans l1, Hp.or_le (l4.trans l1) l2, fun g => ?_, a, Splits.open_ (M := M) ⟨h4, h2, Hp.or_left _ _, Hp.or_right d42, d42, m, s⟩⟩
    rcases d2 g with e | e
    · exact .inl e
    · rcases d g with e2 | e2
      · exact .inl (Hp.le_none l3 e2)
      · exact .inr (Hp.or_none.2 ⟨e, e2⟩)
theorem Splits.close : ∀ {M L : List HP} {h : Hp}, Splits h (M ++ L) → Splits h (sep M :: L)
  | [], _, h, s => ⟨fun _ => none, h, fun _ _ e => by simp at e, Hp.le.refl h, fun _ => .inl rfl, trivial, s⟩
  | A :: M, L, h, ⟨h1, h2, l1, l2, d, a, s⟩ => by
    obtain ⟨h3, h4, l3, l4, d2, m, s⟩ := Splits.close (M := M) s
    have d13 : ∀ g, h1 g = none ∨ h3 g = none := fun g => (d g).imp id fun e => Hp.le_none l3 e
    refine ⟨h1.or h3, h4, Hp.or_le l1 (l3.trans l2), l4.trans l2, fun g => ?_, ⟨h1, h3, Hp.or_left _ _, Hp.or_right d13, d13, a, m⟩, s⟩
    rcases d g with e | e
    · rcases d2 g with e2 | e2
      · exact .inl (Hp.or_none.2 ⟨e, e2⟩)
      · exact .inr e2
    · exact .inr (Hp.le_none l4 e)
def ex {α : Type} (P : α → HP) : HP := fun h => ∃ x, P x h
theorem Splits.open_ex {α : Type} {P : α → HP} {L : List HP} {h : Hp} : Splits h (ex P :: L) → ∃ x, Splits h (P x :: L) := fun ⟨h1, h2, l1, l2, d, ⟨x, a⟩, s⟩ => ⟨x, h1, h2, l1, l2, d, a, s⟩
theorem Splits.close_ex {α : Type} {P : α → HP} {L : List HP} {h : Hp} (x : α) : Splits h (P x :: L) → Splits h (ex P :: L) := fun ⟨h1, h2, l1, l2, d, a, s⟩ => ⟨h1, h2, l1, l2, d, ⟨x, a⟩, s⟩
/-- a piece of which something plain is known -/
def wth (p : Prop) (A : HP) : HP := fun h => p ∧ A h
theorem Splits.open_wth {p : Prop} {A : HP} {L : List HP} {h : Hp} : Splits h (wth p A :: L) → p ∧ Splits h (A :: L) := fun ⟨h1, h2, l1, l2, d, ⟨x, a⟩, s⟩ => ⟨x, h1, h2, l1, l2, d, a, s⟩
theorem Splits.close_wth {p : Prop} {A : HP} {L : List HP} {h : Hp} (x : p) : Splits h (A :: L) → Splits h (wth p A :: L) := fun ⟨h1, h2, l1, l2, d, a, s⟩ => ⟨h1, h2, l1, l2, d, ⟨x, a⟩, s⟩
/-- a block, known whole -/
def BlkO (g : Nat) (o : Obj) : HP := fun h => h g = some o
def Blk (g t : Nat) (vs : List Value) : HP := BlkO g (.cells vs.toArray t)
/-- all that was there when the call began -/
def Old (w0 : World) : HP := fun h => ∀ g, g < w0.heap.size → h g = w0.heap[g]?
def hp (w : World) : Hp := fun g => w.heap[g]?
/-- what stands in memory: pieces, each in blocks of its own; the streams are as they were -/
structure Sat (w0 w : World) (L : List HP) : Prop where
  os : w.os = w0.os
  tape : w.tape = w0.tape
  output : w.output = w0.output
  size : w0.heap.size ≤ w.heap.size
  own : Splits (hp w) L
section
variable {w0 w w' : World} {L M F : List HP} {A B C D E G : HP}
theorem Sat.start (w : World) : Sat w w [Old w] :=
  ⟨rfl, rfl, rfl, Nat.le_refl _, hp w, fun _ => none, Hp.le.refl _, fun _ _ e => by simp at e, fun _ => .inr rfl, fun _ _ => rfl, trivial⟩
theorem Sat.perm (h : Sat w0 w L) (p : L.Perm M) : Sat w0 w M := ⟨h.os, h.tape, h.output, h.size, h.own.perm p⟩
theorem Sat.map (h : Sat w0 w L) (k : ∀ h, Splits h L → Splits h M) : Sat w0 w M := ⟨h.os, h.tape, h.output, h.size, k _ h.own⟩
theorem Sat.tail (h : Sat w0 w (A :: L)) : Sat w0 w L := h.map fun _ => Splits.tail
/-- the second, third .. piece to the front -/
theorem Sat.r2 (h : Sat w0 w (A :: B :: L)) : Sat w0 w (B :: A :: L) := h.map fun _ => Splits.swap
theorem Sat.r3 (h : Sat w0 w (A :: B :: C :: L)) : Sat w0 w (C :: A :: B :: L) := h.perm (((List.Perm.swap C B L).cons A).trans (List.Perm.swap C A (B :: L)))
theorem Sat.r4 (h : Sat w0 w (A :: B :: C :: D :: L)) : Sat w0 w (D :: A :: B :: C :: L) := h.perm ((((List.Perm.swap D C L).cons B).cons A).trans (((List.Perm.swap D B (C :: L)).cons A).trans (List.Perm.swap D A _)))
theorem Sat.r5 (h : Sat w0 w (A :: B :: C :: D :: E :: L)) : Sat w0 w (E :: A :: B :: C :: D :: L) := (h.perm ((((List.Perm.swap E D L).cons C).cons B).cons A)).r4
theorem Sat.r6 (h : Sat w0 w (A :: B :: C :: D :: E :: G :: L)) : Sat w0 w (G :: A :: B :: C :: D :: E :: L) := (h.perm (((((List.Perm.swap G E L).cons D).cons C).cons B).cons A)).r5
/-- the first piece behind the second, third .. -/
theorem Sat.b2 (h : Sat w0 w (A :: B :: L)) : Sat w0 w (B :: A :: L) := h.r2
theorem Sat.b3 (h : Sat w0 w (A :: B :: C :: L)) : Sat w0 w (B :: C :: A :: L) := h.perm ((List.Perm.swap B A _).trans ((List.Perm.swap C A L).cons B))
theorem Sat.b4 (h : Sat w0 w (A :: B :: C :: D :: L)) : Sat w0 w (B :: C :: D :: A :: L) := h.b3.perm (((List.Perm.swap D A L).cons C).cons B)
theorem Sat.b5 (h : Sat w0 w (A :: B :: C :: D :: E :: L)) : Sat w0 w (B :: C :: D :: E :: A :: L) := h.b4.perm ((((List.Perm.swap E A L).cons D).cons C).cons B)
theorem Sat.open_ (h : Sat w0 w (sep M :: L)) : Sat w0 w (M ++ L) := h.map fun _ => Splits.open_
theorem Sat.close (h : Sat w0 w (M ++ L)) : Sat w0 w (sep M :: L) := h.map fun _ => Splits.close
theorem Sat.close2 (h : Sat w0 w (A :: B :: L)) : Sat w0 w (sep [A, B] :: L) := Sat.close (M := [A, B]) h
theorem Sat.close3 (h : Sat w0 w (A :: B :: C :: L)) : Sat w0 w (sep [A, B, C] :: L) := Sat.close (M := [A, B, C]) h
theorem Sat.open_ex {α : Type} {P : α → HP} (h : Sat w0 w (ex P :: L)) : ∃ x, Sat w0 w (P x :: L) := let ⟨x, hx⟩ := h.own.open_ex; ⟨x, h.os, h.tape, h.output, h.size, hx⟩
theorem Sat.close_ex {α : Type} {P : α → HP} (x : α) (h : Sat w0 w (P x :: L)) : Sat w0 w (ex P :: L) := h.map fun _ => Splits.close_ex x
theorem Sat.open_wth {p : Prop} (h : Sat w0 w (wth p A :: L)) : p ∧ Sat w0 w (A :: L) := ⟨h.own.open_wth.1, h.map fun _ s => s.open_wth.2⟩
theorem Sat.close_wth {p : Prop} (x : p) (h : Sat w0 w (A :: L)) : Sat w0 w (wth p A :: L) := h.map fun _ => Splits.close_wth x
theorem Sat.imp (h : Sat w0 w (A :: L)) (k : ∀ h, A h → B h) : Sat w0 w (B :: L) := h.map fun _ => Splits.imp k
theorem Sat.drewN (h : Sat w0 w L) (n : Nat) : Sat w0 (w.drewN n) L := ⟨h.os, h.tape, h.output, h.size, h.own⟩
theorem Sat.drew (h : Sat w0 w L) : Sat w0 w.drew L := ⟨h.os, h.tape, h.output, h.size, h.own⟩
theorem Sat.undrew (h : Sat w0 w.drew L) : Sat w0 w L := ⟨h.os, h.tape, h.output, h.size, h.own⟩
theorem Sat.below (h : Sat w0 w L) (hb : Below w.heap.size w w') : Sat w0 w' L :=
  ⟨hb.os.trans h.os, hb.tape.trans h.tape, hb.output.trans h.output, Nat.le_trans h.size hb.size, h.own.mono fun g o e => (hb.block g (Array.getElem?_eq_some_iff.1 e).1).trans e⟩
theorem Sat.blk {g t : Nat} {vs : List Value} (h : Sat w0 w (Blk g t vs :: L)) : At w g t vs := let ⟨_, _, l1, _, _, a, _⟩ := h.own; l1 _ _ a
theorem Sat.blkO {g : Nat} {o : Obj} (h : Sat w0 w (BlkO g o :: L)) : w.heap[g]? = some o := let ⟨_, _, l1, _, _, a, _⟩ := h.own; l1 _ _ a
theorem Sat.old (h : Sat w0 w L) (m : Old w0 ∈ L) : Below w0.heap.size w0 w := by
  obtain ⟨h1, l1, a⟩ := h.own.mem m
  refine ⟨h.os, h.tape, h.output, h.size, fun k hk => ?_⟩
  have e := a k hk
  rw [Array.getElem?_eq_getElem hk] at e ⊢
  exact l1 k _ e
/-- a block is written -/
theorem Sat.update {g : Nat} {o o' : Obj} (h : Sat w0 w (BlkO g o :: L)) (h1 : w'.os = w.os) (h2 : w'.tape = w.tape) (h3 : w'.output = w.output) (h4 : w.heap.size ≤ w'.heap.size)
    (h5 : w'.heap[g]? = some o') (h6 : ∀ k, k < w.heap.size → k ≠ g → w'.heap[k]? = w.heap[k]?) : Sat w0 w' (BlkO g o' :: L) := by
  refine ⟨h1.trans h.os, h2.trans h.tape, h3.trans h.output, Nat.le_trans h.size h4, ?_⟩
  obtain ⟨a, b, l1, l2, d, e, s⟩ := h.own
  have hbg : b g = none := (d g).resolve_left (by rw [show a g = some o from e]; simp)
  refine ⟨fun k => if k = g then some o' else none, b, fun k x hk => ?_, fun k x hk => ?_, fun k => ?_, by simp [BlkO], s⟩
  · by_cases hkg : k = g
    · subst hkg; simp at hk; subst hk; exact h5
    · simp [hkg] at hk
  · have hkg : k ≠ g := by rintro rfl; rw [hbg] at hk; cases hk
    have := l2 k x hk
    exact (h6 k (Array.getElem?_eq_some_iff.1 this).1 hkg).trans this
  · by_cases hkg : k = g
    · subst hkg; exact .inr hbg
    · exact .inl (by simp [hkg])
theorem Sat.set {g t : Nat} {vs : List Value} (h : Sat w0 w (Blk g t vs :: L)) (i : Nat) (v : Value) : Sat w0 (w.setCell ⟨g, i, none⟩ v) (Blk g t (vs.set i v) :: L) :=
  Sat.update h rfl rfl rfl (by simp) (h.blk.set i v) fun k _ hk => Below.heap_setCell w ⟨g, i, none⟩ v k hk
theorem Sat.chg {g t u : Nat} {vs us : List Value} (h : Sat w0 w (Blk g t vs :: L)) (c : Chg g w w') (a : At w' g u us) : Sat w0 w' (Blk g u us :: L) :=
  Sat.update h c.os c.tape c.output c.size a c.block
theorem Sat.alloc (h : Sat w0 w L) (o : Obj) : Sat w0 (w.alloc o) (BlkO w.heap.size o :: L) := by
  refine ⟨h.os, h.tape, h.output, by have := h.size; simp; omega, fun k => if k = w.heap.size then some o else none, hp w, fun k x hk => ?_, fun k x hk => ?_, fun k => ?_, by simp [BlkO], h.own⟩
  · by_cases e : k = w.heap.size
    · subst e; simp at hk; subst hk; exact heap_alloc_new w o
    · simp [e] at hk
  · exact (heap_alloc_old w o (Array.getElem?_eq_some_iff.1 hk).1).trans hk
  · by_cases e : k = w.heap.size
    · subst e; exact .inr (by simp [hp])
    · exact .inl (by simp [e])
theorem Sat.new (h : Sat w0 w L) (cs : Array Value) (t : Nat) : Sat w0 (w.alloc (.cells cs t)) (Blk w.heap.size t cs.toList :: L) := h.alloc _
theorem old_cell {w w' : World} {p : Addr} {v : Value} (hb : Below w.heap.size w w') (h : w.cell? p = some v) : w'.cell? p = some v := (hb.cell (World.block_lt_of_cell? w _ h)).trans h
theorem Sat.lt {g t : Nat} {vs : List Value} (h : Sat w0 w (Blk g t vs :: L)) : g < w.heap.size := h.blk.lt
end
/-- a row that a slice owns: its n elements of sz cells each -/
def Row (E sz : Nat) (A : Option Addr) (n c : Nat) (xs : List Value) : HP := fun h =>
  xs.length = n * sz ∧ ((A = none ∧ n = 0 ∧ c = 0) ∨ ∃ g cur, A = some ⟨g, 0, none⟩ ∧ h g = some (.cells cur E (0, 0)) ∧ n ≤ c ∧ c ≤ maxLen ∧ cur.size = c * sz ∧ cur.toList.take (n * sz) = xs)
section
variable {w0 w w' : World} {L : List HP} {E sz n c : Nat} {A : Option Addr} {xs : List Value}
theorem Sat.row (h : Sat w0 w (Row E sz A n c xs :: L)) : w.ownsRow 0 E sz (.slice A n c) n xs := by
  obtain ⟨h1, _, l1, _, _, ⟨hl, a⟩, _⟩ := h.own
  refine ⟨hl, ?_⟩
  rcases a with ⟨rfl, rfl, rfl⟩ | ⟨g, cur, rfl, hg, h2, h3, h4, h5⟩
  · exact .inl ⟨rfl, rfl⟩
  · exact .inr ⟨g, c, cur, rfl, Nat.zero_le _, l1 _ _ hg, h2, h3, h4, h5⟩
theorem Sat.nilRow (h : Sat w0 w L) (E sz : Nat) : Sat w0 w (Row E sz none 0 0 [] :: L) :=
  ⟨h.os, h.tape, h.output, h.size, fun _ => none, hp w, fun _ _ e => by simp at e, Hp.le.refl _, fun _ => .inl rfl, ⟨by simp, .inl ⟨rfl, rfl, rfl⟩⟩, h.own⟩
theorem Sat.rowOf {g : Nat} {cur : Array Value} (h : Sat w0 w (BlkO g (.cells cur E (0, 0)) :: L)) (h1 : xs.length = n * sz) (h2 : n ≤ c) (h3 : c ≤ maxLen) (h4 : cur.size = c * sz) (h5 : cur.toList.take (n * sz) = xs) :
    Sat w0 w (Row E sz (some ⟨g, 0, none⟩) n c xs :: L) :=
  h.imp fun _ a => ⟨h1, .inr ⟨g, cur, rfl, a, h2, h3, h4, h5⟩⟩
theorem Sat.rowLen (h : Sat w0 w (Row E sz A n c xs :: L)) : xs.length = n * sz := h.row.1
theorem Sat.rowCap (h : Sat w0 w (Row E sz A n c xs :: L)) : n ≤ c ∧ c ≤ maxLen := by
  obtain ⟨h1, _, _, _, _, ⟨_, a⟩, _⟩ := h.own
  rcases a with ⟨_, rfl, rfl⟩ | ⟨g, cur, _, _, h2, h3, _⟩
  · exact ⟨Nat.le_refl _, Nat.zero_le _⟩
  · exact ⟨h2, h3⟩
theorem Sat.rowNone (h : Sat w0 w (Row E sz none n c xs :: L)) : n = 0 ∧ c = 0 ∧ xs = [] := by
  obtain ⟨h1, _, _, _, _, ⟨hl, a⟩, _⟩ := h.own
  rcases a with ⟨_, rfl, rfl⟩ | ⟨g, cur, e, _⟩
  · exact ⟨rfl, rfl, List.eq_nil_of_length_eq_zero (by simpa using hl)⟩
  · cases e
/-- its block, where there is one -/
theorem Sat.rowBlk {a : Addr} (h : Sat w0 w (Row E sz (some a) n c xs :: L)) : ∃ g cur, a = ⟨g, 0, none⟩ ∧ n ≤ c ∧ c ≤ maxLen ∧ cur.size = c * sz ∧ cur.toList.take (n * sz) = xs ∧ xs.length = n * sz ∧ Sat w0 w (BlkO g (.cells cur E (0, 0)) :: L) := by
  obtain ⟨h1, h2, l1, l2, d, ⟨hl, a⟩, s⟩ := h.own
  rcases a with ⟨e, _⟩ | ⟨g, cur, e, hg, r1, r2, r3, r4⟩
  · cases e
  · cases e
    exact ⟨g, cur, rfl, r1, r2, r3, r4, hl, h.os, h.tape, h.output, h.size, h1, h2, l1, l2, d, hg, s⟩
/-- its cells -/
theorem Sat.rowCell (h : Sat w0 w (Row E sz A n c xs :: L)) (hn : xs ≠ []) : ∃ g, A = some ⟨g, 0, none⟩ ∧ (∀ j, j < xs.length → w.cell? ⟨g, j, none⟩ = xs[j]?) ∧ ∀ j, w.frozen? ⟨g, j, none⟩ = false := by
  cases A with
  | none => exact absurd h.rowNone.2.2 hn
  | some a =>
    obtain ⟨g, cur, rfl, h1, h2, h3, h4, hl, hS⟩ := h.rowBlk
    have hb := hS.blkO
    refine ⟨g, rfl, fun j hj => ?_, fun j => by simp [World.frozen?, hb]⟩
    rw [cell_of_row w g j cur E (0, 0) hb, ← h4, List.getElem?_take, if_pos (by omega)]
    simp
/-- an element is written -/
theorem Sat.rowSet {g : Nat} (h : Sat w0 w (Row E sz (some ⟨g, 0, none⟩) n c xs :: L)) (j : Nat) (v : Value) : Sat w0 (w.setCell ⟨g, j, none⟩ v) (Row E sz (some ⟨g, 0, none⟩) n c (xs.set j v) :: L) := by
  obtain ⟨g', cur, e, h1, h2, h3, h4, hl, hS⟩ := h.rowBlk
  cases e
  have hb := hS.blkO
  have hS2 : Sat w0 (w.setCell ⟨g, j, none⟩ v) (BlkO g (.cells (cur.setIfInBounds j v) E (0, 0)) :: L) :=
    Sat.update hS rfl rfl rfl (by simp) (by simp [World.setCell, Array.getElem?_modify, hb]) fun k _ hk => Below.heap_setCell w ⟨g, j, none⟩ v k hk
  refine hS2.rowOf (by simpa using hl) h1 h2 (by simpa using h3) ?_
  rw [← h4]
  simp [List.take_set]
/-- behind a law that ends in 'grownBy' -/
theorem Sat.rowGrown {A' : Option Addr} {n' c' : Nat} {xs' : List Value} (h : Sat w0 w (Row E sz A n c xs :: L)) (ho : w'.ownsRow 0 E sz (.slice A' n' c') n' xs') (hg : w.grownBy w' (Value.slice A n c).ownBlock)
    (hat : (Value.slice A' n' c').ownBlock = (Value.slice A n c).ownBlock ∨ (Value.slice A' n' c').ownBlock = some w.heap.size) : Sat w0 w' (Row E sz A' n' c' xs' :: L) := by
  obtain ⟨hl, ho⟩ := ho
  have far : Sat w0 w' L := by
    refine ⟨hg.os.trans h.os, hg.tape.trans h.tape, hg.output.trans h.output, Nat.le_trans h.size hg.size, ?_⟩
    obtain ⟨h1, h2, l1, l2, d, ⟨_, a⟩, s⟩ := h.own
    refine s.mono fun k o hk => ?_
    have hk' := l2 k o hk
    refine (hg.block k (Array.getElem?_eq_some_iff.1 hk').1 fun e => ?_).trans hk'
    rcases a with ⟨rfl, _⟩ | ⟨g, cur, rfl, hgg, _⟩
    · simp [Value.ownBlock] at e
    · simp [Value.ownBlock] at e
      subst e
      rcases d k with e2 | e2
      · rw [hgg] at e2; cases e2
      · rw [hk] at e2; cases e2
  rcases ho with ⟨e, rfl⟩ | ⟨g', cap', cur', e, _, hg', r1, r2, r3, r4⟩
  · cases e
    have hx : xs' = [] := List.eq_nil_of_length_eq_zero (by simpa using hl)
    subst hx
    exact far.nilRow E sz
  · cases e
    by_cases hold : (Value.slice A n c).ownBlock = some g'
    · cases A with
      | none => simp [Value.ownBlock] at hold
      | some a =>
        obtain ⟨g, cur, rfl, _, _, _, _, _, hS⟩ := h.rowBlk
        simp [Value.ownBlock] at hold
        subst hold
        exact (Sat.update hS hg.os hg.tape hg.output hg.size hg' fun k hk hne => hg.block k hk (by simp [Value.ownBlock]; omega)).rowOf hl r1 r2 r3 r4
    · have hnew : g' = w.heap.size := by
        rcases hat with e | e
        · exact absurd (e.symm.trans (by simp [Value.ownBlock])) hold
        · simpa [Value.ownBlock] using e
      refine Sat.rowOf (g := g') (cur := cur') ?_ hl r1 r2 r3 r4
      refine ⟨far.os, far.tape, far.output, far.size, ?_⟩
      obtain ⟨h1, h2, l1, l2, d, ⟨_, a⟩, s⟩ := h.own
      refine ⟨fun k => if k = g' then some (.cells cur' E (0, 0)) else none, h2, fun k x hk => ?_, fun k o hk => ?_, fun k => ?_, by simp [BlkO], s⟩
      · by_cases e : k = g'
        · subst e; simp at hk; subst hk; exact hg'
        · simp [e] at hk
      · have hk' := l2 k o hk
        refine (hg.block k (Array.getElem?_eq_some_iff.1 hk').1 fun e => ?_).trans hk'
        rcases a with ⟨rfl, _⟩ | ⟨g, cur, rfl, hgg, _⟩
        · simp [Value.ownBlock] at e
        · simp [Value.ownBlock] at e
          subst e
          rcases d k with e2 | e2
          · rw [hgg] at e2; cases e2
          · rw [hk] at e2; cases e2
      · by_cases e : k = g'
        · subst e
          refine .inr ?_
          cases hh : h2 k with
          | none => rfl
          | some o => have := l2 k o hh; rw [hp, hnew] at this; simp at this
        · exact .inl (by simp [e])
end
/-- append onto a row that is owned -/
theorem wp_app {P : Program} {w0 w : World} {L : List HP} {o : Oper} {a : Act} {K : Act → World → Prop} {Q : Exit → Act → World → Prop} (s x : Operand) (t : TypeId)
    (ho : o.op = .call { callee := .builtin .append, args := #[s, x], argTypes := #[t, t] })
    (e : TypeId) (i : TypeInfo) (z : Value) (size bytes : Nat) (ht : P.underlying t = some (.slice e)) (hi : P.info? e = some i) (hz : i.zero = some z)
    (hsize : i.size = size) (hby : i.bytes = bytes) (hzs : z.cells.size = size) (hsz : 0 < size)
    {A : Option Addr} {n c : Nat} {xs : List Value} (hs : a.eval s = .slice A n c) (hS : Sat w0 w (Row e size A n c xs :: L))
    (ad : Addr) (m cc : Nat) (news : List Value) (hx : a.eval x = .slice (some ad) m cc) (hl : news.length = m * size) (hnews : ∀ j u, news[j]? = some u → w.cell? (ad.add j) = some u) (h1 : ∀ u ∈ news, u.oneCell' = true)
    (h63 : n + m ≤ maxLen) (hbytes : (n + m) * bytes ≤ 140737488355328)
    (h : ∀ A' c' w', Sat w0 w' (Row e size A' (n + m) c' (xs ++ news) :: L) → K (a.put o.dst (.slice A' (n + m) c')) w') : o.wp P a w K Q := by
  obtain ⟨v', w', hr, h2, h3, h4, h5⟩ := run_append_own_at (P := P) w 0 t o.type e i z size bytes ht hi hz hsize hby hzs hsz (.slice A n c) n xs hS.row ad m cc news hl hnews h1 h63 hbytes (Nat.zero_le _)
  unfold Oper.wp execOp
  simp only [ho, resolve, invoke, builtin, Sem.run_bind, Sem.run_pure, Result.andThen_ok, List.map_toArray, List.map_cons, List.map_nil, hs, hx, hr]
  have hf : ∃ A' c', v' = .slice A' (n + m) c' := by
    rcases h2.2 with ⟨rfl, e⟩ | ⟨g, cap, cur, rfl, _⟩
    · exact ⟨_, _, by rw [e]⟩
    · exact ⟨_, _, rfl⟩
  obtain ⟨A', c', rfl⟩ := hf
  exact h A' c' w' (hS.rowGrown h2 h3 h5)
/-- a slice that can be read: its cells -/
def Rd (w : World) (B : Option Addr) (m sz : Nat) (ys : List Value) : Prop :=
  ys.length = m * sz ∧ ∀ j u, ys[j]? = some u → ∃ ad : Addr, B = some ad ∧ w.cell? (ad.add j) = some u
theorem Rd.below {w w' : World} {B : Option Addr} {m sz : Nat} {ys : List Value} (h : Rd w B m sz ys) (hb : Below w.heap.size w w') : Rd w' B m sz ys := by
  refine ⟨h.1, fun j u hu => ?_⟩
  obtain ⟨ad, e, hc⟩ := h.2 j u hu
  exact ⟨ad, e, (hb.cell (World.block_lt_of_cell? w _ hc)).trans hc⟩
theorem Rd.drewN {w : World} {B : Option Addr} {m sz : Nat} {ys : List Value} (h : Rd w B m sz ys) (n : Nat) : Rd (w.drewN n) B m sz ys := h
theorem Sat.rd {w0 w : World} {L : List HP} {E sz n c : Nat} {A : Option Addr} {xs : List Value} (h : Sat w0 w (Row E sz A n c xs :: L)) : Rd w A n sz xs := by
  refine ⟨h.rowLen, fun j u hu => ?_⟩
  have hn : xs ≠ [] := by rintro rfl; simp at hu
  obtain ⟨g, rfl, hc, _⟩ := h.rowCell hn
  have hj := (List.getElem?_eq_some_iff.1 hu).1
  refine ⟨_, rfl, ?_⟩
  have : (⟨g, 0, none⟩ : Addr).add j = ⟨g, j, none⟩ := by unfold Addr.add; split <;> simp_all
  rw [this, hc j hj, hu]
theorem Sat.rdBlk {w0 w : World} {L : List HP} {g t : Nat} {ys : List Value} (h : Sat w0 w (Blk g t ys :: L)) (m sz : Nat) (hl : ys.length = m * sz) : Rd w (some ⟨g, 0, none⟩) m sz ys := by
  refine ⟨hl, fun j u hu => ⟨_, rfl, ?_⟩⟩
  have : (⟨g, 0, none⟩ : Addr).add j = ⟨g, j, none⟩ := by unfold Addr.add; split <;> simp_all
  rw [this, h.blk.cell j, hu]
theorem run_app0 {P : Program} (w : World) (t ty e : TypeId) (i : TypeInfo) (ht : P.underlying t = some (.slice e)) (hi : P.info? e = some i) (A B : Option Addr) (n c cc : Nat) (hnc : n ≤ c) :
    (Builtin.append_ #[t, t] ty #[.slice A n c, .slice B 0 cc]).run P w = .ok (.slice A n c) w := by
  cases A <;> cases B <;> simp [Builtin.append_, run_underlying ht, sizeOf, typeInfo, hi, Builtin.lenOf, Builtin.firstCells, loadCells, loadCellsFrom, storeCells, hnc]
/-- append of whatever can be read onto a row that is owned -/
theorem wp_appS {P : Program} {w0 w : World} {L : List HP} {o : Oper} {a : Act} {K : Act → World → Prop} {Q : Exit → Act → World → Prop} (s x : Operand) (t : TypeId)
    (ho : o.op = .call { callee := .builtin .append, args := #[s, x], argTypes := #[t, t] })
    (e : TypeId) (i : TypeInfo) (z : Value) (size bytes : Nat) (ht : P.underlying t = some (.slice e)) (hi : P.info? e = some i) (hz : i.zero = some z)
    (hsize : i.size = size) (hby : i.bytes = bytes) (hzs : z.cells.size = size) (hsz : 0 < size)
    {A : Option Addr} {n c : Nat} {xs : List Value} (hs : a.eval s = .slice A n c) (hS : Sat w0 w (Row e size A n c xs :: L))
    {B : Option Addr} {m cc : Nat} {news : List Value} (hx : a.eval x = .slice B m cc) (hr : Rd w B m size news) (h1 : ∀ u ∈ news, u.oneCell' = true)
    (h63 : n + m ≤ maxLen) (hbytes : (n + m) * bytes ≤ 140737488355328)
    (h : ∀ A' c' w', Sat w0 w' (Row e size A' (n + m) c' (xs ++ news) :: L) → K (a.put o.dst (.slice A' (n + m) c')) w') : o.wp P a w K Q := by
  cases m with
  | zero =>
    have hn : news = [] := List.eq_nil_of_length_eq_zero (by simpa using hr.1)
    subst hn
    have hrun := run_app0 (P := P) w t o.type e i ht hi A B n c cc hS.rowCap.1
    unfold Oper.wp execOp
    simp only [ho, resolve, invoke, builtin, Sem.run_bind, Sem.run_pure, Result.andThen_ok, List.map_toArray, List.map_cons, List.map_nil, hs, hx, hrun]
    exact h A c w (by simpa using hS)
  | succ m =>
    have hne : ∃ u, news[0]? = some u := by
      have : 0 < news.length := by rw [hr.1]; exact Nat.mul_pos (by omega) hsz
      exact ⟨_, List.getElem?_eq_getElem this⟩
    obtain ⟨u, hu⟩ := hne
    obtain ⟨ad, rfl, _⟩ := hr.2 0 u hu
    refine wp_app s x t ho e i z size bytes ht hi hz hsize hby hzs hsz hs hS ad (m + 1) cc news hx hr.1 (fun j u hu => ?_) h1 h63 hbytes h
    obtain ⟨ad', e', hc⟩ := hr.2 j u hu
    cases e'
    exact hc
theorem wpList_appS {P : Program} {w0 w : World} {L : List HP} {ops : Array Oper} {rest : List Oper} {o : Oper} {a : Act} {Q : Exit → Act → World → Prop} (hgd : o.guard = none) (s x : Operand) (t : TypeId)
    (ho : o.op = .call { callee := .builtin .append, args := #[s, x], argTypes := #[t, t] })
    (e : TypeId) (i : TypeInfo) (z : Value) (size bytes : Nat) (ht : P.underlying t = some (.slice e)) (hi : P.info? e = some i) (hz : i.zero = some z)
    (hsize : i.size = size) (hby : i.bytes = bytes) (hzs : z.cells.size = size) (hsz : 0 < size)
    {A : Option Addr} {n c : Nat} {xs : List Value} (hs : a.eval s = .slice A n c) (hS : Sat w0 w (Row e size A n c xs :: L))
    {B : Option Addr} {m cc : Nat} {news : List Value} (hx : a.eval x = .slice B m cc) (hr : Rd w B m size news) (h1 : ∀ u ∈ news, u.oneCell' = true)
    (h63 : n + m ≤ maxLen) (hbytes : (n + m) * bytes ≤ 140737488355328)
    (h : ∀ A' c' w', Sat w0 w' (Row e size A' (n + m) c' (xs ++ news) :: L) → wpList P ops Q rest (a.put o.dst (.slice A' (n + m) c')) w') : wpList P ops Q (o :: rest) a w :=
  wpList_plain hgd fun _ hK => wp_appS s x t ho e i z size bytes ht hi hz hsize hby hzs hsz hs hS hx hr h1 h63 hbytes fun A' c' w' hS' => hK _ _ (h A' c' w' hS')
theorem step_appS {P : Program} {w0 w : World} {L : List HP} {ops : Array Oper} {o : Oper} {a : Act} {K : Act → World → Prop} {Q : Exit → Act → World → Prop} {E : Prop} (hgd : o.guard = none) (s x : Operand) (t : TypeId)
    (ho : o.op = .call { callee := .builtin .append, args := #[s, x], argTypes := #[t, t] })
    (e : TypeId) (i : TypeInfo) (z : Value) (size bytes : Nat) (ht : P.underlying t = some (.slice e)) (hi : P.info? e = some i) (hz : i.zero = some z)
    (hsize : i.size = size) (hby : i.bytes = bytes) (hzs : z.cells.size = size) (hsz : 0 < size)
    {A : Option Addr} {n c : Nat} {xs : List Value} (hs : a.eval s = .slice A n c) (hS : Sat w0 w (Row e size A n c xs :: L))
    {B : Option Addr} {m cc : Nat} {news : List Value} (hx : a.eval x = .slice B m cc) (hr : Rd w B m size news) (h1 : ∀ u ∈ news, u.oneCell' = true)
    (h63 : n + m ≤ maxLen) (hbytes : (n + m) * bytes ≤ 140737488355328)
    (h : ∀ A' c' w', Sat w0 w' (Row e size A' (n + m) c' (xs ++ news) :: L) → K (a.put o.dst (.slice A' (n + m) c')) w') : if Region.wanted o (yielded ops a.tmps) = true then Oper.wp P o a w K Q else E := by
  rw [if_pos (by simp [Region.wanted, hgd])]
  exact wp_appS s x t ho e i z size bytes ht hi hz hsize hby hzs hsz hs hS hx hr h1 h63 hbytes h
theorem step_app1 {P : Program} {w0 w : World} {L : List HP} {ops : Array Oper} {o : Oper} {a : Act} {K : Act → World → Prop} {Q : Exit → Act → World → Prop} {E : Prop} (hgd : o.guard = none) (s x : Operand) (t : TypeId)
    (ho : o.op = .call { callee := .builtin .append, args := #[s, x], argTypes := #[t, t] })
    (e : TypeId) (i : TypeInfo) (z : Value) (size bytes : Nat) (ht : P.underlying t = some (.slice e)) (hi : P.info? e = some i) (hz : i.zero = some z)
    (hsize : i.size = size) (hby : i.bytes = bytes) (hzs : z.cells.size = size) (hsz : 0 < size)
    {A : Option Addr} {n c tb gb : Nat} {xs news : List Value} (hs : a.eval s = .slice A n c) (hS : Sat w0 w (Blk gb tb news :: Row e size A n c xs :: L))
    {cc : Nat} (hx : a.eval x = .slice (some ⟨gb, 0, none⟩) 1 cc) (hl : news.length = size) (h1 : ∀ u ∈ news, u.oneCell' = true)
    (h63 : n + 1 ≤ maxLen) (hbytes : (n + 1) * bytes ≤ 140737488355328)
    (h : ∀ A' c' w', Sat w0 w' (Row e size A' (n + 1) c' (xs ++ news) :: L) → K (a.put o.dst (.slice A' (n + 1) c')) w') : if Region.wanted o (yielded ops a.tmps) = true then Oper.wp P o a w K Q else E :=
  step_appS hgd s x t ho e i z size bytes ht hi hz hsize hby hzs hsz hs hS.tail hx (hS.rdBlk 1 size (by omega)) h1 h63 hbytes h
/-- append of one element, which lies in a block of its own -/
theorem wpList_app1 {P : Program} {w0 w : World} {L : List HP} {ops : Array Oper} {rest : List Oper} {o : Oper} {a : Act} {Q : Exit → Act → World → Prop} (hgd : o.guard = none) (s x : Operand) (t : TypeId)
    (ho : o.op = .call { callee := .builtin .append, args := #[s, x], argTypes := #[t, t] })
    (e : TypeId) (i : TypeInfo) (z : Value) (size bytes : Nat) (ht : P.underlying t = some (.slice e)) (hi : P.info? e = some i) (hz : i.zero = some z)
    (hsize : i.size = size) (hby : i.bytes = bytes) (hzs : z.cells.size = size) (hsz : 0 < size)
    {A : Option Addr} {n c tb gb : Nat} {xs news : List Value} (hs : a.eval s = .slice A n c) (hS : Sat w0 w (Blk gb tb news :: Row e size A n c xs :: L))
    {cc : Nat} (hx : a.eval x = .slice (some ⟨gb, 0, none⟩) 1 cc) (hl : news.length = size) (h1 : ∀ u ∈ news, u.oneCell' = true)
    (h63 : n + 1 ≤ maxLen) (hbytes : (n + 1) * bytes ≤ 140737488355328)
    (h : ∀ A' c' w', Sat w0 w' (Row e size A' (n + 1) c' (xs ++ news) :: L) → wpList P ops Q rest (a.put o.dst (.slice A' (n + 1) c')) w') : wpList P ops Q (o :: rest) a w :=
  wpList_appS hgd s x t ho e i z size bytes ht hi hz hsize hby hzs hsz hs hS.tail hx (hS.rdBlk 1 size (by omega)) h1 h63 hbytes h
end Go.Proofs.Ytbgbpibfmdkndaa
