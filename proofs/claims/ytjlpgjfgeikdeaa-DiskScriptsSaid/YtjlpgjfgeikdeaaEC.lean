/- Lists of pieces; the list of pairs of disks. -/
import Derived.Test.YtjlpgjfgeikdeaaEB
set_option linter.unusedVariables false
set_option linter.unusedSimpArgs false
set_option linter.unnecessarySimpa false
namespace Go.Proofs.Ytjlpgjfgeikdeaa
open Go.RowKit Go.ChangeShapes Go.WideShapes Go.ChangeAt
section
variable {w0 w w' : World} {F L Ps : List HP} {X : HP}
theorem perm_set {α : Type} : ∀ (l : List α) (i : Nat) (h : i < l.length) (x : α), (l.set i x).Perm (x :: l.eraseIdx i)
  | a :: l, 0, _, x => by simp
  | a :: l, i + 1, h, x => by
    simp only [List.set_cons_succ, List.eraseIdx_cons_succ]
    exact ((perm_set l i (by simpa using h) x).cons a).trans (List.Perm.swap x a _)
theorem perm_at {α : Type} (l : List α) (i : Nat) (h : i < l.length) : l.Perm (l[i] :: l.eraseIdx i) := by
  have := perm_set l i h l[i]
  rwa [List.set_getElem_self] at this
/-- a piece of a list of pieces to the front -/
theorem Sat.focus (h : Sat w0 w (sep Ps :: F)) (i : Nat) (hi : i < Ps.length) : Sat w0 w (Ps[i] :: sep (Ps.eraseIdx i) :: F) := by
  have h1 : Sat w0 w (Ps.eraseIdx i ++ (Ps[i] :: F)) := h.open_.perm (((perm_at Ps i hi).append_right F).trans List.perm_middle.symm)
  exact (Sat.close h1).r2
theorem Sat.unfocus (i : Nat) (hi : i < Ps.length) (h : Sat w0 w (X :: sep (Ps.eraseIdx i) :: F)) : Sat w0 w (sep (Ps.set i X) :: F) := by
  have h1 : Sat w0 w (Ps.eraseIdx i ++ (X :: F)) := h.r2.open_
  exact Sat.close (h1.perm (List.perm_middle.trans ((perm_set Ps i hi X).symm.append_right F)))
theorem Sat.snoc (h : Sat w0 w (X :: sep Ps :: F)) : Sat w0 w (sep (Ps ++ [X]) :: F) := by
  have h1 : Sat w0 w (Ps ++ (X :: F)) := h.r2.open_
  exact Sat.close (M := Ps ++ [X]) (by simpa using h1)
/-- a block that a call has made -/
theorem Sat.made {g t : Nat} {vs : List Value} (h : Sat w0 w L) (hb : Below w.heap.size w w') (hg : w.heap.size ≤ g) (ha : At w' g t vs) : Sat w0 w' (Blk g t vs :: L) := by
  have far := h.below hb
  refine ⟨far.os, far.tape, far.output, far.size, fun k => if k = g then some (.cells vs.toArray t) else none, hp w, fun k x hk => ?_, fun k o hk => ?_, fun k => ?_, by simp [Blk, BlkO], h.own⟩
  · by_cases e : k = g
    · subst e; simp at hk; subst hk; exact ha
    · simp [e] at hk
  · exact (hb.block k (Array.getElem?_eq_some_iff.1 hk).1).trans hk
  · by_cases e : k = g
    · subst e; exact .inr (Array.getElem?_eq_none hg)
    · exact .inl (by simp [e])
end
/-- a pair of disks: the program's, the document's -/
structure PP where
  d : Nat
  r : Nat
  v : Nat → Value
  M : MD
def PP.piece (p : PP) : HP := sep [DiskV p.d p.v p.M, Blk p.r 69 (cellsR p.M)]
def PP.vs (p : PP) : List Value := [.pointer (some ⟨p.d, 0, none⟩), .pointer (some ⟨p.r, 0, none⟩)]
def pv (ps : List PP) : List Value := ps.flatMap PP.vs
theorem pv_len (ps : List PP) : (pv ps).length = ps.length * 2 := by
  induction ps with
  | nil => rfl
  | cons p ps ih => simp [pv, PP.vs] at ih ⊢; omega
theorem pv_get : ∀ (ps : List PP) (j : Nat) (h : j < ps.length), (pv ps)[j * 2]? = some (.pointer (some ⟨ps[j].d, 0, none⟩)) ∧ (pv ps)[j * 2 + 1]? = some (.pointer (some ⟨ps[j].r, 0, none⟩))
  | p :: ps, 0, _ => ⟨rfl, rfl⟩
  | p :: ps, j + 1, h => by
    have ih := pv_get ps j (by simpa using h)
    have e1 : (j + 1) * 2 = j * 2 + 1 + 1 := by omega
    rw [e1]
    exact ih
theorem pv_set (ps : List PP) (i : Nat) (h : i < ps.length) (v : Nat → Value) (M : MD) : pv (ps.set i ⟨ps[i].d, ps[i].r, v, M⟩) = pv ps := by
  induction ps generalizing i with
  | nil => rfl
  | cons p ps ih =>
    cases i with
    | zero => rfl
    | succ i =>
      have := ih i (by simpa using h)
      simp only [pv, List.set_cons_succ, List.flatMap_cons, List.getElem_cons_succ] at this ⊢
      rw [this]
theorem pv_snoc (ps : List PP) (p : PP) : pv (ps ++ [p]) = pv ps ++ p.vs := by simp [pv]
theorem info31 : (Try.prog.info? 31).map (fun i => (i.zero, i.size, i.bytes)) = some (some (.agg #[.pointer none, .pointer none]), 2, 16) := by kernel_rfl
section
variable {w0 w : World} {F : List HP} {ps : List PP}
theorem Sat.pair (h : Sat w0 w (sep (ps.map PP.piece) :: F)) (i : Nat) (hi : i < ps.length) : Sat w0 w (DiskV ps[i].d ps[i].v ps[i].M :: Blk ps[i].r 69 (cellsR ps[i].M) :: sep ((ps.map PP.piece).eraseIdx i) :: F) := by
  have := h.focus i (by simpa using hi)
  rw [List.getElem_map] at this
  exact Sat.open_ this
theorem Sat.unpair (i : Nat) (hi : i < ps.length) {v : Nat → Value} {M : MD} (h : Sat w0 w (DiskV ps[i].d v M :: Blk ps[i].r 69 (cellsR M) :: sep ((ps.map PP.piece).eraseIdx i) :: F)) : Sat w0 w (sep ((ps.set i ⟨ps[i].d, ps[i].r, v, M⟩).map PP.piece) :: F) := by
  have := Sat.unfocus (Ps := ps.map PP.piece) i (by simpa using hi) h.close2
  rw [List.map_set]
  exact this
theorem Sat.pairCells {A : Option Addr} {c : Nat} (h : Sat w0 w (Row 31 2 A ps.length c (pv ps) :: F)) (hne : 0 < ps.length) : ∃ g, A = some ⟨g, 0, none⟩ ∧ ∀ j, (hj : j < ps.length) → w.cell? ⟨g, j * 2, none⟩ = some (.pointer (some ⟨ps[j].d, 0, none⟩)) ∧ w.cell? ⟨g, j * 2 + 1, none⟩ = some (.pointer (some ⟨ps[j].r, 0, none⟩)) := by
  have hl := pv_len ps
  obtain ⟨g, rfl, hc, _⟩ := h.rowCell (by intro e; rw [e] at hl; simp at hl; omega)
  refine ⟨g, rfl, fun j hj => ?_⟩
  rw [hc _ (by omega), hc _ (by omega)]
  exact pv_get ps j hj
end
end Go.Proofs.Ytjlpgjfgeikdeaa
