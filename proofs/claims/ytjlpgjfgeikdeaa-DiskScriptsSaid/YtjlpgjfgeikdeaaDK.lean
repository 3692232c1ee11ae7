/- A disk as a piece of memory. -/
import Derived.Test.YtjlpgjfgeikdeaaSL
import Derived.Test.YtjlpgjfgeikdeaaDD
set_option linter.unusedVariables false
set_option linter.unusedSimpArgs false
set_option linter.unnecessarySimpa false
namespace Go.Proofs.Ytjlpgjfgeikdeaa
open Go.RowKit Go.ChangeShapes Go.WideShapes Go.ChangeAt
/-- a disk whose files' rows are v: its blocks are this piece's -/
def DiskV (d : Nat) (v : Nat → Value) (M : MD) : HP := fun h => (∀ k, footD d v k → h k ≠ none) ∧ ∀ w : World, h.le (hp w) → DiskAt w d v M
section
variable {w0 w w' : World} {L : List HP} {d : Nat} {v : Nat → Value} {M M' : MD}
theorem Sat.disk (h : Sat w0 w (DiskV d v M :: L)) : DiskAt w d v M := by
  obtain ⟨h1, _, l1, _, _, ⟨_, a⟩, _⟩ := h.own
  exact a w l1
open Classical in
/-- the part of a memory that a disk owns -/
noncomputable def partD (w : World) (d : Nat) (v : Nat → Value) : Hp := fun k => if footD d v k then w.heap[k]? else none
theorem partD_le (w : World) (d : Nat) (v : Nat → Value) : (partD w d v).le (hp w) := fun k o hk => by
  unfold partD at hk
  split at hk
  · exact hk
  · cases hk
theorem DiskAt.piece (h : DiskAt w d v M) : DiskV d v M (partD w d v) := by
  have in_ : ∀ k, footD d v k → partD w d v k = w.heap[k]? := fun k hk => by unfold partD; rw [if_pos hk]
  refine ⟨fun k hk => ?_, fun w' hle => ?_⟩
  · rw [in_ k hk, Array.getElem?_eq_getElem (h.lt k hk)]; simp
  · have keep : ∀ k, footD d v k → w'.heap[k]? = w.heap[k]? := fun k hk => by
      have := h.lt k hk
      rw [Array.getElem?_eq_getElem this]
      exact hle k _ (by rw [in_ k hk, Array.getElem?_eq_getElem this])
    exact ⟨(keep d (.inl rfl)).trans h.at_, fun i hi => (h.row i hi).kept fun k hk => keep k (.inr ⟨i, hi, hk⟩), h.off, h.two⟩
/-- behind a call that changes the disk alone -/
theorem Sat.works (h : Sat w0 w (DiskV d v M :: L)) (hw : Works d v M' w w') : ∃ v', Sat w0 w' (DiskV d v' M' :: L) := by
  obtain ⟨v', hD, hc, hf⟩ := hw
  obtain ⟨h1, h2, l1, l2, dj, ⟨cov, _⟩, s⟩ := h.own
  have none2 : ∀ k, footD d v k → h2 k = none := fun k hk => (dj k).resolve_left (cov k hk)
  refine ⟨v', hc.os.trans h.os, hc.tape.trans h.tape, hc.output.trans h.output, Nat.le_trans h.size hc.size, partD w' d v', h2, partD_le _ _ _, fun k o hk => ?_, fun k => ?_, hD.piece, s⟩
  · have hk2 := l2 k o hk
    exact (hc.block k (Array.getElem?_eq_some_iff.1 hk2).1 fun hfo => by rw [none2 k hfo] at hk; cases hk).trans hk2
  · by_cases hk : footD d v' k
    · right
      rcases hf k hk with h3 | h3
      · exact none2 k h3
      · cases he : h2 k with
        | none => rfl
        | some o =>
          have := (Array.getElem?_eq_some_iff.1 (l2 k o he)).1
          omega
    · left
      unfold partD
      rw [if_neg hk]
/-- a disk that a call has made -/
theorem Sat.diskNew (h : Sat w0 w L) (hb : Below w.heap.size w w') (hD : DiskAt w' d v M) (hf : ∀ k, footD d v k → w.heap.size ≤ k) : Sat w0 w' (DiskV d v M :: L) := by
  have far := h.below hb
  refine ⟨far.os, far.tape, far.output, far.size, partD w' d v, hp w, partD_le _ _ _, fun k o hk => ?_, fun k => ?_, hD.piece, h.own⟩
  · exact (hb.block k (Array.getElem?_eq_some_iff.1 hk).1).trans hk
  · by_cases hk : footD d v k
    · exact .inr (Array.getElem?_eq_none (hf k hk))
    · left
      unfold partD
      rw [if_neg hk]
end
end Go.Proofs.Ytjlpgjfgeikdeaa
