/- Ranging over a map of texts: the step, the entry; store and delete. -/
import Derived.Test.YtbgbpibfmdkndaaDoorLE
set_option linter.unusedVariables false
set_option linter.unusedSimpArgs false
set_option linter.unnecessarySimpa false
set_option maxRecDepth 100000
namespace Go.Proofs.YtbgbpibfmdkndaaDoor
open Go.RowKit Go.ChangeShapes Go.WideShapes Go.ChangeAt
/-- the entries that are still to come -/
def leftE (es : Array MapEntry) (seen : Array Nat) : Array MapEntry := es.filter fun e => !seen.contains e.born
section
variable {w0 w : World} {L : List HP} {b r : Nat} {es : Array MapEntry} {seen : Array Nat} {clock : Nat}
theorem run_range (h : Sat w0 w (BlkO b (.map es clock) :: L)) :
    (Instr.range 48 (.map (some b))).run Tryd.prog w = .ok (.pointer (some ⟨w.heap.size, 0, none⟩)) (w.alloc (.mapIter (some b) clock #[] clock)) := by
  unfold Instr.range
  simp [Sem.run_bind, run_underlying Tryd.underlying48, getObjRun h.blkO, newObj, Sem.run]
/-- the tape's word on which entry comes -/
theorem run_choice (n : Nat) (hn : 0 < n) (w : World) : ∃ j q, j < n ∧ (choose (.mapNext n)).run Tryd.prog w = .ok j (w.drewN q) := by
  by_cases hf : n ≤ 1
  · exact ⟨0, 0, hn, by simp [choose, Sem.run, Question.forced, hf]; rfl⟩
  · refine ⟨(w.tape w.drawn (.mapNext n)) % n, 1, Nat.mod_lt _ hn, ?_⟩
    simp only [choose, Sem.run, Question.forced, decide_eq_true_eq, hf, if_false, Question.cut]
    rfl
theorem run_next (h : Sat w0 w (BlkO r (.mapIter (some b) clock seen clock) :: BlkO b (.map es clock) :: L)) (hold : ∀ e ∈ es.toList, e.born < clock) (ty : TypeId) :
    ((leftE es seen).size = 0 ∧ (Instr.next (.pointer (some ⟨r, 0, none⟩)) false ty).run Tryd.prog w = .ok (.tuple #[.bool false]) w) ∨
    ∃ e ∈ (leftE es seen).toList, ∃ w', (Instr.next (.pointer (some ⟨r, 0, none⟩)) false ty).run Tryd.prog w = .ok (.tuple #[.bool true, e.key, e.val]) w' ∧ Sat w0 w' (BlkO r (.mapIter (some b) clock (seen.push e.born) clock) :: BlkO b (.map es clock) :: L) := by
  have hr := h.blkO
  have hb := h.r2.blkO
  have htest : (!seen.isEmpty && !es.isEmpty && es.all (fun x => decide (x.born ≥ clock))) = false := next_test_false seen es clock clock hold (Nat.le_refl _)
  have hmem : ∀ x ∈ (leftE es seen).toList, x.born < clock := fun x hx => hold x (by unfold leftE at hx; simp at hx ⊢; exact hx.1)
  have e1 : (leftE es seen).filter (fun x => decide (x.born < clock)) = leftE es seen := Array.filter_eq_self.2 (fun x hx => by simpa using hmem x (by simpa using hx))
  have e2 : (leftE es seen).filter (fun x => decide (x.born ≥ clock)) = #[] := by
    rw [Array.filter_eq_empty_iff]
    intro x hx
    have := hmem x (by simpa using hx)
    simp
    omega
  have hleft : es.filter (fun e => !seen.contains e.born) = leftE es seen := rfl
  by_cases h0 : (leftE es seen).size = 0
  · left
    refine ⟨h0, ?_⟩
    have he : leftE es seen = #[] := Array.eq_empty_of_size_eq_zero h0
    unfold Instr.next
    simp only [getObj, Sem.run_bind, Sem.run, hr, hb, Result.andThen, htest, Bool.false_eq_true, if_false, hleft, e1, e2, he]
    simp [choose, Sem.run, Question.forced]
  · right
    obtain ⟨j, q, hj, hrun⟩ := run_choice (leftE es seen).size (by omega) w
    have hne : (leftE es seen).isEmpty = false := by simp [Array.isEmpty, h0]
    have hup : Sat w0 { w.drewN q with heap := (w.drewN q).heap.setIfInBounds r (.mapIter (some b) clock (seen.push (leftE es seen)[j].born) clock) } (BlkO r (.mapIter (some b) clock (seen.push (leftE es seen)[j].born) clock) :: BlkO b (.map es clock) :: L) := by
      have hrq : (w.drewN q).heap[r]? = some (.mapIter (some b) clock seen clock) := hr
      have hlt := (Array.getElem?_eq_some_iff.1 hrq).1
      have hlt' : r < w.heap.size := hlt
      exact Sat.update (h.drewN q) rfl rfl rfl (by simp) (by simp [Array.getElem?_setIfInBounds, hlt']) fun k _ hk => by simp [Array.getElem?_setIfInBounds, Ne.symm hk]
    refine ⟨(leftE es seen)[j], by simp, _, ?_, hup⟩
    have hset : (setObj r (.mapIter (some b) clock (seen.push (leftE es seen)[j].born) clock)).run Tryd.prog (w.drewN q) = .ok () { w.drewN q with heap := (w.drewN q).heap.setIfInBounds r (.mapIter (some b) clock (seen.push (leftE es seen)[j].born) clock) } := by
      have hrq : (w.drewN q).heap[r]? = some (.mapIter (some b) clock seen clock) := hr
      simp [setObj, Sem.run, hr]
    unfold Instr.next
    simp only [getObj, Sem.run_bind, Sem.run, hr, hb, Result.andThen, htest, Bool.false_eq_true, if_false, hleft, e1, e2, Array.append_empty, hne, Array.empty_append, Array.size_map, hrun, Array.getElem?_map, Array.getElem?_eq_getElem hj, Option.map_some, hset]
    rfl
theorem run_entry (h : Sat w0 w (BlkO r (.mapIter (some b) clock seen clock) :: BlkO b (.map es clock) :: L)) (hn : (es.toList.map (·.born)).Nodup) {e : MapEntry} (he : e ∈ es.toList) {s0 : Array Nat} (hs : seen = s0.push e.born) :
    (Instr.entry (.pointer (some ⟨r, 0, none⟩))).run Tryd.prog w = .ok (.tuple #[e.key, e.val]) w := by
  subst hs
  have hr := h.blkO
  have hb := h.r2.blkO
  have hf : es.find? (·.born == e.born) = some e := by rw [← Array.find?_toList]; exact find_born e es.toList hn he
  unfold Instr.entry
  simp only [getObj, Sem.run_bind, Sem.run, hr, hb, Result.andThen, Array.back?_push, bne_self_eq_false, Bool.false_eq_true, if_false, hf]
  rfl
end
end Go.Proofs.YtbgbpibfmdkndaaDoor
