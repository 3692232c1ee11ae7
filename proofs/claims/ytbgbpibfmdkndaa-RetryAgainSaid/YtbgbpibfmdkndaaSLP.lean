/- Words on memory, more: rows that the library has written; rows that a call has made. -/
import Derived.Test.YtbgbpibfmdkndaaSL
import Derived.Sort.EncStr
import Derived.Sort.Row
set_option linter.unusedVariables false
set_option linter.unusedSimpArgs false
set_option linter.unnecessarySimpa false
namespace Go.Proofs.Ytbgbpibfmdkndaa
open Go.RowKit Go.ChangeShapes Go.WideShapes Go.ChangeAt
open Go.Sort (Holds putCells)
section
variable {w0 w w' : World} {L : List HP} {E sz n c g : Nat} {A : Option Addr} {xs : List Value}
theorem Sat.putRow {α : Type} [Inhabited α] (enc : α → Value) (h : Sat w0 w (Row E 1 (some ⟨g, 0, none⟩) n c xs :: L)) (d : Array α) (hd : d.size = n) (q : Nat) :
    Sat w0 (Go.Sort.putRow enc (Go.Sort.ahead w q) g 0 d) (Row E 1 (some ⟨g, 0, none⟩) n c (d.toList.map enc) :: L) := by
  obtain ⟨g', cur, e, h1, h2, h3, h4, hl, hS⟩ := h.rowBlk
  cases e
  have hb : (Go.Sort.ahead w q).heap[g]? = some (.cells cur E (0, 0)) := hS.blkO
  have hp1 : (Go.Sort.putRow enc (Go.Sort.ahead w q) g 0 d).heap[g]? = some (.cells (putCells enc 0 d cur) E (0, 0)) := by
    have hb' : w.heap[g]? = some (.cells cur E (0, 0)) := hS.blkO
    simp [Go.Sort.putRow, Go.Sort.mapBlock, Array.getElem?_modify, hb', Go.Sort.onCells]
  have hp2 : ∀ k, k < w.heap.size → k ≠ g → (Go.Sort.putRow enc (Go.Sort.ahead w q) g 0 d).heap[k]? = w.heap[k]? := by
    intro k _ hk
    simp only [Go.Sort.putRow, Go.Sort.mapBlock, Array.getElem?_modify]
    rw [if_neg (fun e => hk e.symm)]
    rfl
  have hS2 : Sat w0 (Go.Sort.putRow enc (Go.Sort.ahead w q) g 0 d) (BlkO g (.cells (putCells enc 0 d cur) E (0, 0)) :: L) :=
    Sat.update hS rfl rfl rfl (by rw [Go.Sort.size_putRow]; exact Nat.le_refl _) hp1 hp2
  refine hS2.rowOf (by simp [hd]) h1 h2 (by simp [putCells, h3]) ?_
  apply List.ext_getElem?
  intro k
  rw [List.getElem?_take]
  by_cases hk : k < n * 1
  · rw [if_pos hk, Array.getElem?_toList]
    simp only [putCells, Array.getElem?_mapIdx, List.getElem?_map, Array.getElem?_toList]
    rw [Array.getElem?_eq_getElem (show k < cur.size by rw [h3]; omega), Option.map_some, if_pos ⟨by omega, by omega⟩, Nat.sub_zero, getElem!_pos d k (by omega), Array.getElem?_eq_getElem (show k < d.size by omega)]
    rfl
  · rw [if_neg hk, List.getElem?_eq_none (by simp; omega)]
theorem Sat.rowShrink {m : Nat} (h : Sat w0 w (Row E sz A n c xs :: L)) (hm : m ≤ n) (ha : A ≠ none) : Sat w0 w (Row E sz A m c (xs.take (m * sz)) :: L) := by
  cases A with
  | none => exact absurd rfl ha
  | some a =>
    obtain ⟨g, cur, rfl, h1, h2, h3, h4, hl, hS⟩ := h.rowBlk
    have hms : m * sz ≤ n * sz := Nat.mul_le_mul_right _ hm
    refine hS.rowOf (by rw [List.length_take, hl]; omega) (by omega) h2 h3 ?_
    rw [← h4, List.take_take, Nat.min_eq_left hms]
/-- a row that a call has made -/
theorem Sat.rowNew (h : Sat w0 w L) (hb : Below w.heap.size w w') (ho : w'.ownsRow w.heap.size E sz (.slice A n c) n xs) : Sat w0 w' (Row E sz A n c xs :: L) := by
  have far := h.below hb
  obtain ⟨hl, ho⟩ := ho
  rcases ho with ⟨e, rfl⟩ | ⟨g', cap', cur', e, hg, hg', r1, r2, r3, r4⟩
  · cases e
    have hx : xs = [] := List.eq_nil_of_length_eq_zero (by simpa using hl)
    subst hx
    exact far.nilRow E sz
  · cases e
    refine Sat.rowOf (g := g') (cur := cur') ?_ hl r1 r2 r3 r4
    refine ⟨far.os, far.tape, far.output, far.size, fun k => if k = g' then some (.cells cur' E (0, 0)) else none, hp w, fun k x hk => ?_, fun k o hk => ?_, fun k => ?_, by simp [BlkO], h.own⟩
    · by_cases e : k = g'
      · subst e; simp at hk; subst hk; exact hg'
      · simp [e] at hk
    · exact (hb.block k (Array.getElem?_eq_some_iff.1 hk).1).trans hk
    · by_cases e : k = g'
      · subst e; exact .inr (Array.getElem?_eq_none hg)
      · exact .inl (by simp [e])
theorem Sat.holdsStr {M : List ByteArray} (h : Sat w0 w (Row E 1 (some ⟨g, 0, none⟩) M.length c (M.map Value.string) :: L)) : Holds encStr w g 0 (M.map fun b => b.data.toList).toArray := by
  intro j hj
  have hj' : j < M.length := by simpa using hj
  have hn : M.map Value.string ≠ [] := by intro e; rw [List.map_eq_nil_iff] at e; subst e; simp at hj'
  obtain ⟨g', e, hc, hf⟩ := h.rowCell hn
  cases e
  refine ⟨?_, hf _⟩
  rw [Nat.zero_add, hc j (by simpa using hj'), List.getElem?_map, List.getElem?_eq_getElem hj', Option.map_some]
  rw [getElem!_pos _ j hj]
  simp [encStr]
theorem encStr_map (M : List ByteArray) : (M.map fun b => b.data.toList).map encStr = M.map Value.string := by
  rw [List.map_map]
  apply List.map_congr_left
  intro b _
  simp [encStr]
end
end Go.Proofs.Ytbgbpibfmdkndaa
