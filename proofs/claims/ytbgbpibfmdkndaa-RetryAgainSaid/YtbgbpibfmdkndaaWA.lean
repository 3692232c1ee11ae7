/- Rows of records: cells written side by side; copy, clear, append at elements of several cells. -/
import Derived.Test.YtbgbpibfmdkndaaSL
import Derived.Laws.IdiomCopy
import Derived.Lib.AppendZerosOnto
import Derived.Lib.Overlaps
import Derived.Laws.Externs
import Derived.Deep.RegionLaw
set_option linter.unusedVariables false
set_option linter.unusedSimpArgs false
set_option linter.unnecessarySimpa false
set_option maxRecDepth 100000
namespace Go.Proofs.Ytbgbpibfmdkndaa
open Go.RowKit Go.ChangeShapes Go.WideShapes Go.ChangeAt
/-- cells from a place on, written over -/
def over (vs : List Value) (o : Nat) (us : List Value) : List Value := vs.take o ++ us ++ vs.drop (o + us.length)
theorem over_len {vs us : List Value} {o : Nat} (h : o + us.length ≤ vs.length) : (over vs o us).length = vs.length := by
  unfold over
  simp only [List.length_append, List.length_take, List.length_drop]
  omega
section
variable {w0 w : World} {L : List HP} {E sz n c g t : Nat} {A : Option Addr} {xs vs : List Value}
theorem Sat.setCells : ∀ (us : List Value) (o : Nat) {w : World} {vs : List Value}, Sat w0 w (Blk g t vs :: L) → o + us.length ≤ vs.length → Sat w0 (w.setCells g o us) (Blk g t (over vs o us) :: L)
  | [], o, w, vs, h, _ => by
    have : over vs o [] = vs := by unfold over; simp
    rw [this]
    exact h
  | u :: r, o, w, vs, h, hl => by
    simp only [List.length_cons] at hl
    have ih := Sat.setCells r (o + 1) (h.set o u) (by rw [List.length_set]; omega)
    have e : over (vs.set o u) (o + 1) r = over vs o (u :: r) := by
      unfold over
      rw [list_seg_step vs o u r (by omega)]
      rfl
    rw [e] at ih
    exact ih
/-- a row's block -/
theorem Sat.rowBlk' {g : Nat} (h : Sat w0 w (Row E sz (some ⟨g, 0, none⟩) n c xs :: L)) : ∃ cur : List Value, n ≤ c ∧ c ≤ maxLen ∧ cur.length = c * sz ∧ cur.take (n * sz) = xs ∧ Sat w0 w (Blk g E cur :: L) := by
  obtain ⟨g', cur, e, h1, h2, h3, h4, hl, hS⟩ := h.rowBlk
  cases e
  exact ⟨cur.toList, h1, h2, by simpa using h3, h4, by simpa [Blk] using hS⟩
theorem Sat.rowOf' {cur : List Value} (h : Sat w0 w (Blk g E cur :: L)) (h1 : n ≤ c) (h2 : c ≤ maxLen) (h3 : cur.length = c * sz) (h4 : cur.take (n * sz) = xs) : Sat w0 w (Row E sz (some ⟨g, 0, none⟩) n c xs :: L) := by
  refine Sat.rowOf (cur := cur.toArray) h ?_ h1 h2 (by simpa using h3) (by simpa using h4)
  rw [← h4, List.length_take, h3]
  exact Nat.min_eq_left (Nat.mul_le_mul_right _ h1)
theorem add_at (g o j : Nat) : (⟨g, o, none⟩ : Addr).add j = ⟨g, o + j, none⟩ := by unfold Addr.add; split <;> simp_all
theorem Sat.cellAt (h : Sat w0 w (Blk g t vs :: L)) (i : Nat) : w.cell? ⟨g, i, none⟩ = vs[i]? := h.blk.cell i
end
section
variable {P : Program}
/-- copy, at elements of k cells -/
theorem run_copyK (w : World) (dT sT ty elem : TypeId) (k b o dLen dCap : Nat) (a : Addr) (sLen sCap : Nat) (cs : List Value)
    (hu : P.underlying dT = some (.slice elem)) (hs : (P.info? elem).map (·.size) = some k) (m : Nat) (hm : Nat.min sLen dLen = m) (hn : cs.length = m * k)
    (hsrc : ∀ j v, cs[j]? = some v → w.cell? (a.add j) = some v) (hc : ∀ j, j < cs.length → (w.cell? ⟨b, o + j, none⟩).isSome = true) (hf : ∀ j, j < cs.length → w.frozen? ⟨b, o + j, none⟩ = false) (h1 : ∀ v ∈ cs, v.oneCell' = true) :
    (Builtin.copy_ #[dT, sT] ty #[.slice (some ⟨b, o, none⟩) dLen dCap, .slice (some a) sLen sCap]).run P w = .ok (goInt m) (w.setCells b o cs) := by
  have hl := run_loadCells_list (P := P) w a cs hsrc
  have hst := run_storeCells_cells (P := P) b o cs 0 w (by simpa using hc) (by simpa using hf) h1
  cases hq : P.info? elem with
  | none => simp [hq] at hs
  | some i =>
    have hi : i.size = k := by simpa [hq] using hs
    simp [Builtin.copy_, run_underlying hu, Builtin.lenOf, Builtin.firstCells, sizeOf, typeInfo, hq, hi, hm, ← hn, hl, hst]
theorem wp_copy_run (w : World) {o : Oper} {a : Act} {K : Act → World → Prop} {Q : Exit → Act → World → Prop} (d s : Operand) (t t' : TypeId)
    (ho : o.op = .call { callee := .builtin .copy, args := #[d, s], argTypes := #[t, t'] }) (v u : Value) (hd : a.eval d = v) (hs : a.eval s = u) {v' : Value} {w' : World}
    (hr : (Builtin.copy_ #[t, t'] o.type #[v, u]).run P w = .ok v' w') (h : K (a.put o.dst v') w') : o.wp P a w K Q := by
  unfold Oper.wp execOp
  simp only [ho, resolve, invoke, builtin, Sem.run_bind, Sem.run_pure, Result.andThen_ok, List.map_toArray, List.map_cons, List.map_nil, hd, hs, hr]
  exact h
theorem wpList_copy_run (w : World) {ops : Array Oper} {rest : List Oper} {o : Oper} {a : Act} {Q : Exit → Act → World → Prop} (hgd : o.guard = none) (d s : Operand) (t t' : TypeId)
    (ho : o.op = .call { callee := .builtin .copy, args := #[d, s], argTypes := #[t, t'] }) (v u : Value) (hd : a.eval d = v) (hs : a.eval s = u) {v' : Value} {w' : World}
    (hr : (Builtin.copy_ #[t, t'] o.type #[v, u]).run P w = .ok v' w') (h : wpList P ops Q rest (a.put o.dst v') w') : wpList P ops Q (o :: rest) a w :=
  wpList_plain hgd fun _ hK => wp_copy_run w d s t t' ho v u hd hs hr (hK _ _ h)
theorem step_copy_run {ops : Array Oper} {o : Oper} {a : Act} {w : World} {K : Act → World → Prop} {Q : Exit → Act → World → Prop} {E : Prop}
    (hg : o.guard = none) (d x : Operand) (dT sT : TypeId) (hop : o.op = Op.call { callee := Callee.builtin Builtin.copy, args := #[d, x], argTypes := #[dT, sT] })
    (v u : Value) (hd : a.eval d = v) (hx : a.eval x = u) {v' : Value} {w' : World} (hr : (Builtin.copy_ #[dT, sT] o.type #[v, u]).run P w = .ok v' w') (hK : K (a.put o.dst v') w') :
    if Region.wanted o (yielded ops a.tmps) = true then Oper.wp P o a w K Q else E := by
  rw [if_pos (by simp [Region.wanted, hg])]
  exact wp_copy_run w d x dT sT hop v u hd hx hr hK
/-- clear, at elements of k cells -/
theorem run_clearK (w : World) (t e ty : TypeId) (z : Value) (ht : P.underlying t = some (.slice e)) (hv : (zeroValue e).run P w = .ok z w) (b o n c : Nat) (hn : 0 < n) (zl : List Value) (hz : (Builtin.zeroCells z.cells n).toList = zl) (h1 : ∀ v ∈ zl, v.oneCell' = true)
    (hc : ∀ j, j < zl.length → (w.cell? ⟨b, o + j, none⟩).isSome = true) (hf : ∀ j, j < zl.length → w.frozen? ⟨b, o + j, none⟩ = false) :
    (Builtin.clear_ #[t] ty #[.slice (some ⟨b, o, none⟩) n c]).run P w = .ok (.tuple #[]) (w.setCells b o zl) := by
  have hst := run_storeCells_cells (P := P) b o zl 0 w (by simpa using hc) (by simpa using hf) h1
  simp only [Nat.add_zero] at hst
  obtain ⟨m, rfl⟩ : ∃ m, n = m + 1 := ⟨n - 1, by omega⟩
  simp [Builtin.clear_, run_underlying ht, hv, hz, hst]
theorem wp_clear_run (w : World) {o : Oper} {a : Act} {K : Act → World → Prop} {Q : Exit → Act → World → Prop} (s : Operand) (t : TypeId)
    (ho : o.op = .call { callee := .builtin .clear, args := #[s], argTypes := #[t] }) (u : Value) (hs : a.eval s = u) {v' : Value} {w' : World}
    (hr : (Builtin.clear_ #[t] o.type #[u]).run P w = .ok v' w') (h : K (a.put o.dst v') w') : o.wp P a w K Q := by
  unfold Oper.wp execOp
  simp only [ho, resolve, invoke, builtin, Sem.run_bind, Sem.run_pure, Result.andThen_ok, List.map_toArray, List.map_cons, List.map_nil, hs, hr]
  exact h
theorem wpList_clear_run (w : World) {ops : Array Oper} {rest : List Oper} {o : Oper} {a : Act} {Q : Exit → Act → World → Prop} (hgd : o.guard = none) (s : Operand) (t : TypeId)
    (ho : o.op = .call { callee := .builtin .clear, args := #[s], argTypes := #[t] }) (u : Value) (hs : a.eval s = u) {v' : Value} {w' : World}
    (hr : (Builtin.clear_ #[t] o.type #[u]).run P w = .ok v' w') (h : wpList P ops Q rest (a.put o.dst v') w') : wpList P ops Q (o :: rest) a w :=
  wpList_plain hgd fun _ hK => wp_clear_run w s t ho u hs hr (hK _ _ h)
theorem zeros_mem (z : Array Value) (n : Nat) (h : 0 < z.size) : ∀ v ∈ (Builtin.zeroCells z n).toList, v ∈ z.toList := by
  intro v hv
  simp only [Builtin.zeroCells, Array.toList_map, List.mem_map] at hv
  obtain ⟨i, _, rfl⟩ := hv
  rw [getElem!_pos z _ (Nat.mod_lt _ h)]
  simp
theorem zeros_len (z : Array Value) (n : Nat) : (Builtin.zeroCells z n).toList.length = n * z.size := by simp [Builtin.zeroCells]
end
end Go.Proofs.Ytbgbpibfmdkndaa
