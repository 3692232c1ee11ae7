/- A map of numbers to numbers, known whole, as a piece of memory: look-up, store, delete. -/
import Derived.Test.YtbgbpibfmdkndaaSL
import Derived.Laws.IdiomRangeMap
import Derived.Maps.OwnOps
import Derived.Maps.RangeWalk
set_option linter.unusedVariables false
set_option linter.unusedSimpArgs false
set_option linter.unnecessarySimpa false
set_option maxRecDepth 100000
namespace Go.Proofs.Ytbgbpibfmdkndaa
open Go.RowKit Go.ChangeShapes Go.WideShapes Go.ChangeAt
abbrev Ent := Int × Int
def enE (m : Ent) : Value × Value := (.int .i64 m.1, .int .i64 m.2)
def entE (es : List MapEntry) (M : List Ent) : Prop := es.map (fun e => (e.key, e.val)) = M.map enE
def findE (k : Int) : List Ent → Nat → Option (Nat × Value)
  | [], _ => none
  | m :: M, i => if k = m.1 then some (i, .int .i64 m.2) else findE k M (i + 1)
theorem beqB (a b : Int) : (a == b) = decide (a = b) := by rfl
theorem nowE (k : Int) : ∀ (es : List MapEntry) (M : List Ent) (i : Nat), entE es M → Instr.findNow (.int .i64) (.int .i64 k) es i = some (findE k M i)
  | [], [], i, _ => rfl
  | [], _ :: _, i, h => by simp [entE] at h
  | _ :: _, [], i, h => by simp [entE] at h
  | e :: es, m :: M, i, h => by
    simp only [entE, List.map_cons, List.cons.injEq, enE, Prod.mk.injEq] at h
    obtain ⟨⟨h1, h2⟩, h3⟩ := h
    have ih := nowE k es M (i + 1) h3
    unfold Instr.findNow findE
    rw [h1, h2]
    by_cases hk : k = m.1
    · subst hk
      simp [Instr.sameNow, beqB]
    · simp [Instr.sameNow, beqB, hk, ih]
theorem findKeyE (w : World) (k : Int) (es : List MapEntry) (M : List Ent) (h : entE es M) : (Instr.findKey 3 (.int .i64 k) es).run Try.prog w = .ok (findE k M 0) w := by
  unfold Instr.findKey
  simp only [Sem.run_bind, run_underlying Try.underlying3, Result.andThen_ok]
  rw [nowE k es M 0 h]
  rfl
theorem checkE (w : World) (em : Bool) (k : Int) : (Instr.checkKey em 10000 3 (.int .i64 k)).run Try.prog w = .ok () w := by
  rw [Instr.checkKey]
  simp [Sem.run_bind, run_underlying Try.underlying3]
theorem zero3 (w : World) : (zeroValue 3).run Try.prog w = .ok (.int .i64 0) w := by kernel_rfl
theorem getObjRun {w : World} {b : Nat} {es : Array MapEntry} {clock : Nat} (h : w.heap[b]? = some (.map es clock)) : (getObj b).run Try.prog w = .ok (.map es clock) w := by
  simp [getObj, Sem.run, h]
/-- what stands of a map in memory -/
structure MapOk (es : Array MapEntry) (clock : Nat) (M : List Ent) : Prop where
  ent : entE es.toList M
  born : (es.toList.map (·.born)).Nodup
  old : ∀ e ∈ es.toList, e.born < clock
def MapS (b : Nat) (M : List Ent) : HP := fun h => ∃ (es : Array MapEntry) (clock : Nat), h b = some (.map es clock) ∧ MapOk es clock M
section
variable {w0 w : World} {L : List HP} {b : Nat} {M : List Ent}
theorem Sat.mpNew (h : Sat w0 w L) : Sat w0 (w.alloc (.map #[] 0)) (MapS w.heap.size [] :: L) :=
  (h.alloc (.map #[] 0)).imp fun h hb => ⟨#[], 0, hb, ⟨rfl, List.nodup_nil, fun e he => by cases he⟩⟩
theorem Sat.mpOpen (h : Sat w0 w (MapS b M :: L)) : ∃ (es : Array MapEntry) (clock : Nat), MapOk es clock M ∧ Sat w0 w (BlkO b (.map es clock) :: L) := by
  obtain ⟨h1, h2, l1, l2, d, ⟨es, clock, hb, he⟩, s⟩ := h.own
  exact ⟨es, clock, he, ⟨h.os, h.tape, h.output, h.size, h1, h2, l1, l2, d, hb, s⟩⟩
theorem Sat.mpClose {es : Array MapEntry} {clock : Nat} (he : MapOk es clock M) (h : Sat w0 w (BlkO b (.map es clock) :: L)) : Sat w0 w (MapS b M :: L) := h.imp fun _ hb => ⟨es, clock, hb, he⟩
/-- who has a key -/
def valE (M : List Ent) (k : Int) : Int := match M.find? (fun m => decide (k = m.1)) with | some m => m.2 | none => 0
def hasE (M : List Ent) (k : Int) : Bool := (M.find? (fun m => decide (k = m.1))).isSome
theorem findE_val (k : Int) : ∀ (M : List Ent) (i : Nat), (findE k M i).map Prod.snd = (M.find? (fun m => decide (k = m.1))).map fun m => .int .i64 m.2
  | [], i => rfl
  | m :: M, i => by
    unfold findE
    by_cases h : k = m.1
    · subst h; simp
    · simp [h, findE_val k M (i + 1)]
theorem Sat.mpLook (h : Sat w0 w (MapS b M :: L)) (k : Int) (ok : Bool) :
    (Instr.lookup 53 (.map (some b)) (.int .i64 k) ok).run Try.prog w = .ok (if ok then .tuple #[.int .i64 (valE M k), .bool (hasE M k)] else .int .i64 (valE M k)) w := by
  obtain ⟨es, clock, he, hS⟩ := h.mpOpen
  have hg := getObjRun hS.blkO
  have hk := findKeyE w k es.toList M he.ent
  have hv := findE_val k M 0
  unfold Instr.lookup
  simp only [Sem.run_bind, run_underlying Try.underlying53, Result.andThen_ok, hg, checkE]
  unfold valE hasE
  cases hf : findE k M 0 with
  | none =>
    rw [hf] at hv hk
    cases hx : M.find? (fun m => decide (k = m.1)) with
    | none => cases ok <;> simp [hk, zero3]
    | some m => rw [hx] at hv; cases hv
  | some x =>
    rw [hf] at hv hk
    cases hx : M.find? (fun m => decide (k = m.1)) with
    | none => rw [hx] at hv; cases hv
    | some m =>
      rw [hx] at hv
      have e : x.2 = .int .i64 m.2 := by simpa using hv
      cases ok <;> simp [hk, e]
end
def decE (e : MapEntry) : Ent := (match e.key with | .int _ s => s | _ => 0, match e.val with | .int _ v => v | _ => 0)
def shE (e : MapEntry) : Prop := (e.key, e.val) = enE (decE e)
theorem cons2 {α : Type} {a b : α} {l m : List α} (h : a = b) (g : l = m) : a :: l = b :: m := by rw [h, g]
theorem ent_dec : ∀ {l : List MapEntry} {M : List Ent}, entE l M → M = l.map decE ∧ ∀ e ∈ l, shE e
  | [], [], _ => ⟨rfl, fun e he => by cases he⟩
  | [], _ :: _, h => by simp [entE] at h
  | _ :: _, [], h => by simp [entE] at h
  | e :: l, m :: M, h => by
    simp only [entE, List.map_cons, List.cons.injEq] at h
    obtain ⟨ih, ih2⟩ := ent_dec (l := l) (M := M) h.2
    have e1 : decE e = m := by
      have := h.1
      simp only [enE, Prod.mk.injEq] at this
      unfold decE
      rw [this.1, this.2]
    refine ⟨by rw [List.map_cons, e1, ← ih], fun x hx => ?_⟩
    rcases List.mem_cons.1 hx with rfl | hx
    · unfold shE; rw [e1]; exact h.1
    · exact ih2 x hx
theorem dec_ent : ∀ {l : List MapEntry}, (∀ e ∈ l, shE e) → entE l (l.map decE)
  | [], _ => rfl
  | e :: l, h => by
    have ih := dec_ent (l := l) fun x hx => h x (List.mem_cons_of_mem _ hx)
    unfold entE at ih ⊢
    rw [List.map_cons, List.map_cons, List.map_cons, ih, show (e.key, e.val) = enE (decE e) from h e (by simp)]
def putE (M : List Ent) (k : Int) (v : Int) : List Ent := if hasE M k then M.map (fun m => if m.1 = k then (m.1, v) else m) else M ++ [(k, v)]
theorem hasE_cons (m : Ent) (M : List Ent) (k : Int) : hasE (m :: M) k = (decide (k = m.1) || hasE M k) := by
  unfold hasE
  by_cases h : k = m.1
  · simp [h]
  · simp [h]
theorem hasE_iff {k : Int} : ∀ {M : List Ent}, hasE M k = true ↔ k ∈ M.map Prod.fst
  | [] => by simp [hasE]
  | m :: M => by rw [hasE_cons]; simp [hasE_iff (M := M)]
theorem hasE_not {k : Int} {M : List Ent} (h : hasE M k = false) : k ∉ M.map Prod.fst := fun g => by rw [hasE_iff.2 g] at h; cases h
theorem findE_none {k : Int} : ∀ {M : List Ent} {i : Nat}, findE k M i = none ↔ hasE M k = false
  | [], _ => by simp [findE, hasE]
  | m :: M, i => by
    rw [hasE_cons]
    unfold findE
    by_cases h : k = m.1
    · simp [h]
    · simp [h, findE_none (M := M)]
theorem map_other {k : Int} {v : Int} {M : List Ent} (h : k ∉ M.map Prod.fst) : M.map (fun m => if m.1 = k then (m.1, v) else m) = M := by
  conv => rhs; rw [← List.map_id M]
  refine List.map_congr_left fun m hm => ?_
  rw [if_neg fun e => h (by rw [← e]; exact List.mem_map_of_mem (f := Prod.fst) hm)]
  rfl
theorem filter_other {k : Int} {M : List Ent} (h : k ∉ M.map Prod.fst) : M.filter (fun m => decide (m.1 ≠ k)) = M :=
  List.filter_eq_self.2 fun m hm => by
    have : m.1 ≠ k := fun e => h (by rw [← e]; exact List.mem_map_of_mem (f := Prod.fst) hm)
    simpa using this
theorem find_mod (k : Int) (v : Int) : ∀ (es : List MapEntry) (M : List Ent) (i j : Nat) (x : Value), entE es M → findE k M i = some (j, x) → (M.map Prod.fst).Nodup →
    i ≤ j ∧ entE (es.modify (j - i) (fun e => { e with key := .int .i64 k, val := .int .i64 v })) (M.map fun m => if m.1 = k then (m.1, v) else m) ∧ ∃ e ∈ es, es[j - i]? = some e ∧ e.key = .int .i64 k
  | [], [], _, _, _, _, h, _ => by simp [findE] at h
  | [], _ :: _, _, _, _, h, _, _ => by simp [entE] at h
  | _ :: _, [], _, _, _, h, _, _ => by simp [entE] at h
  | e :: es, m :: M, i, j, x, he, hf, hn => by
    simp only [entE, List.map_cons, List.cons.injEq] at he
    have hn1 : m.1 ∉ M.map Prod.fst ∧ (M.map Prod.fst).Nodup := List.nodup_cons.1 hn
    unfold findE at hf
    by_cases h : k = m.1
    · subst h
      rw [if_pos rfl] at hf
      simp only [Option.some.injEq, Prod.mk.injEq] at hf
      obtain ⟨rfl, _⟩ := hf
      refine ⟨Nat.le_refl _, ?_, e, by simp, by simp, ?_⟩
      · rw [Nat.sub_self, List.map_cons, if_pos rfl, map_other hn1.1]
        show (List.map _ (_ :: _)) = _
        rw [List.map_cons, List.map_cons]
        exact cons2 rfl he.2
      · have := he.1
        simp only [enE, Prod.mk.injEq] at this
        exact this.1
    · rw [if_neg h] at hf
      obtain ⟨h1, h2, e', h3, h4, h5⟩ := find_mod k v es M (i + 1) j x he.2 hf hn1.2
      have e1 : j - i = (j - (i + 1)) + 1 := by omega
      refine ⟨by omega, ?_, e', List.mem_cons_of_mem _ h3, by rw [e1, List.getElem?_cons_succ]; exact h4, h5⟩
      rw [e1, List.map_cons, if_neg (Ne.symm h)]
      show (List.map _ (_ :: _)) = _
      rw [List.map_cons, List.map_cons]
      exact cons2 he.1 h2
theorem find_del (k : Int) (p : MapEntry → Bool) : ∀ (es : List MapEntry) (M : List Ent) (i j : Nat) (x : Value), entE es M → findE k M i = some (j, x) → (M.map Prod.fst).Nodup →
    i ≤ j ∧ entE (es.eraseIdx (j - i)) (M.filter fun m => decide (m.1 ≠ k)) ∧ ((∀ e ∈ es, e.key = .int .i64 k → p e = false) → (es.eraseIdx (j - i)).filter p = es.filter p)
  | [], [], _, _, _, _, h, _ => by simp [findE] at h
  | [], _ :: _, _, _, _, h, _, _ => by simp [entE] at h
  | _ :: _, [], _, _, _, h, _, _ => by simp [entE] at h
  | e :: es, m :: M, i, j, x, he, hf, hn => by
    simp only [entE, List.map_cons, List.cons.injEq] at he
    have hn1 : m.1 ∉ M.map Prod.fst ∧ (M.map Prod.fst).Nodup := List.nodup_cons.1 hn
    unfold findE at hf
    by_cases h : k = m.1
    · subst h
      rw [if_pos rfl] at hf
      simp only [Option.some.injEq, Prod.mk.injEq] at hf
      obtain ⟨rfl, _⟩ := hf
      have hk : e.key = .int .i64 m.1 := by
        have := he.1
        simp only [enE, Prod.mk.injEq] at this
        exact this.1
      refine ⟨Nat.le_refl _, ?_, fun hp => ?_⟩
      · rw [Nat.sub_self, List.filter_cons_of_neg (by simp), filter_other hn1.1]
        exact he.2
      · rw [Nat.sub_self, List.filter_cons_of_neg (by rw [hp e (by simp) hk]; simp)]
        rfl
    · rw [if_neg h] at hf
      obtain ⟨h1, h2, h3⟩ := find_del k p es M (i + 1) j x he.2 hf hn1.2
      have e1 : j - i = (j - (i + 1)) + 1 := by omega
      refine ⟨by omega, ?_, fun hp => ?_⟩
      · rw [e1, List.filter_cons_of_pos (by simpa using Ne.symm h)]
        show (List.map _ (_ :: _)) = _
        rw [List.map_cons]
        exact cons2 he.1 h2
      · rw [e1, List.eraseIdx_cons_succ, List.filter_cons, List.filter_cons, h3 fun x hx => hp x (List.mem_cons_of_mem _ hx)]
section
variable {w0 w : World} {L : List HP} {b r : Nat} {M T : List Ent}
theorem mpPut (h : Sat w0 w (MapS b M :: L)) (hn : (M.map Prod.fst).Nodup) (k : Int) (v : Int) :
    ∃ w', (Instr.mapUpdate 53 (.map (some b)) (.int .i64 k) (.int .i64 v)).run Try.prog w = .ok () w' ∧ Sat w0 w' (MapS b (putE M k v) :: L) := by
  obtain ⟨es, clock, he, hS⟩ := h.mpOpen
  have hb := hS.blkO
  have hlt : b < w.heap.size := (Array.getElem?_eq_some_iff.1 hb).1
  have hg := getObjRun hb
  have hk := findKeyE w k es.toList M he.ent
  have hset : ∀ o : Obj, (setObj b o).run Try.prog w = .ok () { w with heap := w.heap.setIfInBounds b o } := fun o => by simp [setObj, Sem.run, hb]
  have hup : ∀ o : Obj, Sat w0 { w with heap := w.heap.setIfInBounds b o } (BlkO b o :: L) := fun o =>
    Sat.update hS rfl rfl rfl (by simp) (by simp [hlt]) fun k _ hk => by simp [Array.getElem?_setIfInBounds, Ne.symm hk]
  unfold Instr.mapUpdate
  simp only [Sem.run_bind, run_underlying Try.underlying53, Result.andThen_ok, hg, checkE]
  cases hf : findE k M 0 with
  | none =>
    rw [hf] at hk
    have hh : hasE M k = false := findE_none.1 hf
    simp only [hk, Result.andThen_ok]
    refine ⟨_, hset _, Sat.mpClose ⟨?_, ?_, ?_⟩ (hup _)⟩
    · unfold putE
      rw [hh, if_neg (by simp)]
      have := he.ent
      unfold entE at this ⊢
      rw [Array.toList_push, List.map_append, List.map_append, this]
      rfl
    · rw [Array.toList_push, List.map_append, List.nodup_append]
      refine ⟨he.born, by simp, fun x hx y hy => ?_⟩
      obtain ⟨e, he1, rfl⟩ := List.mem_map.1 hx
      have := he.old e he1
      simp at hy
      omega
    · intro e h
      rw [Array.toList_push] at h
      rcases List.mem_append.1 h with h | h
      · exact Nat.lt_succ_of_lt (he.old e h)
      · simp at h
        subst h
        exact Nat.lt_succ_self _
  | some x =>
    obtain ⟨i, x⟩ := x
    rw [hf] at hk
    have hh : hasE M k = true := by
      cases hx : hasE M k with
      | true => rfl
      | false => rw [findE_none.2 hx] at hf; cases hf
    obtain ⟨_, g1, e, g2, g3, g4⟩ := find_mod k v es.toList M 0 i x he.ent hf hn
    rw [Nat.sub_zero] at g1 g3
    have hkeep : (Instr.keyThatStays (((es[i]?).map (·.key)).getD (.int .i64 k)) (.int .i64 k)).run Try.prog w = .ok (.int .i64 k) w := by
      rw [← Array.getElem?_toList, g3]
      simp [Instr.keyThatStays, g4, Instr.sameBits, beqB, Sem.run]
    simp only [hk, Result.andThen_ok, hkeep, Sem.run_bind]
    refine ⟨_, hset _, Sat.mpClose ⟨?_, ?_, ?_⟩ (hup _)⟩
    · unfold putE
      rw [hh, if_pos rfl, Array.toList_modify]
      exact g1
    · have e1 : (es.modify i fun e => { e with key := .int .i64 k, val := .int .i64 v }).toList.map (·.born) = es.toList.map (·.born) := by
        rw [Array.toList_modify]
        apply List.ext_getElem?
        intro j
        simp only [List.getElem?_map, List.getElem?_modify]
        cases es.toList[j]? with
        | none => simp
        | some e => by_cases hj : i = j <;> simp [hj]
      rw [e1]
      exact he.born
    · intro e h
      rw [Array.toList_modify] at h
      obtain ⟨j, hj⟩ := List.mem_iff_getElem?.1 h
      rw [List.getElem?_modify] at hj
      cases hx : es.toList[j]? with
      | none => rw [hx] at hj; simp at hj
      | some y =>
        rw [hx] at hj
        have := he.old y (List.mem_of_getElem? hx)
        by_cases hij : i = j
        · simp [hij] at hj
          rw [← hj]
          exact this
        · simp [hij] at hj
          rw [← hj]
          exact this
end
section
variable {w0 w : World} {L : List HP} {b : Nat} {M : List Ent}
theorem mpDel (h : Sat w0 w (MapS b M :: L)) (hn : (M.map Prod.fst).Nodup) (k : Int) (ty : TypeId) :
    ∃ w', (Builtin.delete_ #[53, 3] ty #[.map (some b), .int .i64 k]).run Try.prog w = .ok (.tuple #[]) w' ∧ Sat w0 w' (MapS b (M.filter fun m => decide (m.1 ≠ k)) :: L) := by
  obtain ⟨es, clock, h1, hS⟩ := h.mpOpen
  have hb := hS.blkO
  have hlt : b < w.heap.size := (Array.getElem?_eq_some_iff.1 hb).1
  have hg := getObjRun hb
  have hf' := findKeyE w k es.toList M h1.ent
  have hset : ∀ o : Obj, (setObj b o).run Try.prog w = .ok () { w with heap := w.heap.setIfInBounds b o } := fun o => by simp [setObj, Sem.run, hb]
  have hup : ∀ o : Obj, Sat w0 { w with heap := w.heap.setIfInBounds b o } (BlkO b o :: L) := fun o =>
    Sat.update hS rfl rfl rfl (by simp) (by simp [hlt]) fun k _ hk => by simp [Array.getElem?_setIfInBounds, Ne.symm hk]
  unfold Builtin.delete_
  simp only [List.getElem?_toArray, List.getElem?_cons_zero, List.getElem?_cons_succ, Sem.run_bind, run_underlying Try.underlying53, Result.andThen_ok, hg, checkE]
  cases hf : findE k M 0 with
  | none =>
    rw [hf] at hf'
    have hh : hasE M k = false := findE_none.1 hf
    simp only [hf', Result.andThen_ok, Sem.run_bind, hset]
    refine ⟨_, rfl, Sat.mpClose ?_ (hup _)⟩
    rw [filter_other (hasE_not hh)]
    exact h1
  | some x =>
    obtain ⟨i, x⟩ := x
    rw [hf] at hf'
    obtain ⟨_, g1, g2⟩ := find_del k (fun e => true) es.toList M 0 i x h1.ent hf hn
    rw [Nat.sub_zero] at g1 g2
    have hE : (es.eraseIdxIfInBounds i).toList = es.toList.eraseIdx i := by simp
    simp only [hf', Result.andThen_ok, Sem.run_bind, hset]
    refine ⟨_, rfl, Sat.mpClose ⟨by rw [hE]; exact g1, by rw [hE]; exact ((List.eraseIdx_sublist _ _).map _).nodup h1.born, fun e he => h1.old e ?_⟩ (hup _)⟩
    rw [hE] at he
    exact (List.eraseIdx_sublist _ _).subset he
end
theorem wpList_mpPut {w0 w : World} {L : List HP} {b : Nat} {M : List Ent} {ops : Array Oper} {rest : List Oper} {o : Oper} {a : Act} {Q : Exit → Act → World → Prop}
    (hg : o.guard = none) (m x v : Operand) (hop : o.op = Op.mapUpdate 53 m x v) (hm : a.eval m = .map (some b)) (hS : Sat w0 w (MapS b M :: L)) (hn : (M.map Prod.fst).Nodup) {s : Int} {k : Int} (hx : a.eval x = .int .i64 s) (hv : a.eval v = .int .i64 k)
    (hK : ∀ w', Sat w0 w' (MapS b (putE M s k) :: L) → wpList Try.prog ops Q rest (a.put o.dst undef) w') :
    wpList Try.prog ops Q (o :: rest) a w := by
  refine wpList_plain hg fun K' hK' => ?_
  obtain ⟨w', hrun, r1⟩ := mpPut hS hn s k
  unfold Oper.wp
  simp [execOp, hop, hm, hx, hv, hrun, Result.andThen]
  exact hK' _ _ (hK w' r1)
theorem wpList_mpDel {w0 w : World} {L : List HP} {b : Nat} {M : List Ent} {ops : Array Oper} {rest : List Oper} {o : Oper} {a : Act} {Q : Exit → Act → World → Prop}
    (hg : o.guard = none) (m x : Operand) (hop : o.op = Op.call { callee := Callee.builtin Builtin.delete, args := #[m, x], argTypes := #[53, 3] })
    (hm : a.eval m = .map (some b)) {k : Int} (hx : a.eval x = .int .i64 k) (hS : Sat w0 w (MapS b M :: L)) (hn : (M.map Prod.fst).Nodup)
    (hK : ∀ w', Sat w0 w' (MapS b (M.filter fun m => decide (m.1 ≠ k)) :: L) → wpList Try.prog ops Q rest (a.put o.dst (.tuple #[])) w') :
    wpList Try.prog ops Q (o :: rest) a w := by
  refine wpList_plain hg fun K' hK' => ?_
  obtain ⟨w', hrun, r1⟩ := mpDel hS hn k o.type
  unfold Oper.wp
  simp [execOp, hop, resolve, invoke, builtin, hm, hx, hrun, Result.andThen]
  exact hK' _ _ (hK w' r1)
end Go.Proofs.Ytbgbpibfmdkndaa
