/- A map of texts to numbers: store, delete; the iterator over it as a piece of memory. -/
import Derived.Test.YtbgbpibfmdkndaaDoorLF
set_option linter.unusedVariables false
set_option linter.unusedSimpArgs false
set_option linter.unnecessarySimpa false
set_option maxRecDepth 100000
namespace Go.Proofs.YtbgbpibfmdkndaaDoor
open Go.RowKit Go.ChangeShapes Go.WideShapes Go.ChangeAt
def decE (e : MapEntry) : Ent := (match e.key with | .string s => s | _ => .empty, match e.val with | .int _ v => v | _ => 0)
def shE (e : MapEntry) : Prop := (e.key, e.val) = enE (decE e)
theorem cons2 {α : Type} {a b : α} {l m : List α} (h : a = b) (g : l = m) : a :: l = b :: m := by rw [h, g]
theorem ent_dec : ∀ {l : List MapEntry} {M : List Ent}, entE l M → M = l.map decE ∧ ∀ e ∈ l, shE e
  | [], [], _ => ⟨rfl, fun e he => by cases he⟩
  | [], _ :: _, h => by simp [entE] at h
  | _ :: _, [], h => by simp [entE] at h
  | e :: l, m :: M, h => by
    simp only [entE, List.map_cons, List.cons.injEq] at h
    obtain ⟨ih, ih2⟩ := ent_dec (l := l) (M := M) h.2
    have e1 : decE e = m := by
      have := h.1
      simp only [enE, Prod.mk.injEq] at this
      unfold decE
      rw [this.1, this.2]
    refine ⟨by rw [List.map_cons, e1, ← ih], fun x hx => ?_⟩
    rcases List.mem_cons.1 hx with rfl | hx
    · unfold shE; rw [e1]; exact h.1
    · exact ih2 x hx
theorem dec_ent : ∀ {l : List MapEntry}, (∀ e ∈ l, shE e) → entE l (l.map decE)
  | [], _ => rfl
  | e :: l, h => by
    have ih := dec_ent (l := l) fun x hx => h x (List.mem_cons_of_mem _ hx)
    unfold entE at ih ⊢
    rw [List.map_cons, List.map_cons, List.map_cons, ih, show (e.key, e.val) = enE (decE e) from h e (by simp)]
def putE (M : List Ent) (k : ByteArray) (v : Int) : List Ent := if hasE M k then M.map (fun m => if m.1 = k then (m.1, v) else m) else M ++ [(k, v)]
theorem hasE_cons (m : Ent) (M : List Ent) (k : ByteArray) : hasE (m :: M) k = (decide (k = m.1) || hasE M k) := by
  unfold hasE
  by_cases h : k = m.1
  · simp [h]
  · simp [h]
theorem hasE_iff {k : ByteArray} : ∀ {M : List Ent}, hasE M k = true ↔ k ∈ M.map Prod.fst
  | [] => by simp [hasE]
  | m :: M => by rw [hasE_cons]; simp [hasE_iff (M := M)]
theorem hasE_not {k : ByteArray} {M : List Ent} (h : hasE M k = false) : k ∉ M.map Prod.fst := fun g => by rw [hasE_iff.2 g] at h; cases h
theorem findE_none {k : ByteArray} : ∀ {M : List Ent} {i : Nat}, findE k M i = none ↔ hasE M k = false
  | [], _ => by simp [findE, hasE]
  | m :: M, i => by
    rw [hasE_cons]
    unfold findE
    by_cases h : k = m.1
    · simp [h]
    · simp [h, findE_none (M := M)]
theorem map_other {k : ByteArray} {v : Int} {M : List Ent} (h : k ∉ M.map Prod.fst) : M.map (fun m => if m.1 = k then (m.1, v) else m) = M := by
  conv => rhs; rw [← List.map_id M]
  refine List.map_congr_left fun m hm => ?_
  rw [if_neg fun e => h (by rw [← e]; exact List.mem_map_of_mem (f := Prod.fst) hm)]
  rfl
theorem filter_other {k : ByteArray} {M : List Ent} (h : k ∉ M.map Prod.fst) : M.filter (fun m => decide (m.1 ≠ k)) = M :=
  List.filter_eq_self.2 fun m hm => by
    have : m.1 ≠ k := fun e => h (by rw [← e]; exact List.mem_map_of_mem (f := Prod.fst) hm)
    simpa using this
theorem find_mod (k : ByteArray) (v : Int) : ∀ (es : List MapEntry) (M : List Ent) (i j : Nat) (x : Value), entE es M → findE k M i = some (j, x) → (M.map Prod.fst).Nodup →
    i ≤ j ∧ entE (es.modify (j - i) (fun e => { e with key := .string k, val := .int .i64 v })) (M.map fun m => if m.1 = k then (m.1, v) else m) ∧ ∃ e ∈ es, es[j - i]? = some e ∧ e.key = .string k
  | [], [], _, _, _, _, h, _ => by simp [findE] at h
  | [], _ :: _, _, _, _, h, _, _ => by simp [entE] at h
  | _ :: _, [], _, _, _, h, _, _ => by simp [entE] at h
  | e :: es, m :: M, i, j, x, he, hf, hn => by
    simp only [entE, List.map_cons, List.cons.injEq] at he
    have hn1 : m.1 ∉ M.map Prod.fst ∧ (M.map Prod.fst).Nodup := List.nodup_cons.1 hn
    unfold findE at hf
    by_cases h : k = m.1
    · subst h
      rw [if_pos rfl] at hf
      simp only [Option.some.injEq, Prod.mk.injEq] at hf
      obtain ⟨rfl, _⟩ := hf
      refine ⟨Nat.le_refl _, ?_, e, by simp, by simp, ?_⟩
      · rw [Nat.sub_self, List.map_cons, if_pos rfl, map_other hn1.1]
        show (List.map _ (_ :: _)) = _
        rw [List.map_cons, List.map_cons]
        exact cons2 rfl he.2
      · have := he.1
        simp only [enE, Prod.mk.injEq] at this
        exact this.1
    · rw [if_neg h] at hf
      obtain ⟨h1, h2, e', h3, h4, h5⟩ := find_mod k v es M (i + 1) j x he.2 hf hn1.2
      have e1 : j - i = (j - (i + 1)) + 1 := by omega
      refine ⟨by omega, ?_, e', List.mem_cons_of_mem _ h3, by rw [e1, List.getElem?_cons_succ]; exact h4, h5⟩
      rw [e1, List.map_cons, if_neg (Ne.symm h)]
      show (List.map _ (_ :: _)) = _
      rw [List.map_cons, List.map_cons]
      exact cons2 he.1 h2
theorem find_del (k : ByteArray) (p : MapEntry → Bool) : ∀ (es : List MapEntry) (M : List Ent) (i j : Nat) (x : Value), entE es M → findE k M i = some (j, x) → (M.map Prod.fst).Nodup →
    i ≤ j ∧ entE (es.eraseIdx (j - i)) (M.filter fun m => decide (m.1 ≠ k)) ∧ ((∀ e ∈ es, e.key = .string k → p e = false) → (es.eraseIdx (j - i)).filter p = es.filter p)
  | [], [], _, _, _, _, h, _ => by simp [findE] at h
  | [], _ :: _, _, _, _, h, _, _ => by simp [entE] at h
  | _ :: _, [], _, _, _, h, _, _ => by simp [entE] at h
  | e :: es, m :: M, i, j, x, he, hf, hn => by
    simp only [entE, List.map_cons, List.cons.injEq] at he
    have hn1 : m.1 ∉ M.map Prod.fst ∧ (M.map Prod.fst).Nodup := List.nodup_cons.1 hn
    unfold findE at hf
    by_cases h : k = m.1
    · subst h
      rw [if_pos rfl] at hf
      simp only [Option.some.injEq, Prod.mk.injEq] at hf
      obtain ⟨rfl, _⟩ := hf
      have hk : e.key = .string m.1 := by
        have := he.1
        simp only [enE, Prod.mk.injEq] at this
        exact this.1
      refine ⟨Nat.le_refl _, ?_, fun hp => ?_⟩
      · rw [Nat.sub_self, List.filter_cons_of_neg (by simp), filter_other hn1.1]
        exact he.2
      · rw [Nat.sub_self, List.filter_cons_of_neg (by rw [hp e (by simp) hk]; simp)]
        rfl
    · rw [if_neg h] at hf
      obtain ⟨h1, h2, h3⟩ := find_del k p es M (i + 1) j x he.2 hf hn1.2
      have e1 : j - i = (j - (i + 1)) + 1 := by omega
      refine ⟨by omega, ?_, fun hp => ?_⟩
      · rw [e1, List.filter_cons_of_pos (by simpa using Ne.symm h)]
        show (List.map _ (_ :: _)) = _
        rw [List.map_cons]
        exact cons2 he.1 h2
      · rw [e1, List.eraseIdx_cons_succ, List.filter_cons, List.filter_cons, h3 fun x hx => hp x (List.mem_cons_of_mem _ hx)]
section
variable {w0 w : World} {L : List HP} {b r : Nat} {M T : List Ent}
theorem mpPut (h : Sat w0 w (MapS b M :: L)) (hn : (M.map Prod.fst).Nodup) (k : ByteArray) (v : Int) :
    ∃ w', (Instr.mapUpdate 48 (.map (some b)) (.string k) (.int .i64 v)).run Tryd.prog w = .ok () w' ∧ Sat w0 w' (MapS b (putE M k v) :: L) := by
  obtain ⟨es, clock, he, hS⟩ := h.mpOpen
  have hb := hS.blkO
  have hlt : b < w.heap.size := (Array.getElem?_eq_some_iff.1 hb).1
  have hg := getObjRun hb
  have hk := findKeyE w k es.toList M he.ent
  have hset : ∀ o : Obj, (setObj b o).run Tryd.prog w = .ok () { w with heap := w.heap.setIfInBounds b o } := fun o => by simp [setObj, Sem.run, hb]
  have hup : ∀ o : Obj, Sat w0 { w with heap := w.heap.setIfInBounds b o } (BlkO b o :: L) := fun o =>
    Sat.update hS rfl rfl rfl (by simp) (by simp [hlt]) fun k _ hk => by simp [Array.getElem?_setIfInBounds, Ne.symm hk]
  unfold Instr.mapUpdate
  simp only [Sem.run_bind, run_underlying Tryd.underlying48, Result.andThen_ok, hg, checkE]
  cases hf : findE k M 0 with
  | none =>
    rw [hf] at hk
    have hh : hasE M k = false := findE_none.1 hf
    simp only [hk, Result.andThen_ok]
    refine ⟨_, hset _, Sat.mpClose ⟨?_, ?_, ?_⟩ (hup _)⟩
    · unfold putE
      rw [hh, if_neg (by simp)]
      have := he.ent
      unfold entE at this ⊢
      rw [Array.toList_push, List.map_append, List.map_append, this]
      rfl
    · rw [Array.toList_push, List.map_append, List.nodup_append]
      refine ⟨he.born, by simp, fun x hx y hy => ?_⟩
      obtain ⟨e, he1, rfl⟩ := List.mem_map.1 hx
      have := he.old e he1
      simp at hy
      omega
    · intro e h
      rw [Array.toList_push] at h
      rcases List.mem_append.1 h with h | h
      · exact Nat.lt_succ_of_lt (he.old e h)
      · simp at h
        subst h
        exact Nat.lt_succ_self _
  | some x =>
    obtain ⟨i, x⟩ := x
    rw [hf] at hk
    have hh : hasE M k = true := by
      cases hx : hasE M k with
      | true => rfl
      | false => rw [findE_none.2 hx] at hf; cases hf
    obtain ⟨_, g1, e, g2, g3, g4⟩ := find_mod k v es.toList M 0 i x he.ent hf hn
    rw [Nat.sub_zero] at g1 g3
    have hkeep : (Instr.keyThatStays (((es[i]?).map (·.key)).getD (.string k)) (.string k)).run Tryd.prog w = .ok (.string k) w := by
      rw [← Array.getElem?_toList, g3]
      simp [Instr.keyThatStays, g4, Instr.sameBits, beqB, Sem.run]
    simp only [hk, Result.andThen_ok, hkeep, Sem.run_bind]
    refine ⟨_, hset _, Sat.mpClose ⟨?_, ?_, ?_⟩ (hup _)⟩
    · unfold putE
      rw [hh, if_pos rfl, Array.toList_modify]
      exact g1
    · have e1 : (es.modify i fun e => { e with key := .string k, val := .int .i64 v }).toList.map (·.born) = es.toList.map (·.born) := by
        rw [Array.toList_modify]
        apply List.ext_getElem?
        intro j
        simp only [List.getElem?_map, List.getElem?_modify]
        cases es.toList[j]? with
        | none => simp
        | some e => by_cases hj : i = j <;> simp [hj]
      rw [e1]
      exact he.born
    · intro e h
      rw [Array.toList_modify] at h
      obtain ⟨j, hj⟩ := List.mem_iff_getElem?.1 h
      rw [List.getElem?_modify] at hj
      cases hx : es.toList[j]? with
      | none => rw [hx] at hj; simp at hj
      | some y =>
        rw [hx] at hj
        have := he.old y (List.mem_of_getElem? hx)
        by_cases hij : i = j
        · simp [hij] at hj
          rw [← hj]
          exact this
        · simp [hij] at hj
          rw [← hj]
          exact this
/-- the iterator r over the map b: T is still to come -/
def ItP (r b : Nat) (M T : List Ent) : HP := ex fun x : Array MapEntry × Nat × Array Nat =>
  wth (MapOk x.1 x.2.1 M ∧ entE (leftE x.1 x.2.2).toList T) (sep [BlkO r (.mapIter (some b) x.2.1 x.2.2 x.2.1), BlkO b (.map x.1 x.2.1)])
/-- how much is still to come, read off the world -/
def leftN (w : World) (r : Nat) : Nat := match w.heap[r]? with
  | some (.mapIter (some b) _ seen _) => (match w.heap[b]? with | some (.map es _) => (leftE es seen).size | _ => 0)
  | _ => 0
theorem Sat.itOpen (h : Sat w0 w (ItP r b M T :: L)) : ∃ (es : Array MapEntry) (clock : Nat) (seen : Array Nat), MapOk es clock M ∧ entE (leftE es seen).toList T ∧ Sat w0 w (BlkO r (.mapIter (some b) clock seen clock) :: BlkO b (.map es clock) :: L) := by
  obtain ⟨⟨es, clock, seen⟩, h2⟩ := h.open_ex
  obtain ⟨⟨h3, h4⟩, h5⟩ := h2.open_wth
  exact ⟨es, clock, seen, h3, h4, h5.open_⟩
theorem Sat.itClose {es : Array MapEntry} {clock : Nat} {seen : Array Nat} (h1 : MapOk es clock M) (h2 : entE (leftE es seen).toList T) (h : Sat w0 w (BlkO r (.mapIter (some b) clock seen clock) :: BlkO b (.map es clock) :: L)) : Sat w0 w (ItP r b M T :: L) :=
  Sat.close_ex (α := Array MapEntry × Nat × Array Nat) ⟨es, clock, seen⟩ (Sat.close_wth ⟨h1, h2⟩ h.close2)
theorem Sat.leftN (h : Sat w0 w (ItP r b M T :: L)) : leftN w r = T.length := by
  obtain ⟨es, clock, seen, _, h2, hS⟩ := h.itOpen
  unfold YtbgbpibfmdkndaaDoor.leftN
  rw [hS.blkO]
  simp only [hS.r2.blkO]
  rw [(ent_dec h2).1, List.length_map]
  simp
theorem Sat.itDone (h : Sat w0 w (ItP r b M T :: L)) : Sat w0 w (MapS b M :: L) := by
  obtain ⟨es, clock, seen, h1, _, hS⟩ := h.itOpen
  exact hS.tail.mpClose h1
theorem Sat.itNew (h : Sat w0 w (MapS b M :: L)) : ∃ w', (Instr.range 48 (.map (some b))).run Tryd.prog w = .ok (.pointer (some ⟨w.heap.size, 0, none⟩)) w' ∧ w'.heap.size = w.heap.size + 1 ∧ Sat w0 w' (ItP w.heap.size b M M :: L) := by
  obtain ⟨es, clock, h1, hS⟩ := h.mpOpen
  refine ⟨_, run_range hS, by simp, Sat.itClose h1 ?_ (hS.alloc _)⟩
  have : leftE es #[] = es := by unfold leftE; simp
  rw [this]
  exact h1.ent
theorem left_perm : ∀ {l : List MapEntry} {e : MapEntry}, (l.map (·.born)).Nodup → e ∈ l → l.Perm (e :: l.filter fun x => !(x.born == e.born))
  | x :: l, e, hn, he => by
    have hn1 : x.born ∉ l.map (·.born) ∧ (l.map (·.born)).Nodup := List.nodup_cons.1 hn
    rcases List.mem_cons.1 he with rfl | he
    · rw [List.filter_cons_of_neg (by simp), List.filter_eq_self.2]
      intro y hy
      have : y.born ≠ e.born := fun g => hn1.1 (by rw [← g]; exact List.mem_map_of_mem (f := (·.born)) hy)
      simpa using this
    · have : x.born ≠ e.born := fun g => hn1.1 (by rw [g]; exact List.mem_map_of_mem (f := (·.born)) he)
      rw [List.filter_cons_of_pos (by simpa using this)]
      exact ((left_perm hn1.2 he).cons x).trans (List.Perm.swap _ _ _)
theorem left_push (es : Array MapEntry) (seen : Array Nat) (n : Nat) : (leftE es (seen.push n)).toList = (leftE es seen).toList.filter fun x => !(x.born == n) := by
  unfold leftE
  rw [Array.toList_filter, Array.toList_filter, List.filter_filter]
  refine List.filter_congr fun x _ => ?_
  rw [contains_push]
  cases seen.contains x.born <;> cases x.born == n <;> rfl
theorem Sat.itNext (h : Sat w0 w (ItP r b M T :: L)) (ty : TypeId) :
    (T = [] ∧ (Instr.next (.pointer (some ⟨r, 0, none⟩)) false ty).run Tryd.prog w = .ok (.tuple #[.bool false]) w) ∨
    ∃ (x : Ent) (T' : List Ent) (w' : World), T.Perm (x :: T') ∧ (Instr.next (.pointer (some ⟨r, 0, none⟩)) false ty).run Tryd.prog w = .ok (.tuple #[.bool true, .string x.1, .int .i64 x.2]) w' ∧
      (Instr.entry (.pointer (some ⟨r, 0, none⟩))).run Tryd.prog w' = .ok (.tuple #[.string x.1, .int .i64 x.2]) w' ∧ Sat w0 w' (ItP r b M T' :: L) := by
  obtain ⟨es, clock, seen, h1, h2, hS⟩ := h.itOpen
  obtain ⟨d1, d2⟩ := ent_dec h2
  rcases run_next hS h1.old ty with ⟨h0, hr⟩ | ⟨e, he, w', hr, hS'⟩
  · left
    refine ⟨?_, hr⟩
    have : leftE es seen = #[] := Array.eq_empty_of_size_eq_zero h0
    rw [this] at d1
    exact d1
  · right
    have hes : e ∈ es.toList := by unfold leftE at he; simp at he ⊢; exact he.1
    have hnl : ((leftE es seen).toList.map (·.born)).Nodup := by
      unfold leftE
      rw [Array.toList_filter]
      exact (List.filter_sublist.map _).nodup h1.born
    have hp := (left_perm hnl he).map decE
    rw [← left_push, ← d1, List.map_cons] at hp
    have hsh : (e.key, e.val) = enE (decE e) := d2 e he
    simp only [enE, Prod.mk.injEq] at hsh
    refine ⟨decE e, _, w', hp, by rw [hr, hsh.1, hsh.2], by rw [run_entry hS' h1.born hes rfl, hsh.1, hsh.2], Sat.itClose h1 (dec_ent fun x hx => ?_) hS'⟩
    rw [left_push] at hx
    exact d2 x (List.mem_filter.1 hx).1
theorem Sat.itDel (h : Sat w0 w (ItP r b M T :: L)) (hn : (M.map Prod.fst).Nodup) (k : ByteArray) (hk : k ∉ T.map Prod.fst) (ty : TypeId) :
    ∃ w', (Builtin.delete_ #[48, 9] ty #[.map (some b), .string k]).run Tryd.prog w = .ok (.tuple #[]) w' ∧ Sat w0 w' (ItP r b (M.filter fun m => decide (m.1 ≠ k)) T :: L) := by
  obtain ⟨es, clock, seen, h1, h2, hS⟩ := h.itOpen
  have hS2 := hS.r2
  have hb := hS2.blkO
  have hlt : b < w.heap.size := (Array.getElem?_eq_some_iff.1 hb).1
  have hg := getObjRun hb
  have hf' := findKeyE w k es.toList M h1.ent
  have hset : ∀ o : Obj, (setObj b o).run Tryd.prog w = .ok () { w with heap := w.heap.setIfInBounds b o } := fun o => by simp [setObj, Sem.run, hb]
  have hup : ∀ o : Obj, Sat w0 { w with heap := w.heap.setIfInBounds b o } (BlkO b o :: BlkO r (.mapIter (some b) clock seen clock) :: L) := fun o =>
    Sat.update hS2 rfl rfl rfl (by simp) (by simp [hlt]) fun k _ hk => by simp [Array.getElem?_setIfInBounds, Ne.symm hk]
  unfold Builtin.delete_
  simp only [List.getElem?_toArray, List.getElem?_cons_zero, List.getElem?_cons_succ, Sem.run_bind, run_underlying Tryd.underlying48, Result.andThen_ok, hg, checkE]
  cases hf : findE k M 0 with
  | none =>
    rw [hf] at hf'
    have hh : hasE M k = false := findE_none.1 hf
    simp only [hf', Result.andThen_ok, Sem.run_bind, hset]
    refine ⟨_, rfl, Sat.itClose ?_ h2 (hup _).r2⟩
    rw [filter_other (hasE_not hh)]
    exact h1
  | some x =>
    obtain ⟨i, x⟩ := x
    rw [hf] at hf'
    obtain ⟨_, g1, g2⟩ := find_del k (fun e => !seen.contains e.born) es.toList M 0 i x h1.ent hf hn
    rw [Nat.sub_zero] at g1 g2
    have hE : (es.eraseIdxIfInBounds i).toList = es.toList.eraseIdx i := by simp
    simp only [hf', Result.andThen_ok, Sem.run_bind, hset]
    refine ⟨_, rfl, Sat.itClose ⟨by rw [hE]; exact g1, by rw [hE]; exact ((List.eraseIdx_sublist _ _).map _).nodup h1.born, fun e he => h1.old e ?_⟩ ?_ (hup _).r2⟩
    · rw [hE] at he
      exact (List.eraseIdx_sublist _ _).subset he
    · have e1 : (leftE (es.eraseIdxIfInBounds i) seen).toList = (leftE es seen).toList := by
        unfold leftE
        rw [Array.toList_filter, Array.toList_filter, hE]
        refine g2 fun e he hke => ?_
        cases hc : seen.contains e.born with
        | true => rfl
        | false =>
          refine absurd ?_ hk
          obtain ⟨d1, d2⟩ := ent_dec h2
          have hel : e ∈ (leftE es seen).toList := by unfold leftE; rw [Array.toList_filter]; exact List.mem_filter.2 ⟨he, by rw [hc]; rfl⟩
          have hsh : (e.key, e.val) = enE (decE e) := d2 e hel
          simp only [enE, Prod.mk.injEq] at hsh
          rw [hke] at hsh
          injection hsh.1 with hk2
          rw [d1, List.map_map, hk2]
          exact List.mem_map_of_mem (f := Prod.fst ∘ decE) hel
      rw [e1]
      exact h2
end
end Go.Proofs.YtbgbpibfmdkndaaDoor
