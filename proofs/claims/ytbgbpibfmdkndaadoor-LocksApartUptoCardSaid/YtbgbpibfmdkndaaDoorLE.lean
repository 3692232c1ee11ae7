/- A map of texts to numbers, known whole, as a piece of memory: look-up, store, delete; ranging over it. -/
import Derived.Test.YtbgbpibfmdkndaaDoorSL
import Derived.Laws.IdiomRangeMap
set_option linter.unusedVariables false
set_option linter.unusedSimpArgs false
set_option linter.unnecessarySimpa false
set_option maxRecDepth 100000
namespace Go.Proofs.YtbgbpibfmdkndaaDoor
open Go.RowKit Go.ChangeShapes Go.WideShapes Go.ChangeAt
abbrev Ent := ByteArray × Int
def enE (m : Ent) : Value × Value := (.string m.1, .int .i64 m.2)
def entE (es : List MapEntry) (M : List Ent) : Prop := es.map (fun e => (e.key, e.val)) = M.map enE
def findE (k : ByteArray) : List Ent → Nat → Option (Nat × Value)
  | [], _ => none
  | m :: M, i => if k = m.1 then some (i, .int .i64 m.2) else findE k M (i + 1)
theorem beqB (a b : ByteArray) : (a == b) = decide (a = b) := by
  by_cases h : a = b
  · rw [decide_eq_true h]; exact (MapKept.bytes_beq a b).2 h
  · rw [decide_eq_false h]
    cases hb : a == b with
    | false => rfl
    | true => exact absurd ((MapKept.bytes_beq a b).1 hb) h
theorem nowE (k : ByteArray) : ∀ (es : List MapEntry) (M : List Ent) (i : Nat), entE es M → Instr.findNow .string (.string k) es i = some (findE k M i)
  | [], [], i, _ => rfl
  | [], _ :: _, i, h => by simp [entE] at h
  | _ :: _, [], i, h => by simp [entE] at h
  | e :: es, m :: M, i, h => by
    simp only [entE, List.map_cons, List.cons.injEq, enE, Prod.mk.injEq] at h
    obtain ⟨⟨h1, h2⟩, h3⟩ := h
    have ih := nowE k es M (i + 1) h3
    unfold Instr.findNow findE
    rw [h1, h2]
    by_cases hk : k = m.1
    · subst hk
      simp [Instr.sameNow, beqB]
    · simp [Instr.sameNow, beqB, hk, ih]
theorem findKeyE (w : World) (k : ByteArray) (es : List MapEntry) (M : List Ent) (h : entE es M) : (Instr.findKey 9 (.string k) es).run Tryd.prog w = .ok (findE k M 0) w := by
  unfold Instr.findKey
  simp only [Sem.run_bind, run_underlying Tryd.underlying9, Result.andThen_ok]
  rw [nowE k es M 0 h]
  rfl
theorem checkE (w : World) (em : Bool) (k : ByteArray) : (Instr.checkKey em 10000 9 (.string k)).run Tryd.prog w = .ok () w := by
  rw [Instr.checkKey]
  simp [Sem.run_bind, run_underlying Tryd.underlying9]
theorem zero3 (w : World) : (zeroValue 3).run Tryd.prog w = .ok (.int .i64 0) w := by kernel_rfl
theorem getObjRun {w : World} {b : Nat} {es : Array MapEntry} {clock : Nat} (h : w.heap[b]? = some (.map es clock)) : (getObj b).run Tryd.prog w = .ok (.map es clock) w := by
  simp [getObj, Sem.run, h]
/-- what stands of a map in memory -/
structure MapOk (es : Array MapEntry) (clock : Nat) (M : List Ent) : Prop where
  ent : entE es.toList M
  born : (es.toList.map (·.born)).Nodup
  old : ∀ e ∈ es.toList, e.born < clock
def MapS (b : Nat) (M : List Ent) : HP := fun h => ∃ (es : Array MapEntry) (clock : Nat), h b = some (.map es clock) ∧ MapOk es clock M
section
variable {w0 w : World} {L : List HP} {b : Nat} {M : List Ent}
theorem Sat.mpNew (h : Sat w0 w L) : Sat w0 (w.alloc (.map #[] 0)) (MapS w.heap.size [] :: L) :=
  (h.alloc (.map #[] 0)).imp fun h hb => ⟨#[], 0, hb, ⟨rfl, List.nodup_nil, fun e he => by cases he⟩⟩
theorem Sat.mpOpen (h : Sat w0 w (MapS b M :: L)) : ∃ (es : Array MapEntry) (clock : Nat), MapOk es clock M ∧ Sat w0 w (BlkO b (.map es clock) :: L) := by
  obtain ⟨h1, h2, l1, l2, d, ⟨es, clock, hb, he⟩, s⟩ := h.own
  exact ⟨es, clock, he, ⟨h.os, h.tape, h.output, h.size, h1, h2, l1, l2, d, hb, s⟩⟩
theorem Sat.mpClose {es : Array MapEntry} {clock : Nat} (he : MapOk es clock M) (h : Sat w0 w (BlkO b (.map es clock) :: L)) : Sat w0 w (MapS b M :: L) := h.imp fun _ hb => ⟨es, clock, hb, he⟩
/-- who has a key -/
def valE (M : List Ent) (k : ByteArray) : Int := match M.find? (fun m => decide (k = m.1)) with | some m => m.2 | none => 0
def hasE (M : List Ent) (k : ByteArray) : Bool := (M.find? (fun m => decide (k = m.1))).isSome
theorem findE_val (k : ByteArray) : ∀ (M : List Ent) (i : Nat), (findE k M i).map Prod.snd = (M.find? (fun m => decide (k = m.1))).map fun m => .int .i64 m.2
  | [], i => rfl
  | m :: M, i => by
    unfold findE
    by_cases h : k = m.1
    · subst h; simp
    · simp [h, findE_val k M (i + 1)]
theorem Sat.mpLook (h : Sat w0 w (MapS b M :: L)) (k : ByteArray) (ok : Bool) :
    (Instr.lookup 48 (.map (some b)) (.string k) ok).run Tryd.prog w = .ok (if ok then .tuple #[.int .i64 (valE M k), .bool (hasE M k)] else .int .i64 (valE M k)) w := by
  obtain ⟨es, clock, he, hS⟩ := h.mpOpen
  have hg := getObjRun hS.blkO
  have hk := findKeyE w k es.toList M he.ent
  have hv := findE_val k M 0
  unfold Instr.lookup
  simp only [Sem.run_bind, run_underlying Tryd.underlying48, Result.andThen_ok, hg, checkE]
  unfold valE hasE
  cases hf : findE k M 0 with
  | none =>
    rw [hf] at hv hk
    cases hx : M.find? (fun m => decide (k = m.1)) with
    | none => cases ok <;> simp [hk, zero3]
    | some m => rw [hx] at hv; cases hv
  | some x =>
    rw [hf] at hv hk
    cases hx : M.find? (fun m => decide (k = m.1)) with
    | none => rw [hx] at hv; cases hv
    | some m =>
      rw [hx] at hv
      have e : x.2 = .int .i64 m.2 := by simpa using hv
      cases ok <;> simp [hk, e]
end
end Go.Proofs.YtbgbpibfmdkndaaDoor
