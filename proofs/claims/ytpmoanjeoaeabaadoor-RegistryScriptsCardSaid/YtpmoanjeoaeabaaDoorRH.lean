/- A map of places (names and versions) to definitions. -/
import Derived.Test.YtpmoanjeoaeabaaDoorRG
set_option linter.unusedVariables false
set_option linter.unusedSimpArgs false
set_option linter.unnecessarySimpa false
set_option maxRecDepth 100000
namespace Go.Proofs.YtpmoanjeoaeabaaDoor
open Go.RowKit Go.ChangeShapes Go.WideShapes Go.ChangeAt
abbrev Plc := ByteArray × Int
def enP (p : Plc) : Value := .agg #[.string p.1, .int .i64 p.2]
theorem pp0 (a b : Value) (w : World) : (part 9 #[a, b] 0).run Tryd.prog w = .ok a w := by kernel_rfl
theorem pp1 (a b : Value) (w : World) : (part 3 #[a, b] 1).run Tryd.prog w = .ok b w := by kernel_rfl
theorem eqPlace (w : World) (d : Nat) (a b : Plc) : (Op.equalIn (d + 2) 80 (enP a) (enP b)).run Tryd.prog w = .ok (decide (a = b)) w := by
  unfold enP
  rw [Op.equalIn]
  simp [run_underlying Tryd.underlying80]
  have e1 : ∀ (w : World) (x y : ByteArray), (Op.equalIn (d + 1) 9 (.string x) (.string y)).run Tryd.prog w = .ok (x.toList == y.toList) w := fun w x y => run_equalIn_string w d 9 x y Tryd.underlying9
  have e2 : ∀ (w : World) (x y : Int), (Op.equalIn (d + 1) 3 (.int .i64 x) (.int .i64 y)).run Tryd.prog w = .ok (x == y) w := fun w x y => run_equalIn_int w d 3 .i64 .i64 x y Tryd.underlying3
  obtain ⟨a1, a2⟩ := a
  obtain ⟨b1, b2⟩ := b
  by_cases h1 : a1 = b1
  · subst h1
    by_cases h2 : a2 = b2
    · subst h2
      simp [pp0, pp1, e1, e2]
    · simp [pp0, pp1, e1, e2, h2]
  · have := str_no h1
    simp [pp0, pp1, e1, e2, this, h1]
theorem eqPlc (w : World) (a b : Plc) : (Op.equal 80 (enP a) (enP b)).run Tryd.prog w = .ok (decide (a = b)) w := eqPlace w 9998 a b
/-- where a place stands, and what stands there -/
def findP (k : Plc) : List (Plc × Value) → Nat → Option (Nat × Value)
  | [], _ => none
  | (p, v) :: M, i => if k = p then some (i, v) else findP k M (i + 1)
def entP (es : List MapEntry) (M : List (Plc × Value)) : Prop := es.map (fun e => (e.key, e.val)) = M.map fun m => (enP m.1, m.2)
theorem asking (w : World) (k : Plc) : ∀ (es : List MapEntry) (M : List (Plc × Value)) (i : Nat), entP es M → (Instr.findAsking 80 (enP k) es i).run Tryd.prog w = .ok (findP k M i) w
  | [], [], i, _ => by simp [Instr.findAsking, findP]
  | [], _ :: _, _, h => by simp [entP] at h
  | _ :: _, [], _, h => by simp [entP] at h
  | e :: es, (p, v) :: M, i, h => by
    have h1 : e.key = enP p ∧ e.val = v ∧ entP es M := by
      unfold entP at h ⊢
      simpa [and_assoc] using h
    obtain ⟨hk, hv, hM⟩ := h1
    have ih := asking w k es M (i + 1) hM
    unfold Instr.findAsking findP
    rw [hk, hv]
    by_cases e2 : k = p
    · rw [if_pos e2]
      simp [eqPlc, e2]
    · rw [if_neg e2]
      simp [eqPlc, e2, ih]
theorem findKeyP (w : World) (k : Plc) (es : List MapEntry) (M : List (Plc × Value)) (h : entP es M) : (Instr.findKey 80 (enP k) es).run Tryd.prog w = .ok (findP k M 0) w := by
  unfold Instr.findKey
  cases es with
  | nil =>
    cases M with
    | nil => simp [run_underlying Tryd.underlying80, Instr.findNow, findP]
    | cons m M => simp [entP] at h
  | cons e es =>
    have hn : ∀ t, Instr.findNow (.struct t) (enP k) (e :: es) 0 = none := fun t => by
      cases M with
      | nil => simp [entP] at h
      | cons m M =>
        have hk : e.key = enP m.1 := by
          unfold entP at h
          simp at h
          exact h.1.1
        simp [Instr.findNow, Instr.sameNow]
    have ha := asking w k (e :: es) M 0 h
    simp [run_underlying Tryd.underlying80, hn, ha]
theorem checkP (w : World) (em : Bool) (k : Plc) : (Instr.checkKey em 10000 80 (enP k)).run Tryd.prog w = .ok () w := by
  obtain ⟨a, b⟩ := k
  kernel_rfl
theorem zero24 (w : World) : (zeroValue 24).run Tryd.prog w = .ok (.agg #[.string ⟨#[]⟩, .slice none 0 0]) w := by kernel_rfl
theorem getObjRun {w : World} {b : Nat} {es : Array MapEntry} {clock : Nat} (h : w.heap[b]? = some (.map es clock)) : (getObj b).run Tryd.prog w = .ok (.map es clock) w := by
  simp [getObj, Sem.run, h]
/-- a map of places: what stands at each, in the order in which they came -/
def MapP (b : Nat) (M : List (Plc × Value)) : HP := fun h => ∃ (es : Array MapEntry) (clock : Nat), h b = some (.map es clock) ∧ entP es.toList M
section
variable {w0 w : World} {L : List HP} {b : Nat} {M : List (Plc × Value)}
theorem Sat.plcNew (h : Sat w0 w L) : Sat w0 (w.alloc (.map #[] 0)) (MapP w.heap.size [] :: L) :=
  (h.alloc (.map #[] 0)).imp fun h hb => ⟨#[], 0, hb, rfl⟩
theorem Sat.plcAt (h : Sat w0 w (MapP b M :: L)) : ∃ (es : Array MapEntry) (clock : Nat), w.heap[b]? = some (.map es clock) ∧ entP es.toList M := by
  obtain ⟨h1, _, l1, _, _, ⟨es, clock, hb, he⟩, _⟩ := h.own
  exact ⟨es, clock, l1 _ _ hb, he⟩
def valP (M : List (Plc × Value)) (k : Plc) : Value := match findP k M 0 with | some (_, v) => v | none => .agg #[.string ⟨#[]⟩, .slice none 0 0]
theorem Sat.plcLook (h : Sat w0 w (MapP b M :: L)) (k : Plc) (ok : Bool) :
    (Instr.lookup 76 (.map (some b)) (enP k) ok).run Tryd.prog w = .ok (if ok then .tuple #[valP M k, .bool (findP k M 0).isSome] else valP M k) w := by
  obtain ⟨es, clock, hb, he⟩ := h.plcAt
  unfold Instr.lookup valP
  have hg : (getObj b).run Tryd.prog w = .ok (.map es clock) w := getObjRun hb
  have hk := findKeyP w k es.toList M he
  simp only [Sem.run_bind, run_underlying Tryd.underlying76, Result.andThen_ok, hg, checkP]
  cases hf : findP k M 0 with
  | none => rw [hf] at hk; cases ok <;> simp [hk, zero24]
  | some x => rw [hf] at hk; cases ok <;> simp [hk]
theorem Sat.plcPut (h : Sat w0 w (MapP b M :: L)) {k : Plc} (hk : findP k M 0 = none) (v : Value) :
    ∃ w', (Instr.mapUpdate 76 (.map (some b)) (enP k) v).run Tryd.prog w = .ok () w' ∧ Sat w0 w' (MapP b (M ++ [(k, v)]) :: L) := by
  obtain ⟨h1, h2, l1, l2, dd, ⟨es, clock, hb1, he⟩, s⟩ := h.own
  have hb := l1 _ _ hb1
  have hfk := findKeyP w k es.toList M he
  rw [hk] at hfk
  have hb' : w.heap[b]? = some (.map es clock) := hb
  have hlt := (Array.getElem?_eq_some_iff.1 hb').1
  have hset : (setObj b (.map (es.push { key := enP k, val := v, born := clock }) (clock + 1))).run Tryd.prog w = .ok () { w with heap := w.heap.setIfInBounds b (.map (es.push { key := enP k, val := v, born := clock }) (clock + 1)) } := by
    simp [setObj, Sem.run, hb']
  have hup : Sat w0 { w with heap := w.heap.setIfInBounds b (.map (es.push { key := enP k, val := v, born := clock }) (clock + 1)) } (BlkO b (.map (es.push { key := enP k, val := v, born := clock }) (clock + 1)) :: L) :=
    Sat.update (w := w) (o := .map es clock) ⟨h.os, h.tape, h.output, h.size, h1, h2, l1, l2, dd, hb1, s⟩ rfl rfl rfl (by simp) (by simp [Array.getElem?_setIfInBounds, hlt]) (fun j hj hne => by simp [Array.getElem?_setIfInBounds, Ne.symm hne])
  refine ⟨_, ?_, hup.imp fun hh hx => ⟨_, _, hx, ?_⟩⟩
  · unfold Instr.mapUpdate
    simp only [Sem.run_bind, run_underlying Tryd.underlying76, Result.andThen_ok, getObjRun hb', checkP, hfk]
    exact hset
  · unfold entP at he ⊢
    rw [Array.toList_push, List.map_append, List.map_append, he]
    rfl
end
end Go.Proofs.YtpmoanjeoaeabaaDoor
