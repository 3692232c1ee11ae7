/- Words on memory: a map of texts to numbers, told by a function. -/
import Derived.Test.YtpmoanjeoaeabaaDoorSL
import Derived.Maps.OwnOps
import Derived.Maps.Views
set_option linter.unusedVariables false
set_option linter.unusedSimpArgs false
set_option linter.unnecessarySimpa false
set_option maxRecDepth 100000
namespace Go.Proofs.YtpmoanjeoaeabaaDoor
open Go.RowKit Go.ChangeShapes Go.WideShapes Go.ChangeAt
open Go.Maps (Keyed)
open Go.ChangeMaps
theorem lawStr : Keyed Tryd.prog 9 := Go.Maps.string_keyed Tryd.underlying9
theorem zero3 (w : World) : (zeroValue 3).run Tryd.prog w = .ok (.int .i64 0) w := by kernel_rfl
/-- a map of at most n texts; f tells what stands at each -/
def MapC (b n : Nat) (f : ByteArray → Int) : HP := fun h =>
  ∃ (es : Array MapEntry) (clock : Nat), h b = some (.map es clock) ∧ ∃ D : DataW Unit, (∀ w : World, w.heap[b]? = some (.map es clock) → w.ownsMap Tryd.prog 9 (plainElem Tryd.prog 3) b n D) ∧
    (∀ s : ByteArray, s.size ≤ maxLen → D.atKey (.string s.data.toList) (.lit (.int .i64 0)) = .lit (.int .i64 (f s)))
section
variable {w0 w w' : World} {L : List HP} {b n : Nat} {f : ByteArray → Int}
theorem Sat.mapNew (h : Sat w0 w L) : Sat w0 (w.alloc (.map #[] 0)) (MapC w.heap.size 0 (fun _ => 0) :: L) := by
  refine (h.alloc (.map #[] 0)).imp fun h hb => ⟨#[], 0, hb, .map [], fun w1 hw1 => ?_, fun s _ => ?_⟩
  · obtain ⟨es, clock, e1, e2, e3, e4⟩ := World.ownsMap_made (H := Unit) w Tryd.prog 9 (plainElem Tryd.prog 3)
    rw [heap_alloc_new] at e1
    cases e1
    exact ⟨#[], 0, hw1, e2, e3, e4⟩
  · exact WideAt.atKey_none _ (by simp)
theorem Sat.mapOwn (h : Sat w0 w (MapC b n f :: L)) : ∃ D : DataW Unit, w.ownsMap Tryd.prog 9 (plainElem Tryd.prog 3) b n D ∧ ∀ s : ByteArray, s.size ≤ maxLen → D.atKey (.string s.data.toList) (.lit (.int .i64 0)) = .lit (.int .i64 (f s)) := by
  obtain ⟨h1, _, l1, _, _, ⟨es, clock, hb, D, hD, hf⟩, _⟩ := h.own
  exact ⟨D, hD w (l1 _ _ hb), hf⟩
theorem Sat.mapLook (h : Sat w0 w (MapC b n f :: L)) {s : ByteArray} (hs : s.size ≤ maxLen) : (Instr.lookup 66 (.map (some b)) (.string s) false).run Tryd.prog w = .ok (.int .i64 (f s)) w := by
  obtain ⟨D, ho, hf⟩ := h.mapOwn
  obtain ⟨c, hr, hat, _⟩ := ho.lookup_int lawStr Tryd.underlying66 Tryd.underlying3 (zero3 _) (Go.WideMaps.keyOf_string_mk Tryd.underlying9 hs)
  rw [hf s hs] at hat
  rw [hr]
  injection hat with hat
  injection hat with _ hat
  rw [hat]
theorem Sat.mapPut (h : Sat w0 w (MapC b n f :: L)) {s : ByteArray} (hs : s.size ≤ maxLen) {v : Int} (hv : (Lit.int .i64 v).wf = true) (hn : n < maxLen) :
    ∃ w', (Instr.mapUpdate 66 (.map (some b)) (.string s) (.int .i64 v)).run Tryd.prog w = .ok () w' ∧ Sat w0 w' (MapC b (n + 1) (fun t => if t = s then v else f t) :: L) := by
  obtain ⟨D, ho, hf⟩ := h.mapOwn
  obtain ⟨w', hr, ho', hg⟩ := ho.update lawStr Tryd.underlying66 hn (Go.WideMaps.keyOf_string_mk Tryd.underlying9 hs) (plainElem_int Tryd.underlying3 hv)
  refine ⟨w', hr, ?_⟩
  have hm : Go.Maps.IsMap D := by
    obtain ⟨es, clock, _, F, _, rfl⟩ := ho
    first | exact ⟨_, rfl⟩ | trivial
  obtain ⟨es', clock', hb', F', hs', hD'⟩ := ho'
  obtain ⟨h1, h2, l1, l2, d, ⟨es, clock, hb, _⟩, s'⟩ := h.own
  have hup : Sat w0 w' (BlkO b (.map es' clock') :: L) :=
    Sat.update (w := w) (o := .map es clock) ⟨h.os, h.tape, h.output, h.size, h1, h2, l1, l2, d, hb, s'⟩ hg.os hg.tape hg.output hg.size hb' fun k hk hne => hg.block k hk (by simpa using hne)
  refine hup.imp fun h hb => ⟨es', clock', hb, _, fun w1 hw1 => ⟨es', clock', hw1, F', hs', hD'⟩, fun t ht => ?_⟩
  by_cases e : t = s
  · subst e
    show _ = DataW.lit (.int .i64 (if t = t then v else f t))
    rw [if_pos rfl]
    exact Go.Maps.atKey_put_same hm (by first | trivial | simp [WideAt.IsKeyLit]) _ _
  · show _ = DataW.lit (.int .i64 (if t = s then v else f t))
    rw [if_neg e, Go.Maps.atKey_put_other]
    · exact hf t ht
    · intro g
      injection g with g
      exact e (ByteArray.ext (Array.ext' g))
end
/-- a store into such a map, in a walk -/
theorem wpList_mapPut {w0 w : World} {L : List HP} {b n : Nat} {f : ByteArray → Int} {ops : Array Oper} {rest : List Oper} {o : Oper} {a : Act} {Q : Exit → Act → World → Prop}
    (hg : o.guard = none) (m x v : Operand) (hop : o.op = Op.mapUpdate 66 m x v) (hm : a.eval m = .map (some b)) (hS : Sat w0 w (MapC b n f :: L)) {s : ByteArray} {k : Int} (hx : a.eval x = .string s) (hv : a.eval v = .int .i64 k)
    (hs : s.size ≤ maxLen) (hk : (Lit.int .i64 k).wf = true) (hn : n < maxLen)
    (hK : ∀ w', Sat w0 w' (MapC b (n + 1) (fun t => if t = s then k else f t) :: L) → wpList Tryd.prog ops Q rest (a.put o.dst undef) w') :
    wpList Tryd.prog ops Q (o :: rest) a w := by
  refine wpList_plain hg fun K' hK' => ?_
  obtain ⟨w', hrun, r1⟩ := hS.mapPut hs hk hn
  unfold Oper.wp
  simp [execOp, hop, hm, hx, hv, hrun, Result.andThen]
  exact hK' _ _ (hK w' r1)
end Go.Proofs.YtpmoanjeoaeabaaDoor
