/- How arrays of four ints, and costs, are held against each other; an element of an array. -/
import Derived.Test.YtpmoanjeoaeabaaDoorDO
set_option linter.unusedVariables false
set_option linter.unusedSimpArgs false
set_option linter.unnecessarySimpa false
set_option maxRecDepth 100000
namespace Go.Proofs.YtpmoanjeoaeabaaDoor
open Go.RowKit Go.ChangeShapes Go.WideShapes Go.ChangeAt
theorem part0 (a b c d : Value) (w : World) : (part 3 #[a, b, c, d] 0).run Tryd.prog w = .ok a w := by kernel_rfl
theorem part1 (a b c d : Value) (w : World) : (part 3 #[a, b, c, d] 1).run Tryd.prog w = .ok b w := by kernel_rfl
theorem part2 (a b c d : Value) (w : World) : (part 3 #[a, b, c, d] 2).run Tryd.prog w = .ok c w := by kernel_rfl
theorem part3 (a b c d : Value) (w : World) : (part 3 #[a, b, c, d] 3).run Tryd.prog w = .ok d w := by kernel_rfl
theorem eqArr (w : World) (d : Nat) (a0 a1 a2 a3 b0 b1 b2 b3 : Int) :
    (Op.equalIn (d + 2) 38 (.agg #[.int .i64 a0, .int .i64 a1, .int .i64 a2, .int .i64 a3]) (.agg #[.int .i64 b0, .int .i64 b1, .int .i64 b2, .int .i64 b3])).run Tryd.prog w = .ok ((a0 == b0) && ((a1 == b1) && ((a2 == b2) && (a3 == b3)))) w := by
  rw [Op.equalIn]
  simp [run_underlying Tryd.underlying38]
  rw [show List.range' 0 4 = [0, 1, 2, 3] from rfl]
  have e : ∀ (w : World) (a b : Int), (Op.equalIn (d + 1) 3 (.int .i64 a) (.int .i64 b)).run Tryd.prog w = .ok (a == b) w := fun w a b => run_equalIn_int w d 3 .i64 .i64 a b Tryd.underlying3
  by_cases h0 : a0 = b0
  · by_cases h1 : a1 = b1
    · by_cases h2 : a2 = b2
      · by_cases h3 : a3 = b3
        · simp [part0, part1, part2, part3, e, h0, h1, h2, h3]
        · simp [part0, part1, part2, part3, e, h0, h1, h2, h3]
      · simp [part0, part1, part2, part3, e, h0, h1, h2]
    · simp [part0, part1, part2, part3, e, h0, h1]
  · simp [part0, part1, part2, part3, e, h0]
theorem eqArr9 (w : World) (a0 a1 a2 a3 b0 b1 b2 b3 : Int) :
    (Op.equalIn 9999 38 (.agg #[.int .i64 a0, .int .i64 a1, .int .i64 a2, .int .i64 a3]) (.agg #[.int .i64 b0, .int .i64 b1, .int .i64 b2, .int .i64 b3])).run Tryd.prog w = .ok ((a0 == b0) && ((a1 == b1) && ((a2 == b2) && (a3 == b3)))) w := eqArr w 9997 a0 a1 a2 a3 b0 b1 b2 b3
theorem eqArr10 (w : World) (a0 a1 a2 a3 b0 b1 b2 b3 : Int) :
    (Op.equalIn 10000 38 (.agg #[.int .i64 a0, .int .i64 a1, .int .i64 a2, .int .i64 a3]) (.agg #[.int .i64 b0, .int .i64 b1, .int .i64 b2, .int .i64 b3])).run Tryd.prog w = .ok ((a0 == b0) && ((a1 == b1) && ((a2 == b2) && (a3 == b3)))) w := eqArr w 9998 a0 a1 a2 a3 b0 b1 b2 b3
theorem fld0 (o a b c d : Value) (w : World) : (part 3 #[o, a, b, c, d] 0).run Tryd.prog w = .ok o w := by kernel_rfl
theorem fld1 (o a b c d : Value) (w : World) : (part 38 #[o, a, b, c, d] 1).run Tryd.prog w = .ok (.agg #[a, b, c, d]) w := by kernel_rfl
theorem eqCost (w : World) (d : Nat) (o a0 a1 a2 a3 p b0 b1 b2 b3 : Int) :
    (Op.equalIn (d + 3) 40 (.agg #[.int .i64 o, .int .i64 a0, .int .i64 a1, .int .i64 a2, .int .i64 a3]) (.agg #[.int .i64 p, .int .i64 b0, .int .i64 b1, .int .i64 b2, .int .i64 b3])).run Tryd.prog w =
      .ok ((o == p) && ((a0 == b0) && ((a1 == b1) && ((a2 == b2) && (a3 == b3))))) w := by
  rw [Op.equalIn]
  simp [run_underlying Tryd.underlying40]
  have e : (Op.equalIn (d + 2) 3 (.int .i64 o) (.int .i64 p)).run Tryd.prog w = .ok (o == p) w := run_equalIn_int w (d + 1) 3 .i64 .i64 o p Tryd.underlying3
  have e2 := eqArr w d a0 a1 a2 a3 b0 b1 b2 b3
  by_cases h0 : o = p
  · subst h0
    rw [show (o == o) = true from beq_self_eq_true o] at e ⊢
    cases hz : (a0 == b0 && (a1 == b1 && (a2 == b2 && a3 == b3))) <;> (rw [hz] at e2; simp [fld0, fld1, e, e2])
  · simp [fld0, fld1, e, e2, h0]
theorem eqCost9 (w : World) (o a0 a1 a2 a3 p b0 b1 b2 b3 : Int) :
    (Op.equalIn 9999 40 (.agg #[.int .i64 o, .int .i64 a0, .int .i64 a1, .int .i64 a2, .int .i64 a3]) (.agg #[.int .i64 p, .int .i64 b0, .int .i64 b1, .int .i64 b2, .int .i64 b3])).run Tryd.prog w =
      .ok ((o == p) && ((a0 == b0) && ((a1 == b1) && ((a2 == b2) && (a3 == b3))))) w := eqCost w 9996 o a0 a1 a2 a3 p b0 b1 b2 b3
theorem eqCost10 (w : World) (o a0 a1 a2 a3 p b0 b1 b2 b3 : Int) :
    (Op.equalIn 10000 40 (.agg #[.int .i64 o, .int .i64 a0, .int .i64 a1, .int .i64 a2, .int .i64 a3]) (.agg #[.int .i64 p, .int .i64 b0, .int .i64 b1, .int .i64 b2, .int .i64 b3])).run Tryd.prog w =
      .ok ((o == p) && ((a0 == b0) && ((a1 == b1) && ((a2 == b2) && (a3 == b3))))) w := eqCost w 9997 o a0 a1 a2 a3 p b0 b1 b2 b3
theorem wpList_index38 {ops : Array Oper} {rest : List Oper} {o : Oper} {a : Act} {w : World} {Q : Exit → Act → World → Prop} (hgd : o.guard = none) (x i : Operand)
    (ho : o.op = .index 38 x i) (cs : Array Value) (hx : a.eval x = .agg cs) (k : Nat) (v : Value) (hv : cs[k]? = some v) (h1 : v.oneCell' = true) (hi : a.eval i = .int .i64 (k : Int)) (hk : k < 4)
    (h : wpList Tryd.prog ops Q rest (a.put o.dst v) w) : wpList Tryd.prog ops Q (o :: rest) a w := by
  refine wpList_plain hgd fun K hK => ?_
  have hu : Tryd.prog.underlying 38 = some (.array 4 3) := Tryd.underlying38
  obtain ⟨ti, hti, hs⟩ : ∃ ti, Tryd.prog.info? 3 = some ti ∧ ti.size = 1 := ⟨_, rfl, by kernel_rfl⟩
  have hlt : k < cs.size := (Array.getElem?_eq_some_iff.1 hv).1
  have hpt : (part 3 cs k).run Tryd.prog w = .ok v w := by
    obtain ⟨_, hb⟩ := Array.getElem?_eq_some_iff.1 hv
    have ha : (isAgg 3).run Tryd.prog w = .ok false w := by kernel_rfl
    unfold part
    simp [ha, hv]
  have hr : (Instr.index 38 (.agg cs) (.int .i64 k)).run Tryd.prog w = .ok v w := by
    unfold Instr.index
    simp [run_underlying hu, sizeOf, typeInfo, hti, hs, asIntOf, hk, hpt]
  unfold Oper.wp execOp
  simp only [ho, resolve, Sem.run_bind, Sem.run_pure, Result.andThen_ok, hx, hi, hr]
  exact hK _ _ h
end Go.Proofs.YtpmoanjeoaeabaaDoor
