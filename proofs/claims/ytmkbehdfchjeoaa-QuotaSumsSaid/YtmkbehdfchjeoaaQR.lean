/- The reading of the arguments of the laws of package quota. -/
import Derived.Test.YtmkbehdfchjeoaaDat
import Derived.Test.YtmkbehdfchjeoaaQT
set_option linter.unusedVariables false
set_option linter.unusedSimpArgs false
set_option linter.unnecessarySimpa false
namespace Go.Proofs.Ytmkbehdfchjeoaa
open Go.RowKit Go.ChangeShapes Go.WideShapes Go.ChangeAt
theorem agg_of {v x y : Value} {l : List Value} (h : v.cells.toList = x :: y :: l) : v = .agg (x :: y :: l).toArray := by
  cases v <;> simp [Value.cells] at h
  rename_i cs
  obtain ⟨cs⟩ := cs
  simp at h
  rw [h]
theorem open34 {H : Type} {enc : TypeId × Value → H} {W : World} {base : Nat} {spare : Nat → Bool} {held : Bool} {v : Value} {d : DataW H} {ps : List MemPlace} (h : DataW.Trod enc Try.prog W base spare held 34 v d ps) :
    ∃ a b c e : Int, v = .agg #[.int .i64 a, .int .i64 b, .int .i64 c, .int .i64 e] := by
  obtain ⟨fuel, hf⟩ := h
  obtain ⟨a, b, c, e, h, _⟩ := ints4 Try.underlying34 Try.underlying3 (by kernel_rfl) (by kernel_rfl) hf
  exact ⟨a, b, c, e, agg_of h⟩
/-- a call of a script -/
structure QOp where
  op : Int
  c : CS
def QOp.vs (o : QOp) : List Value := [.int .i64 o.op, .int .i64 o.c.orch, .int .i64 o.c.p0, .int .i64 o.c.p1, .int .i64 o.c.p2, .int .i64 o.c.p3]
def wf64 (n : Int) : Prop := -9223372036854775808 ≤ n ∧ n ≤ 9223372036854775807
def CS.wf (c : CS) : Prop := wf64 c.orch ∧ wf64 c.p0 ∧ wf64 c.p1 ∧ wf64 c.p2 ∧ wf64 c.p3
theorem wf64_of {a : Int} (h : (Lit.int .i64 a).wf = true) : wf64 a := i64_of h
theorem read50 {H : Type} {enc : TypeId × Value → H} {W : World} {base fuel : Nat} {spare : Nat → Bool} {held : Bool} {cs : List Value} {x : DataW H × List MemPlace}
    (h : DataW.trod enc Try.prog W base spare held fuel 50 cs = some x) : ∃ o : QOp, cs = o.vs ∧ o.c.wf := by
  obtain ⟨xs, n, rfl, hx, hlen, hn, hel⟩ := DataW.trod_struct Try.underlying50 h
  rw [show Try.prog.cellsOf 50 = 6 by kernel_rfl] at hlen
  match cs, hlen with
  | [c0, c1, c2, c3, c4, c5], _ =>
    have h0 := hel 0 _ rfl
    have h1 := hel 1 _ rfl
    match xs, hn with
    | [x0, x1], _ =>
      obtain ⟨k0, e0, _, _⟩ := DataW.trod_int Try.underlying3 (x := x0) h0
      obtain ⟨ys, m, _, hy, hyl, hyn, hye⟩ := DataW.trod_struct Try.underlying42 (x := x1) h1
      have g0 := hye 0 _ rfl
      have g1 := hye 1 _ rfl
      match ys, hyn with
      | [y0, y1], _ =>
        obtain ⟨k1, e1, _, w1⟩ := DataW.trod_int Try.underlying3 (x := y0) g0
        obtain ⟨a, b, c, d, e2, w2, w3, w4, w5, _⟩ := ints4 Try.underlying34 Try.underlying3 (by kernel_rfl) (by kernel_rfl) (x := y1) g1
        refine ⟨⟨k0, ⟨k1, a, b, c, d⟩⟩, ?_, wf64_of w1, wf64_of w2, wf64_of w3, wf64_of w4, wf64_of w5⟩
        have q0 : Try.prog.cellsOf 3 = 1 := by kernel_rfl
        have q1 : Try.prog.cellsOf 42 = 5 := by kernel_rfl
        have q2 : Try.prog.cellsOf 34 = 4 := by kernel_rfl
        simp [q0, q1, q2] at e0 e1 e2
        simp [QOp.vs, e0, e1, e2]
end Go.Proofs.Ytmkbehdfchjeoaa
