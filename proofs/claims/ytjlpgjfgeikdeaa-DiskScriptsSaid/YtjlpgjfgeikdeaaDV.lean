/- The reading of one call of a script. -/
import Derived.Test.YtjlpgjfgeikdeaaDU
set_option linter.unusedVariables false
set_option linter.unusedSimpArgs false
set_option linter.unnecessarySimpa false
namespace Go.Proofs.Ytjlpgjfgeikdeaa
open Go.RowKit Go.ChangeShapes Go.WideShapes Go.ChangeAt
theorem agg_of {v x y : Value} {l : List Value} (h : v.cells.toList = x :: y :: l) : v = .agg (x :: y :: l).toArray := by
  cases v <;> simp [Value.cells] at h
  rename_i cs
  obtain ⟨cs⟩ := cs
  simp at h
  rw [h]
theorem open48 {H : Type} {enc : TypeId × Value → H} {W : World} {base : Nat} {spare : Nat → Bool} {held : Bool} {v : Value} {d : DataW H} {ps : List MemPlace} (h : DataW.Trod enc Try.prog W base spare held 48 v d ps) :
    ∃ (k0 k1 k2 k3 : Int) (s : ByteArray), v = .agg #[.int .i64 k0, .int .i64 k1, .int .i64 k2, .int .i64 k3, .string s] ∧ wf64 k2 ∧ wf64 k3 ∧ s.size ≤ 9223372036854775807 := by
  obtain ⟨fuel, hf⟩ := h
  obtain ⟨xs, n, rfl, hx, hlen, hn, hel⟩ := DataW.trod_struct Try.underlying48 hf
  rw [show Try.prog.cellsOf 48 = 5 by kernel_rfl] at hlen
  generalize hcs : v.cells.toList = cs at hlen hel
  match cs, hlen with
  | [c0, c1, c2, c3, c4], _ =>
    have h0 := hel 0 _ rfl
    have h1 := hel 1 _ rfl
    have h2 := hel 2 _ rfl
    have h3 := hel 3 _ rfl
    have h4 := hel 4 _ rfl
    match xs, hn with
    | [x0, x1, x2, x3, x4], _ =>
      obtain ⟨k0, e0, _, w0⟩ := DataW.trod_int Try.underlying3 (x := x0) h0
      obtain ⟨k1, e1, _, w1⟩ := DataW.trod_int Try.underlying3 (x := x1) h1
      obtain ⟨k2, e2, _, w2⟩ := DataW.trod_int Try.underlying3 (x := x2) h2
      obtain ⟨k3, e3, _, w3⟩ := DataW.trod_int Try.underlying3 (x := x3) h3
      obtain ⟨k4, e4, _, w4⟩ := DataW.trod_string Try.underlying9 (x := x4) h4
      have q0 : Try.prog.cellsOf 3 = 1 := by kernel_rfl
      have q1 : Try.prog.cellsOf 9 = 1 := by kernel_rfl
      simp [q0, q1] at e0 e1 e2 e3 e4
      subst e0 e1 e2 e3 e4
      exact ⟨k0, k1, k2, k3, k4, agg_of hcs, i64_of w2, i64_of w3, w4⟩
end Go.Proofs.Ytjlpgjfgeikdeaa
