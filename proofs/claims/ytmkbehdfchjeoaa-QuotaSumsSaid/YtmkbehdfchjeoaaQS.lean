/- The reading of the case of a script of package quota. -/
import Derived.Test.YtmkbehdfchjeoaaQR
set_option linter.unusedVariables false
set_option linter.unusedSimpArgs false
set_option linter.unnecessarySimpa false
namespace Go.Proofs.Ytmkbehdfchjeoaa
open Go.RowKit Go.ChangeShapes Go.WideShapes Go.ChangeAt
theorem ops_of (L : List (List Value)) (h : ∀ i, i < L.length → ∃ o : QOp, L.getD i [] = o.vs) : ∃ M : List QOp, L = M.map QOp.vs := by
  have : ∀ L : List (List Value), (∀ x ∈ L, ∃ o : QOp, x = o.vs) → ∃ M : List QOp, L = M.map QOp.vs := by
    intro L
    induction L with
    | nil => intro _; exact ⟨[], rfl⟩
    | cons x l ih =>
      intro hx
      obtain ⟨o, rfl⟩ := hx x (by simp)
      obtain ⟨M, rfl⟩ := ih fun y hy => hx y (by simp [hy])
      exact ⟨o :: M, rfl⟩
  refine this L fun x hx => ?_
  obtain ⟨i, hi, rfl⟩ := List.getElem_of_mem hx
  obtain ⟨o, e⟩ := h i hi
  exact ⟨o, by rw [← e, ← List.getElem_eq_getD (h := hi)]⟩
theorem open48 {H : Type} {enc : TypeId × Value → H} {W : World} {base : Nat} {spare : Nat → Bool} {held : Bool} {v : Value} {d : DataW H} {ps : List MemPlace} (h : DataW.Trod enc Try.prog W base spare held 48 v d ps) :
    ∃ (l o p0 p1 p2 p3 : Int) (A : Option Addr) (n c : Nat) (M : List QOp), v = .agg #[.int .i64 l, .int .i64 o, .int .i64 p0, .int .i64 p1, .int .i64 p2, .int .i64 p3, .slice A n c] ∧ Elems W (.slice A n c) 6 (M.map QOp.vs) := by
  obtain ⟨fuel, hf⟩ := h
  obtain ⟨xs, n, rfl, hx, hlen, hn, hel⟩ := DataW.trod_struct Try.underlying48 hf
  rw [show Try.prog.cellsOf 48 = 7 by kernel_rfl] at hlen
  generalize hcs : v.cells.toList = cs at hlen hel
  match cs, hlen with
  | [c0, c1, c2, c3, c4, c5, c6], _ =>
    have h0 := hel 0 _ rfl
    have h1 := hel 1 _ rfl
    have h2 := hel 2 _ rfl
    have h3 := hel 3 _ rfl
    match xs, hn with
    | [x0, x1, x2, x3], _ =>
      obtain ⟨k0, e0, _, _⟩ := DataW.trod_int Try.underlying3 (x := x0) h0
      obtain ⟨k1, e1, _, _⟩ := DataW.trod_int Try.underlying3 (x := x1) h1
      obtain ⟨a, b, c, d, e2, _⟩ := ints4 Try.underlying34 Try.underlying3 (by kernel_rfl) (by kernel_rfl) (x := x2) h2
      have q0 : Try.prog.cellsOf 3 = 1 := by kernel_rfl
      have q2 : Try.prog.cellsOf 34 = 4 := by kernel_rfl
      have q3 : Try.prog.cellsOf 47 = 7 := by kernel_rfl
      have h3' : ∃ t, DataW.trod enc Try.prog W base spare held n t [c6] = some x3 ∧ Try.prog.underlying t = some (.slice 50) := by
        have hq : DataW.trod enc Try.prog W base spare held n 46 (([c0, c1, c2, c3, c4, c5, c6].drop 6).take (Try.prog.cellsOf 46)) = some x3 := h3
        rw [show Try.prog.cellsOf 46 = 1 by kernel_rfl] at hq
        exact ⟨46, hq, Try.underlying46⟩
      obtain ⟨t, h4, ht⟩ := h3'
      have hsl : ∃ A n c, c6 = .slice A n c := by
        rcases DataW.trod_slice ht h4 with ⟨h, _⟩ | ⟨x, l, c, _, _, _, _, h, _⟩
        · injection h with h; exact ⟨_, _, _, h⟩
        · injection h with h; exact ⟨_, _, _, h⟩
      obtain ⟨A, m, cc, rfl⟩ := hsl
      have h5 : DataW.Trod enc Try.prog W base spare held t (.slice A m cc) x3.1 x3.2 := ⟨n, h4⟩
      obtain ⟨L, ys, rs, hE, _, _, hL⟩ := elems_of ht (show Try.prog.cellsOf 50 = 6 by kernel_rfl) (by decide) h5
      obtain ⟨M, rfl⟩ := ops_of L (fun i hi => by
        obtain ⟨f, p, hr⟩ := hL i hi
        obtain ⟨o, e, _⟩ := read50 hr
        exact ⟨o, e⟩)
      simp [q0, q2] at e0 e1 e2
      obtain ⟨rfl, rfl, rfl, rfl⟩ := e2
      subst e0 e1
      exact ⟨k0, k1, a, b, c, d, A, m, cc, M, agg_of hcs, hE⟩
end Go.Proofs.Ytmkbehdfchjeoaa
