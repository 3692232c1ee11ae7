/- The reading of a script of calls of a disk. -/
import Derived.Test.YtjlpgjfgeikdeaaDQ
import Derived.SizedLaws
set_option linter.unusedVariables false
set_option linter.unusedSimpArgs false
set_option linter.unnecessarySimpa false
namespace Go.Proofs.Ytjlpgjfgeikdeaa
open Go.RowKit Go.ChangeShapes Go.WideShapes Go.ChangeAt
theorem map_of {α : Type} {vs : α → List Value} {q : α → Prop} (L : List (List Value)) (h : ∀ i, i < L.length → ∃ o : α, L.getD i [] = vs o ∧ q o) : ∃ M : List α, L = M.map vs ∧ ∀ o ∈ M, q o := by
  have : ∀ L : List (List Value), (∀ x ∈ L, ∃ o : α, x = vs o ∧ q o) → ∃ M : List α, L = M.map vs ∧ ∀ o ∈ M, q o := by
    intro L
    induction L with
    | nil => intro _; exact ⟨[], rfl, by simp⟩
    | cons x l ih =>
      intro hx
      obtain ⟨o, rfl, ho⟩ := hx x (by simp)
      obtain ⟨M, rfl, hM⟩ := ih fun y hy => hx y (by simp [hy])
      refine ⟨o :: M, rfl, fun p hp => ?_⟩
      rcases List.mem_cons.1 hp with rfl | hp
      · exact ho
      · exact hM p hp
  refine this L fun x hx => ?_
  obtain ⟨i, hi, rfl⟩ := List.getElem_of_mem hx
  obtain ⟨o, e, ho⟩ := h i hi
  exact ⟨o, by rw [← e, ← List.getElem_eq_getD (h := hi)], ho⟩
theorem read48 {H : Type} {enc : TypeId × Value → H} {W : World} {base fuel : Nat} {spare : Nat → Bool} {held : Bool} {cs : List Value} {x : DataW H × List MemPlace}
    (h : DataW.trod enc Try.prog W base spare held fuel 48 cs = some x) : ∃ o : DOp, cs = o.vs ∧ o.wf := by
  obtain ⟨xs, n, rfl, hx, hlen, hn, hel⟩ := DataW.trod_struct Try.underlying48 h
  rw [show Try.prog.cellsOf 48 = 5 by kernel_rfl] at hlen
  match cs, hlen with
  | [c0, c1, c2, c3, c4], _ =>
    have h0 := hel 0 _ rfl
    have h1 := hel 1 _ rfl
    have h2 := hel 2 _ rfl
    have h3 := hel 3 _ rfl
    have h4 := hel 4 _ rfl
    match xs, hn with
    | [x0, x1, x2, x3, x4], _ =>
      obtain ⟨k0, e0, _, w0⟩ := DataW.trod_int Try.underlying3 (x := x0) h0
      obtain ⟨k1, e1, _, w1⟩ := DataW.trod_int Try.underlying3 (x := x1) h1
      obtain ⟨k2, e2, _, w2⟩ := DataW.trod_int Try.underlying3 (x := x2) h2
      obtain ⟨k3, e3, _, w3⟩ := DataW.trod_int Try.underlying3 (x := x3) h3
      obtain ⟨k4, e4, _, w4⟩ := DataW.trod_string Try.underlying9 (x := x4) h4
      refine ⟨⟨k0, k1, k2, k3, k4⟩, ?_, i64_of w1, i64_of w3, w4⟩
      have q0 : Try.prog.cellsOf 3 = 1 := by kernel_rfl
      have q1 : Try.prog.cellsOf 9 = 1 := by kernel_rfl
      simp [q0, q1] at e0 e1 e2 e3 e4
      simp [DOp.vs, e0, e1, e2, e3, e4]
theorem open34 {H : Type} {enc : TypeId × Value → H} {W : World} {base : Nat} {spare : Nat → Bool} {held : Bool} {A : Option Addr} {n c : Nat} {d : DataW H} {ps : List MemPlace} (h : DataW.Trod enc Try.prog W base spare held 34 (.slice A n c) d ps) :
    ∃ l : List DOp, OpsAt W A n c l ∧ (n = 0 ∨ ∃ ys rs, d = .slice ys rs ∧ ys.length = n) := by
  obtain ⟨L, ys, rs, hE, hy, hd, hL⟩ := elems_of Try.underlying34 (show Try.prog.cellsOf 48 = 5 by kernel_rfl) (by decide) h
  obtain ⟨M, rfl, hM⟩ := map_of L (vs := DOp.vs) (q := DOp.wf) (fun i hi => by
    obtain ⟨f, p, hr⟩ := hL i hi
    exact read48 hr)
  have hn := hE.at_.1
  refine ⟨M, ⟨hE, hM⟩, ?_⟩
  rcases hd with ⟨e, _⟩ | e
  · left; rw [hn, e]; rfl
  · right; exact ⟨ys, rs, e, by rw [hy, hn]⟩
section
variable {P : Program} {H : Type} {ts : List TypeId} {ds : List (DataW H)}
theorem sized_of (h : (DataW.weightsEach P ts ds).all (· ≤ reachBytes) = true) {j : Nat} {t e : TypeId} {d : DataW H} {n b : Nat} (ht : ts[j]? = some t) (hd : ds[j]? = some d) (hu : P.underlying t = some (.slice e))
    (hb : P.bytesOf e = b) (he : n = 0 ∨ ∃ ys rs, d = .slice ys rs ∧ ys.length = n) : n * b ≤ 140737488351232 := by
  rcases he with rfl | ⟨ys, rs, rfl, rfl⟩
  · simp
  · have h1 := sized_slice h ht hd hu
    rw [hb] at h1
    have h2 : ys.length * b ≤ (ys.length + rs.length) * b := Nat.mul_le_mul_right _ (by omega)
    have h3 : reachBytes = 140737488351232 := by decide
    omega
end
end Go.Proofs.Ytjlpgjfgeikdeaa
