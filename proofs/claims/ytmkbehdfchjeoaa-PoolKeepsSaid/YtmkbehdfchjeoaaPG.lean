/- The reading of a script of calls of a pool. -/
import Derived.Test.YtmkbehdfchjeoaaDat
import Derived.SizedLaws
namespace Go.Proofs.Ytmkbehdfchjeoaa
open Go.RowKit Go.ChangeShapes Go.WideShapes Go.ChangeAt
/-- a call of a script -/
structure POp where
  d : Int
  n : Int
  s : ByteArray
def POp.vs (o : POp) : List Value := [.int .i64 o.d, .int .i64 o.n, .string o.s]
theorem map_of {α : Type} {vs : α → List Value} (L : List (List Value)) (h : ∀ i, i < L.length → ∃ o : α, L.getD i [] = vs o) : ∃ M : List α, L = M.map vs := by
  have : ∀ L : List (List Value), (∀ x ∈ L, ∃ o : α, x = vs o) → ∃ M : List α, L = M.map vs := by
    intro L
    induction L with
    | nil => intro _; exact ⟨[], rfl⟩
    | cons x l ih =>
      intro hx
      obtain ⟨o, rfl⟩ := hx x (by simp)
      obtain ⟨M, rfl⟩ := ih fun y hy => hx y (by simp [hy])
      exact ⟨o :: M, rfl⟩
  refine this L fun x hx => ?_
  obtain ⟨i, hi, rfl⟩ := List.getElem_of_mem hx
  obtain ⟨o, e⟩ := h i hi
  exact ⟨o, by rw [← e, ← List.getElem_eq_getD (h := hi)]⟩
theorem read62 {H : Type} {enc : TypeId × Value → H} {W : World} {base fuel : Nat} {spare : Nat → Bool} {held : Bool} {cs : List Value} {x : DataW H × List MemPlace}
    (h : DataW.trod enc Try.prog W base spare held fuel 62 cs = some x) : ∃ o : POp, cs = o.vs := by
  obtain ⟨xs, n, rfl, hx, hlen, hn, hel⟩ := DataW.trod_struct Try.underlying62 h
  rw [show Try.prog.cellsOf 62 = 3 by kernel_rfl] at hlen
  match cs, hlen with
  | [c0, c1, c2], _ =>
    have h0 := hel 0 _ rfl
    have h1 := hel 1 _ rfl
    have h2 := hel 2 _ rfl
    match xs, hn with
    | [x0, x1, x2], _ =>
      obtain ⟨k0, e0, _, _⟩ := DataW.trod_int Try.underlying3 (x := x0) h0
      obtain ⟨k1, e1, _, _⟩ := DataW.trod_int Try.underlying3 (x := x1) h1
      obtain ⟨k2, e2, _⟩ := DataW.trod_string Try.underlying9 (x := x2) h2
      refine ⟨⟨k0, k1, k2⟩, ?_⟩
      have q0 : Try.prog.cellsOf 3 = 1 := by kernel_rfl
      have q1 : Try.prog.cellsOf 9 = 1 := by kernel_rfl
      simp [q0, q1] at e0 e1 e2
      simp [POp.vs, e0, e1, e2]
theorem open59 {H : Type} {enc : TypeId × Value → H} {W : World} {base : Nat} {spare : Nat → Bool} {held : Bool} {A : Option Addr} {n c : Nat} {d : DataW H} {ps : List MemPlace} (h : DataW.Trod enc Try.prog W base spare held 59 (.slice A n c) d ps) :
    ∃ M : List POp, Elems W (.slice A n c) 3 (M.map POp.vs) ∧ (n = 0 ∨ ∃ ys rs, d = .slice ys rs ∧ ys.length = n) := by
  obtain ⟨L, ys, rs, hE, hy, hd, hL⟩ := elems_of Try.underlying59 (show Try.prog.cellsOf 62 = 3 by kernel_rfl) (by decide) h
  obtain ⟨M, rfl⟩ := map_of L (vs := POp.vs) (fun i hi => by
    obtain ⟨f, p, hr⟩ := hL i hi
    exact read62 hr)
  have hn := hE.at_.1
  refine ⟨M, hE, ?_⟩
  rcases hd with ⟨e, _⟩ | e
  · left; rw [hn, e]; rfl
  · right; exact ⟨ys, rs, e, by rw [hy, hn]⟩
section
variable {P : Program} {H : Type} {ts : List TypeId} {ds : List (DataW H)}
theorem sized_of (h : (DataW.weightsEach P ts ds).all (· ≤ reachBytes) = true) {j : Nat} {t e : TypeId} {d : DataW H} {n b : Nat} (ht : ts[j]? = some t) (hd : ds[j]? = some d) (hu : P.underlying t = some (.slice e))
    (hb : P.bytesOf e = b) (he : n = 0 ∨ ∃ ys rs, d = .slice ys rs ∧ ys.length = n) : n * b ≤ 140737488351232 := by
  rcases he with rfl | ⟨ys, rs, rfl, rfl⟩
  · simp
  · have h1 := sized_slice h ht hd hu
    rw [hb] at h1
    have h2 : ys.length * b ≤ (ys.length + rs.length) * b := Nat.mul_le_mul_right _ (by omega)
    have h3 : reachBytes = 140737488351232 := by decide
    omega
end
end Go.Proofs.Ytmkbehdfchjeoaa
