/- What the reading of a definition gives: its steps, their keys and needs. -/
import Derived.Test.YtpmoanjeoaeabaaDoorDat
set_option linter.unusedVariables false
set_option linter.unusedSimpArgs false
set_option linter.unnecessarySimpa false
set_option maxRecDepth 100000
namespace Go.Proofs.YtpmoanjeoaeabaaDoor
open Go.RowKit Go.ChangeShapes Go.WideShapes Go.ChangeAt
def wf64 (n : Int) : Prop := -9223372036854775808 ≤ n ∧ n ≤ 9223372036854775807
theorem wf64_of {n : Int} (h : (Lit.int .i64 n).wf = true) : wf64 n := by
  have hh := i64_of h
  unfold wf64
  exact ⟨hh.1, hh.2⟩
/-- a step, with the places of its keys and needs -/
structure St where
  name : ByteArray
  kind : Int
  part : Int
  keys : List ByteArray
  needs : List Int
  kA : Option Addr
  kc : Nat
  nA : Option Addr
  nc : Nat
def strC (b : ByteArray) : List Value := [.string b]
def intC (n : Int) : List Value := [.int .i64 n]
def St.vs (s : St) : List Value := [.string s.name, .int .i64 s.kind, .int .i64 s.part, .slice s.kA s.keys.length s.kc, .slice s.nA s.needs.length s.nc]
structure StAt (w : World) (s : St) : Prop where
  keys : Elems w (.slice s.kA s.keys.length s.kc) 1 (s.keys.map strC)
  needs : Elems w (.slice s.nA s.needs.length s.nc) 1 (s.needs.map intC)
  kind : wf64 s.kind
  part : wf64 s.part
  need : ∀ n ∈ s.needs, wf64 n
  name : s.name.size ≤ 9223372036854775807
  key : ∀ k ∈ s.keys, k.size ≤ 9223372036854775807
structure Df where
  name : ByteArray
  steps : List St
  A : Option Addr
  c : Nat
def Df.vs (d : Df) : List Value := [.string d.name, .slice d.A d.steps.length d.c]
def Df.v (d : Df) : Value := .agg #[.string d.name, .slice d.A d.steps.length d.c]
structure DefAt (w : World) (d : Df) : Prop where
  steps : Elems w (.slice d.A d.steps.length d.c) 5 (d.steps.map St.vs)
  each : ∀ s ∈ d.steps, StAt w s
  name : d.name.size ≤ 9223372036854775807
theorem StAt.keep {w w' : World} {s : St} (h : StAt w s) (hb : Below w.heap.size w w') : StAt w' s := ⟨h.keys.keep hb, h.needs.keep hb, h.kind, h.part, h.need, h.name, h.key⟩
theorem DefAt.keep {w w' : World} {d : Df} (h : DefAt w d) (hb : Below w.heap.size w w') : DefAt w' d := ⟨h.steps.keep hb, fun s hs => (h.each s hs).keep hb, h.name⟩
theorem map_of {α : Type} {vs : α → List Value} {q : α → Prop} (L : List (List Value)) (h : ∀ i, i < L.length → ∃ o : α, L.getD i [] = vs o ∧ q o) : ∃ M : List α, L = M.map vs ∧ ∀ o ∈ M, q o := by
  have : ∀ L : List (List Value), (∀ x ∈ L, ∃ o : α, x = vs o ∧ q o) → ∃ M : List α, L = M.map vs ∧ ∀ o ∈ M, q o := by
    intro L
    induction L with
    | nil => intro _; exact ⟨[], rfl, by simp⟩
    | cons x l ih =>
      intro hx
      obtain ⟨o, e, ho⟩ := hx x (by simp)
      obtain ⟨M, e2, hM⟩ := ih (fun y hy => hx y (by simp [hy]))
      refine ⟨o :: M, by rw [e, e2]; rfl, fun z hz => ?_⟩
      rcases List.mem_cons.1 hz with rfl | hz
      · exact ho
      · exact hM z hz
  refine this L fun x hx => ?_
  obtain ⟨i, hi, rfl⟩ := List.getElem_of_mem hx
  obtain ⟨o, e, ho⟩ := h i hi
  exact ⟨o, by rw [← e, ← List.getElem_eq_getD (h := hi)], ho⟩
section
variable {H : Type} {enc : TypeId × Value → H} {W : World} {base fuel : Nat} {spare : Nat → Bool} {held : Bool}
theorem slice_form {t e : TypeId} {v : Value} {x : DataW H × List MemPlace} (ht : Tryd.prog.underlying t = some (.slice e)) (h : DataW.trod enc Tryd.prog W base spare held fuel t [v] = some x) : ∃ A n c, v = .slice A n c := by
  rcases DataW.trod_slice ht h with ⟨h, _⟩ | ⟨x, l, c, _, _, _, _, h, _⟩
  · injection h with h; exact ⟨_, _, _, h⟩
  · injection h with h; exact ⟨_, _, _, h⟩
theorem trod_cells {t : TypeId} {v : Value} {x : DataW H × List MemPlace} (hv : v.cells.toList = [v]) (h : DataW.trod enc Tryd.prog W base spare held fuel t [v] = some x) : DataW.Trod enc Tryd.prog W base spare held t v x.1 x.2 := ⟨fuel, by rw [hv]; exact h⟩
theorem read32 {v : Value} {x : DataW H × List MemPlace} (h : DataW.trod enc Tryd.prog W base spare held fuel 32 [v] = some x) :
    ∃ (A : Option Addr) (c : Nat) (l : List ByteArray), v = .slice A l.length c ∧ Elems W (.slice A l.length c) 1 (l.map strC) ∧ ∀ k ∈ l, k.size ≤ 9223372036854775807 := by
  obtain ⟨A, n, c, rfl⟩ := slice_form Tryd.underlying32 h
  obtain ⟨L, ys, rs, hE, hy, hd, hL⟩ := elems_of Tryd.underlying32 (show Tryd.prog.cellsOf 9 = 1 by kernel_rfl) (by decide) (trod_cells rfl h)
  obtain ⟨M, rfl, hM⟩ := map_of L (vs := strC) (q := fun k => k.size ≤ 9223372036854775807) (fun i hi => by
    obtain ⟨f, p, hr⟩ := hL i hi
    obtain ⟨k0, e0, _, w0⟩ := DataW.trod_string Tryd.underlying9 hr
    exact ⟨k0, e0, w0⟩)
  have hn := hE.at_.1
  rw [List.length_map] at hn
  subst hn
  exact ⟨A, c, M, rfl, hE, hM⟩
theorem read33 {v : Value} {x : DataW H × List MemPlace} (h : DataW.trod enc Tryd.prog W base spare held fuel 33 [v] = some x) :
    ∃ (A : Option Addr) (c : Nat) (l : List Int), v = .slice A l.length c ∧ Elems W (.slice A l.length c) 1 (l.map intC) ∧ ∀ k ∈ l, wf64 k := by
  obtain ⟨A, n, c, rfl⟩ := slice_form Tryd.underlying33 h
  obtain ⟨L, ys, rs, hE, hy, hd, hL⟩ := elems_of Tryd.underlying33 (show Tryd.prog.cellsOf 3 = 1 by kernel_rfl) (by decide) (trod_cells rfl h)
  obtain ⟨M, rfl, hM⟩ := map_of L (vs := intC) (q := wf64) (fun i hi => by
    obtain ⟨f, p, hr⟩ := hL i hi
    obtain ⟨k0, e0, _, w0⟩ := DataW.trod_int Tryd.underlying3 hr
    exact ⟨k0, e0, wf64_of w0⟩)
  have hn := hE.at_.1
  rw [List.length_map] at hn
  subst hn
  exact ⟨A, c, M, rfl, hE, hM⟩
theorem read35 {cs : List Value} {x : DataW H × List MemPlace} (h : DataW.trod enc Tryd.prog W base spare held fuel 35 cs = some x) : ∃ s : St, cs = s.vs ∧ StAt W s := by
  obtain ⟨xs, n, rfl, hx, hlen, hn, hel⟩ := DataW.trod_struct Tryd.underlying35 h
  rw [show Tryd.prog.cellsOf 35 = 5 by kernel_rfl] at hlen
  have q3 : Tryd.prog.cellsOf 3 = 1 := by kernel_rfl
  have q9 : Tryd.prog.cellsOf 9 = 1 := by kernel_rfl
  have q32 : Tryd.prog.cellsOf 32 = 1 := by kernel_rfl
  have q33 : Tryd.prog.cellsOf 33 = 1 := by kernel_rfl
  match cs, hlen with
  | [c0, c1, c2, c3, c4], _ =>
    have h0 := hel 0 _ rfl
    have h1 := hel 1 _ rfl
    have h2 := hel 2 _ rfl
    have h3 := hel 3 _ rfl
    have h4 := hel 4 _ rfl
    match xs, hn with
    | [x0, x1, x2, x3, x4], _ =>
      have h3' : DataW.trod enc Tryd.prog W base spare held n 32 [c3] = some x3 := by
        have hq : DataW.trod enc Tryd.prog W base spare held n 32 (([c0, c1, c2, c3, c4].drop 3).take (Tryd.prog.cellsOf 32)) = some x3 := h3
        rw [q32] at hq
        exact hq
      have h4' : DataW.trod enc Tryd.prog W base spare held n 33 [c4] = some x4 := by
        have hq : DataW.trod enc Tryd.prog W base spare held n 33 (([c0, c1, c2, c3, c4].drop 4).take (Tryd.prog.cellsOf 33)) = some x4 := h4
        rw [q33] at hq
        exact hq
      obtain ⟨k0, e0, _, w0⟩ := DataW.trod_string Tryd.underlying9 (x := x0) h0
      obtain ⟨k1, e1, _, w1⟩ := DataW.trod_int Tryd.underlying3 (x := x1) h1
      obtain ⟨k2, e2, _, w2⟩ := DataW.trod_int Tryd.underlying3 (x := x2) h2
      obtain ⟨kA, kc, ks, rfl, hks, hkw⟩ := read32 h3'
      obtain ⟨nA, nc, ns, rfl, hns, hnw⟩ := read33 h4'
      refine ⟨⟨k0, k1, k2, ks, ns, kA, kc, nA, nc⟩, ?_, hks, hns, wf64_of w1, wf64_of w2, hnw, w0, hkw⟩
      simp [q9, q3] at e0 e1 e2
      simp [St.vs, e0, e1, e2]
theorem read22 {v : Value} {x : DataW H × List MemPlace} (h : DataW.trod enc Tryd.prog W base spare held fuel 22 [v] = some x) :
    ∃ (A : Option Addr) (c : Nat) (l : List St), v = .slice A l.length c ∧ Elems W (.slice A l.length c) 5 (l.map St.vs) ∧ ∀ s ∈ l, StAt W s := by
  obtain ⟨A, n, c, rfl⟩ := slice_form Tryd.underlying22 h
  obtain ⟨L, ys, rs, hE, hy, hd, hL⟩ := elems_of Tryd.underlying22 (show Tryd.prog.cellsOf 35 = 5 by kernel_rfl) (by decide) (trod_cells rfl h)
  obtain ⟨M, rfl, hM⟩ := map_of L (vs := St.vs) (q := StAt W) (fun i hi => by
    obtain ⟨f, p, hr⟩ := hL i hi
    exact read35 hr)
  have hn := hE.at_.1
  rw [List.length_map] at hn
  subst hn
  exact ⟨A, c, M, rfl, hE, hM⟩
theorem read24 {cs : List Value} {x : DataW H × List MemPlace} (h : DataW.trod enc Tryd.prog W base spare held fuel 24 cs = some x) : ∃ d : Df, cs = d.vs ∧ DefAt W d := by
  obtain ⟨xs, n, rfl, hx, hlen, hn, hel⟩ := DataW.trod_struct Tryd.underlying24 h
  rw [show Tryd.prog.cellsOf 24 = 2 by kernel_rfl] at hlen
  have q9 : Tryd.prog.cellsOf 9 = 1 := by kernel_rfl
  have q22 : Tryd.prog.cellsOf 22 = 1 := by kernel_rfl
  match cs, hlen with
  | [c0, c1], _ =>
    have h0 := hel 0 _ rfl
    have h1 := hel 1 _ rfl
    match xs, hn with
    | [x0, x1], _ =>
      have h1' : DataW.trod enc Tryd.prog W base spare held n 22 [c1] = some x1 := by
        have hq : DataW.trod enc Tryd.prog W base spare held n 22 (([c0, c1].drop 1).take (Tryd.prog.cellsOf 22)) = some x1 := h1
        rw [q22] at hq
        exact hq
      obtain ⟨k0, e0, _, w0⟩ := DataW.trod_string Tryd.underlying9 (x := x0) h0
      obtain ⟨A, c, l, rfl, hl, hs⟩ := read22 h1'
      refine ⟨⟨k0, l, A, c⟩, ?_, hl, hs, w0⟩
      simp [q9] at e0
      simp [Df.vs, e0]
end
theorem agg_of {v : Value} {a b : Value} {l : List Value} (h : v.cells.toList = a :: b :: l) : v = .agg (a :: b :: l).toArray := by
  cases v <;> simp [Value.cells] at h
  rename_i cs
  have : cs = (a :: b :: l).toArray := by rw [← h]
  rw [this]
theorem open24 {H : Type} {enc : TypeId × Value → H} {W : World} {base : Nat} {spare : Nat → Bool} {held : Bool} {v : Value} {d : DataW H} {ps : List MemPlace} (h : DataW.Trod enc Tryd.prog W base spare held 24 v d ps) : ∃ D : Df, v = D.v ∧ DefAt W D := by
  obtain ⟨fuel, hf⟩ := h
  obtain ⟨D, e, hD⟩ := read24 hf
  exact ⟨D, agg_of e, hD⟩
end Go.Proofs.YtpmoanjeoaeabaaDoor
