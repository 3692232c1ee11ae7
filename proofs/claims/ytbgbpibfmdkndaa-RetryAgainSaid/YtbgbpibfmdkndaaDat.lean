/- What the reading of arguments gives: slices of records, arrays, records. -/
import Derived.Test.YtbgbpibfmdkndaaCom
import Derived.ProofKit
import Derived.OpenShut
import Derived.SliceStrings
set_option linter.unusedVariables false
set_option linter.unusedSimpArgs false
set_option linter.unnecessarySimpa false
namespace Go.Proofs.Ytbgbpibfmdkndaa
open Go.RowKit Go.ChangeShapes Go.WideShapes Go.ChangeAt
/-- a slice of records of sz cells each -/
def Elems (w : World) (v : Value) (sz : Nat) (L : List (List Value)) : Prop :=
  ∃ (A : Option Addr) (c : Nat), v = .slice A L.length c ∧ L.length ≤ c ∧ c ≤ maxLen ∧ (∀ x ∈ L, x.length = sz) ∧
    (L = [] ∨ ∃ b o, A = some ⟨b, o, none⟩ ∧ ∀ i, i < L.length → ∀ j, j < sz → w.cell? ⟨b, o + i * sz + j, none⟩ = (L.getD i [])[j]?)
theorem Elems.keep {w w' : World} {v : Value} {sz : Nat} {L : List (List Value)} (h : Elems w v sz L) (hb : Below w.heap.size w w') : Elems w' v sz L := by
  obtain ⟨A, c, e, hc, hm, hl, h⟩ := h
  refine ⟨A, c, e, hc, hm, hl, h.imp id ?_⟩
  rintro ⟨b, o, rfl, hcell⟩
  refine ⟨b, o, rfl, fun i hi j hj => (hb.cell ?_).trans (hcell i hi j hj)⟩
  have h0 := hcell i hi j hj
  show b < w.heap.size
  rcases Nat.lt_or_ge b w.heap.size with h' | h'
  · exact h'
  · have hx : (L.getD i []).length = sz := hl _ (by rw [← List.getElem_eq_getD (h := hi)]; exact List.getElem_mem _)
    rw [List.getElem?_eq_getElem (by omega)] at h0
    simp [World.cell?, Array.getElem?_eq_none h'] at h0
theorem Elems.at_ {w : World} {A : Option Addr} {n c sz : Nat} {L : List (List Value)} (h : Elems w (.slice A n c) sz L) : n = L.length ∧ L.length ≤ maxLen ∧
    (0 < L.length → ∃ b o, A = some ⟨b, o, none⟩ ∧ ∀ i, i < L.length → ∀ j, j < sz → w.cell? ⟨b, o + i * sz + j, none⟩ = (L.getD i [])[j]?) := by
  obtain ⟨A', c', e, hc, hm, hl, h⟩ := h
  injection e with e1 e2 e3
  subst e1 e2 e3
  refine ⟨rfl, by omega, fun hp => ?_⟩
  rcases h with rfl | h
  · simp at hp
  · exact h
theorem elems_of {H : Type} {enc : TypeId × Value → H} {P : Program} {W : World} {base : Nat} {spare : Nat → Bool} {held : Bool} {t e : TypeId} {a : Option Addr} {len cap sz : Nat} {d : DataW H} {ps : List MemPlace}
    (hu : P.underlying t = some (.slice e)) (hc : P.cellsOf e = sz) (hs : 0 < sz) (h : DataW.Trod enc P W base spare held t (.slice a len cap) d ps) :
    ∃ (L : List (List Value)) (ys rs : List (DataW H)), Elems W (.slice a len cap) sz L ∧ ys.length = L.length ∧ ((L = [] ∧ d = .nil) ∨ d = .slice ys rs) ∧
      ∀ i, i < L.length → ∃ m p, DataW.trod enc P W base spare held m e (L.getD i []) = some (ys.getD i .nil, p) := by
  obtain ⟨fuel, hf⟩ := h
  rcases DataW.trod_slice hu hf with ⟨h0, hx⟩ | ⟨x, l, c, elems, rest, n, _, hcs, hx, hb, hl, hm, hlen, hel, _, _⟩
  · simp [Value.cells] at h0
    obtain ⟨rfl, rfl, rfl⟩ := h0
    injection hx with hx _
    exact ⟨[], [], [], ⟨none, 0, rfl, Nat.le_refl _, Nat.zero_le _, by simp, .inl rfl⟩, rfl, .inl ⟨rfl, hx⟩, by simp⟩
  · simp [Value.cells] at hcs
    obtain ⟨rfl, rfl, rfl⟩ := hcs
    injection hx with hx _
    have each : ∀ i, i < len → ∃ cs y, W.cells? base (x.add (i * sz)) sz = some cs ∧ DataW.trod enc P W base spare held n e cs = some y ∧ elems[i]? = some y := by
      intro i hi
      have h1 := hel i hi
      have h2 : ∃ y, elems[i]? = some y := ⟨elems[i]'(by omega), by simp [hlen, hi]⟩
      obtain ⟨y, hy⟩ := h2
      rw [hy, hc, Option.bind_eq_some_iff] at h1
      obtain ⟨cs, h3, h4⟩ := h1
      exact ⟨cs, y, h3, h4, hy⟩
    have hL : ∃ L : List (List Value), L.length = len ∧ ∀ i, i < len → W.cells? base (x.add (i * sz)) sz = some (L.getD i []) := by
      refine ⟨(List.range len).map fun i => (W.cells? base (x.add (i * sz)) sz).getD [], by simp, fun i hi => ?_⟩
      obtain ⟨cs, y, h1, _⟩ := each i hi
      simp [List.getD, hi, h1]
    obtain ⟨L, hLl, hL⟩ := hL
    have hlenx : ∀ z ∈ L, z.length = sz := by
      intro z hz
      obtain ⟨i, hi, rfl⟩ := List.getElem_of_mem hz
      have h1 := hL i (by omega)
      rw [← List.getElem_eq_getD (h := hi)] at h1
      exact (World.cells?_some h1).2.1
    refine ⟨L, elems.map (·.1), rest.map (·.1), ⟨some x, cap, by rw [hLl], by omega, hm, hlenx, ?_⟩, by rw [List.length_map]; omega, .inr hx, ?_⟩
    · by_cases hz : L = []
      · exact .inl hz
      · refine .inr ?_
        have hp : 0 < len := by
          rw [← hLl]; cases L with
          | nil => exact absurd rfl hz
          | cons => simp
        obtain ⟨b, o, spot⟩ := x
        have h1 := (World.cells?_some (hL 0 hp)).2.2 0 hs
        have hx0 : (L.getD 0 []).length = sz := (World.cells?_some (hL 0 hp)).2.1
        rw [List.getElem?_eq_getElem (by omega)] at h1
        have hspot : spot = none := by
          have := World.cell?_spot h1
          simpa [Addr.add] using this
        subst hspot
        refine ⟨b, o, rfl, fun i hi j hj => ?_⟩
        have h2 := (World.cells?_some (hL i (by omega))).2.2 j hj
        rw [← h2]
        congr 1
        unfold Addr.add
        split <;> split <;> simp_all
    · intro i hi
      obtain ⟨cs, y, h1, h2, h3⟩ := each i (by omega)
      have h4 := hL i (by omega)
      rw [h1] at h4
      injection h4 with h4
      refine ⟨n, y.2, ?_⟩
      rw [← h4, h2]
      simp [List.getD, h3]
theorem ints4 {H : Type} {enc : TypeId × Value → H} {P : Program} {W : World} {base fuel : Nat} {spare : Nat → Bool} {held : Bool} {t e : TypeId} {cs : List Value} {x : DataW H × List MemPlace}
    (ht : P.underlying t = some (.array 4 e)) (he : P.underlying e = some (.int .i64)) (hc : P.cellsOf e = 1) (hc4 : P.cellsOf t = 4) (h : DataW.trod enc P W base spare held fuel t cs = some x) :
    ∃ a b c d : Int, cs = [.int .i64 a, .int .i64 b, .int .i64 c, .int .i64 d] ∧ (Lit.int .i64 a).wf = true ∧ (Lit.int .i64 b).wf = true ∧ (Lit.int .i64 c).wf = true ∧ (Lit.int .i64 d).wf = true ∧
      x.1 = .agg [.lit (.int .i64 a), .lit (.int .i64 b), .lit (.int .i64 c), .lit (.int .i64 d)] := by
  obtain ⟨xs, m, rfl, hx, hlen, hn, hel⟩ := DataW.trod_array ht h
  rw [hc4] at hlen
  match cs, hlen with
  | [c0, c1, c2, c3], _ =>
    match xs, hn with
    | [x0, x1, x2, x3], _ =>
      have h0 := hel 0 (by decide)
      have h1 := hel 1 (by decide)
      have h2 := hel 2 (by decide)
      have h3 := hel 3 (by decide)
      rw [hc] at h0 h1 h2 h3
      obtain ⟨k0, e0, f0, w0⟩ := DataW.trod_int he (x := x0) h0
      obtain ⟨k1, e1, f1, w1⟩ := DataW.trod_int he (x := x1) h1
      obtain ⟨k2, e2, f2, w2⟩ := DataW.trod_int he (x := x2) h2
      obtain ⟨k3, e3, f3, w3⟩ := DataW.trod_int he (x := x3) h3
      simp at e0 e1 e2 e3
      subst e0 e1 e2 e3 f0 f1 f2 f3
      exact ⟨k0, k1, k2, k3, rfl, w0, w1, w2, w3, by rw [hx]; rfl⟩
end Go.Proofs.Ytbgbpibfmdkndaa
