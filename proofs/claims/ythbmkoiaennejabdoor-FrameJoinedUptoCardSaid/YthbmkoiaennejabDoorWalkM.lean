/- What the reading of a slice of texts gives. -/
import Derived.Test.YthbmkoiaennejabDoorWalkL
import Derived.SliceStrings
namespace Go.Proofs.YthbmkoiaennejabDoor
open Go.ChangeShapes Go.WideShapes Go.ChangeAt Go.RowKit
theorem bulk_strs {H : Type} (L : List ByteArray) : Rows.uptoBulkAll (strs (H := H) L) = bulkS L := by
  induction L with
  | nil => rfl
  | cons x L ih =>
    have e : strs (H := H) (x :: L) = .lit (.string x.data.toList) :: strs L := rfl
    rw [e]
    simp only [Rows.uptoBulkAll, Rows.uptoBulk, ih, bulkS, List.map_cons, List.sum_cons]
    rw [show x.data.toList.length = x.size from Array.length_toList]
theorem strs_of {H : Type} {enc : TypeId × Value → H} {W : World} {base : Nat} {spare : Nat → Bool} {held : Bool} {t e : TypeId} {a : Option Addr} {len cap : Nat} {d : DataW H} {ps : List MemPlace}
    (hu : Tryd.prog.underlying t = some (.slice e)) (he : Tryd.prog.underlying e = some .string) (hc : Tryd.prog.cellsOf e = 1)
    (h : DataW.Trod enc Tryd.prog W base spare held t (.slice a len cap) d ps) : ∃ L, Strs W (.slice a len cap) L ∧ bulkS L ≤ Rows.uptoBulk d := by
  obtain ⟨fuel, hf⟩ := h
  rcases open_strings hu he hc hf with ⟨hcs, _⟩ | ⟨x, l, c, ss, hcs, _, hl, hm, hn, hx, hcell, _⟩
  · simp [Value.cells] at hcs
    obtain ⟨rfl, rfl, rfl⟩ := hcs
    exact ⟨[], ⟨none, 0, rfl, .inl rfl⟩, by simp [bulkS]⟩
  · simp [Value.cells] at hcs
    obtain ⟨rfl, rfl, rfl⟩ := hcs
    obtain ⟨rfl, _⟩ := Prod.mk.inj hx
    have hle : len ≤ ss.length := by rw [hn]; split <;> omega
    have hlen : (ss.take len).length = len := by rw [List.length_take]; omega
    refine ⟨ss.take len, ⟨some x, cap, by rw [hlen], .inr ⟨x, rfl, fun i hi => ?_⟩⟩, ?_⟩
    · rw [hlen] at hi
      rw [hcell i (by omega)]
      congr 2
      simp [List.getD, hi]
      rfl
    · simp only [Rows.uptoBulk, bulk_strs]; omega
end Go.Proofs.YthbmkoiaennejabDoor
