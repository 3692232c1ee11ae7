/- What the functions of package pool do: Take, All; and the document's pool. -/
import Derived.Test.YtmkbehdfchjeoaaPA
import Derived.Test.YtmkbehdfchjeoaaSLP
import Derived.Test.YtmkbehdfchjeoaaShelf
namespace Go.Proofs.Ytmkbehdfchjeoaa
open Go.RowKit Go.ChangeShapes Go.WideShapes Go.ChangeAt
theorem clone_any (A : Option Addr) (c : Nat) (L : List ByteArray) (w0 w : World) (F : List HP) (hS : Sat w0 w (Row 9 1 A L.length c (strs L) :: F)) (hm : L.length ≤ 1000000) :
    Calls Try.prog 43 #[.slice A L.length c] w fun e w' => ∃ A' c', e = .returned (.slice A' L.length c') ∧ Sat w0 w' (Row 9 1 A' L.length c' (strs L) :: Row 9 1 A L.length c (strs L) :: F) := by
  cases A with
  | none =>
    obtain ⟨h1, rfl, h2⟩ := hS.rowNone
    refine (Try.slices_Clone_string_nil _ _ w).mono ?_
    rintro e w' ⟨rfl, rfl⟩
    rw [h1, h2]
    rw [h1, h2] at hS
    exact ⟨none, 0, rfl, hS.nilRow 9 1⟩
  | some a =>
    obtain ⟨g, cur, rfl, _⟩ := hS.rowBlk
    have hc : ∀ j, j < L.length → w.cell? ⟨g, 0 + j, none⟩ = some (.string (L.getD j ByteArray.empty)) := by
      intro j hj
      obtain ⟨g', e, h, _⟩ := hS.rowCell (by intro e; rw [strs, List.map_eq_nil_iff] at e; subst e; simp at hj)
      cases e
      rw [Nat.zero_add, h j (by rw [strs_len]; exact hj), strs, List.getElem?_map, List.getElem?_eq_getElem hj, ← List.getElem_eq_getD (h := hj)]
      rfl
    refine (Try.slices_Clone_string g 0 L.length c L w (Nat.le_refl _) (by omega) hc).mono ?_
    rintro e w' ⟨v', rfl, ho, _, hb⟩
    rw [List.take_length] at ho
    have hf : ∃ A' c', v' = .slice A' L.length c' := by
      rcases ho.2 with ⟨rfl, e⟩ | ⟨g, cap, cur, rfl, _⟩
      · exact ⟨_, _, by rw [e]⟩
      · exact ⟨_, _, rfl⟩
    obtain ⟨A', c', rfl⟩ := hf
    exact ⟨A', c', rfl, hS.rowNew hb ho⟩
theorem all_any (g : Nat) (room : Int) (L : List ByteArray) (w0 w : World) (F : List HP) (hS : Sat w0 w (PoolC g 70 room L :: F)) (hm : L.length ≤ 1000000) :
    Calls Try.prog 26 #[.pointer (some ⟨g, 0, none⟩)] w fun e w' => ∃ A' c', e = .returned (.slice A' L.length c') ∧ Sat w0 w' (Row 9 1 A' L.length c' (strs L) :: PoolC g 70 room L :: F) := by
  obtain ⟨A, c, hS⟩ := hS.openP
  have c1 := hS.blk.cell 1
  go_enter Try.func26, Try.ntmps26
  go_wp2_with fail
  refine (clone_any A c L w0 _ _ hS.r2 hm).mono ?_
  rintro e w1 ⟨A', c', rfl, hS2⟩
  clear c1
  go_wp2
  go_ret
  exact ⟨A', c', rfl, (Sat.closeP rfl (hS2.b3.r2)).r2⟩
theorem delete_any (k : Nat) (A : Option Addr) (c : Nat) (L : List ByteArray) (w0 w : World) (F : List HP) (hS : Sat w0 w (Row 9 1 A L.length c (strs L) :: F)) (hk : k < L.length) :
    Calls Try.prog 35 #[.slice A L.length c, .int .i64 k, .int .i64 ((k : Int) + 1)] w fun e w' => e = .returned (.slice A (L.length - 1) c) ∧ Sat w0 w' (Row 9 1 A (L.length - 1) c (strs (L.eraseIdx k)) :: F) := by
  obtain ⟨g, rfl, _⟩ := hS.rowCell (by intro e; rw [strs, List.map_eq_nil_iff] at e; subst e; simp at hk)
  have hcap := hS.rowCap
  have hz : (L.map fun b : ByteArray => b.data.toList).length = L.length := by simp
  have h := Try.slices_Delete_string g 0 c k (k + 1) (L.map fun b : ByteArray => b.data.toList) w hS.holdsStr (by rw [hz]; exact hcap.1) (by have := hcap.2; unfold maxLen at this; omega) (by omega) (by rw [hz]; omega)
  rw [hz] at h
  refine (show Calls Try.prog 35 #[.slice (some ⟨g, 0, none⟩) L.length c, .int .i64 k, .int .i64 ((k : Int) + 1)] w _ from h).mono ?_
  rintro e w' ⟨rfl, q, rfl⟩
  refine ⟨by rw [show k + 1 - k = 1 by omega], ?_⟩
  have h1 := Sat.putRow encStr hS ((L.map fun b : ByteArray => b.data.toList).take k ++ (L.map fun b : ByteArray => b.data.toList).drop (k + 1) ++ List.replicate (k + 1 - k) []).toArray (by simp; omega) q
  have h2 := h1.rowShrink (m := L.length - 1) (by omega) (by simp)
  rw [show (strs (L.eraseIdx k)) = List.take ((L.length - 1) * 1) (List.map encStr (((L.map fun b : ByteArray => b.data.toList).take k ++ (L.map fun b : ByteArray => b.data.toList).drop (k + 1) ++ List.replicate (k + 1 - k) []).toArray.toList)) from ?_]
  · exact h2
  · rw [List.map_append, List.take_append_of_le_length (by simp; omega), List.take_of_length_le (by simp; omega), List.map_append, ← List.map_take, ← List.map_drop, encStr_map, List.eraseIdx_eq_take_drop_succ]
    rw [encStr_map, strs, List.map_append]
theorem take_none (g : Nat) (room : Int) (L : List ByteArray) (k : Int) (w0 w : World) (F : List HP) (hS : Sat w0 w (PoolC g 70 room L :: F)) (h : ¬ (0 ≤ k ∧ k < L.length)) :
    Calls Try.prog 14 #[.pointer (some ⟨g, 0, none⟩), .int .i64 k] w fun e w' => e = .returned (.tuple #[.string ⟨#[]⟩, .int .i64 91]) ∧ w' = w := by
  go_enter Try.func14, Try.ntmps14
  go_wp2_with (go_at_call 34; refine (at_no g room L k w0 _ F hS h).mono ?_; rintro e w' ⟨rfl, rfl⟩)
  go_ret2
  exact ⟨rfl, rfl⟩
theorem take_ok (g : Nat) (room : Int) (L : List ByteArray) (k : Nat) (w0 w : World) (F : List HP) (hS : Sat w0 w (PoolC g 70 room L :: F)) (h : k < L.length) (hm : L.length ≤ 200) :
    Calls Try.prog 14 #[.pointer (some ⟨g, 0, none⟩), .int .i64 k] w fun e w' => e = .returned (.tuple #[.string L[k], .int .i64 0]) ∧ Sat w0 w' (PoolC g 70 room (L.eraseIdx k) :: F) := by
  have hS0 := hS
  obtain ⟨A, c, hS⟩ := hS.openP
  have c1 := hS.blk.cell 1
  go_enter Try.func14, Try.ntmps14
  go_wp2_with (first | (go_at_call 34; refine (at_ok g room L k w0 _ F hS0 h hm).mono ?_; rintro e w' ⟨rfl, rfl⟩) | (go_at_call 35; refine (delete_any k A c L w0 _ _ hS.r2 h).mono ?_; rintro e w2 ⟨rfl, hS2⟩; have c1 := hS2.r2.blk.cell 1; have f1 := hS2.r2.blk.free 1))
  go_ret2
  exact ⟨rfl, Sat.closeP (n := L.length - 1) (A := A) (c := c) (List.length_eraseIdx_of_lt h).symm (hS2.r2.set 1 (.slice A (L.length - 1) c))⟩
end Go.Proofs.Ytmkbehdfchjeoaa
