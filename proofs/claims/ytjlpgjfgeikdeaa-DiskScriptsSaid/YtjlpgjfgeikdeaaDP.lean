/- What was made safe stays. -/
import Derived.Test.YtjlpgjfgeikdeaaDO
set_option linter.unusedVariables false
set_option linter.unusedSimpArgs false
set_option linter.unnecessarySimpa false
namespace Go.Proofs.Ytjlpgjfgeikdeaa
open Go.RowKit Go.ChangeShapes Go.WideShapes Go.ChangeAt
/-- the first bytes of file f are s, and they are safe -/
def SafeP (M : MD) (f : Nat) (s : ByteArray) : Prop := s.size ≤ (M.f f).safe ∧ (M.f f).b.extract 0 s.size = s
theorem ex_append (b x : ByteArray) (n : Nat) (h : n ≤ b.size) : (b ++ x).extract 0 n = b.extract 0 n := by
  apply ByteArray.ext
  have h' : n ≤ b.data.size := h
  apply Array.toList_inj.1
  simp only [ByteArray.data_extract, ByteArray.data_append, Array.toList_extract, Array.toList_append, List.extract_eq_take_drop, List.drop_zero, Nat.sub_zero]
  rw [List.take_append_of_le_length (by simpa using h')]
theorem ex_ex (b : ByteArray) (n m : Nat) (h : n ≤ m) : (b.extract 0 m).extract 0 n = b.extract 0 n := by
  apply ByteArray.ext
  apply Array.toList_inj.1
  simp only [ByteArray.data_extract, Array.toList_extract, List.extract_eq_take_drop, List.drop_zero, Nat.sub_zero]
  rw [List.take_take, Nat.min_eq_left h]
theorem set_f (M : MD) (n i : Nat) (x : MF) : (M.set n x).f i = if i = n then x else M.f i := rfl
theorem safe_app {M : MD} {f : Nat} {s : ByteArray} (hok : M.Ok) (hf : f < 4) (h : SafeP M f s) (n : Int) (t : ByteArray) : SafeP (appR M n t).1 f s := by
  have hs := (ok_size hok f hf).2
  unfold appR
  split
  · split
    · obtain ⟨h1, h2⟩ := h
      unfold SafeP
      simp only [set_f]
      by_cases e : f = n.toNat
      · rw [if_pos e, ← e]
        exact ⟨h1, by simp only; rw [ex_append _ _ _ (by omega)]; exact h2⟩
      · rw [if_neg e]
        exact ⟨h1, h2⟩
    · exact h
  · exact h
theorem safe_sync {M : MD} {f : Nat} {s : ByteArray} (hok : M.Ok) (hf : f < 4) (h : SafeP M f s) (n : Int) : SafeP (syncR M n).1 f s := by
  have hs := (ok_size hok f hf).2
  unfold syncR
  split
  · obtain ⟨h1, h2⟩ := h
    unfold SafeP
    simp only [set_f]
    by_cases e : f = n.toNat
    · rw [if_pos e, ← e]
      exact ⟨by simp only; omega, h2⟩
    · rw [if_neg e]
      exact ⟨h1, h2⟩
  · exact h
theorem safe_crashTo {M : MD} {f : Nat} {s : ByteArray} (h : SafeP M f s) (L : Nat) : ∀ n, SafeP (crashTo M L n).1 f s := by
  intro n
  induction n with
  | zero => exact h
  | succ n ih =>
    unfold SafeP
    show s.size ≤ (((crashTo M L n).1.set n (crashF (M.f n) (crashTo M L n).2)).f f).safe ∧ _
    simp only [crashTo, set_f]
    by_cases e : f = n
    · rw [if_pos e, ← e]
      obtain ⟨h1, h2⟩ := h
      refine ⟨by simp only [crashF]; omega, ?_⟩
      simp only [crashF]
      rw [ex_ex _ _ _ (by omega)]
      exact h2
    · rw [if_neg e]
      exact ih
theorem safe_crash {M : MD} {f : Nat} {s : ByteArray} (h : SafeP M f s) (L : Nat) : SafeP (crashM M L) f s := safe_crashTo h L 4
/-- what was synced is safe -/
theorem safe_begin (M : MD) (f : Nat) (hf : f < 4) : SafeP (syncR M (f : Int)).1 f (M.f f).b := by
  unfold syncR
  rw [if_pos (isB_of f hf), Int.toNat_natCast]
  unfold SafeP
  simp only [set_f, if_true]
  refine ⟨Nat.le_refl _, ?_⟩
  apply ByteArray.ext
  apply Array.toList_inj.1
  simp only [ByteArray.data_extract, Array.toList_extract, List.extract_eq_take_drop, List.drop_zero, Nat.sub_zero]
  exact List.take_of_length_le (by show (M.f f).b.data.toList.length ≤ (M.f f).b.data.size; simp)
end Go.Proofs.Ytjlpgjfgeikdeaa
