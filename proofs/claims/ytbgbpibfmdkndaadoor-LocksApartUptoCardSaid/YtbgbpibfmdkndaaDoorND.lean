/- Letters, blanks, small letters: of any rune. -/
import Derived.Test.YtbgbpibfmdkndaaDoorNC
set_option linter.unusedVariables false
set_option linter.unusedSimpArgs false
namespace Go.Proofs.YtbgbpibfmdkndaaDoor
open Go.RowKit Go.ChangeShapes Go.WideShapes Go.ChangeAt
def letterB (r : Nat) : Bool := decide (97 ≤ r ∧ r ≤ 122 ∨ r = 228 ∨ r = 246 ∨ r = 252 ∨ r = 223 ∨ 945 ≤ r ∧ r ≤ 969)
def blankB (r : Nat) : Bool := decide (r = 9 ∨ r = 32 ∨ r = 160 ∨ r = 8195)
def smallN (r : Nat) : Nat := if 65 ≤ r ∧ r ≤ 90 ∨ r = 196 ∨ r = 214 ∨ r = 220 ∨ 913 ≤ r ∧ r ≤ 937 ∧ r ≠ 930 then r + 32 else r
set_option maxRecDepth 100000 in
theorem letter_any (r : Nat) (w : World) (hr : r < 1114112) : Calls Tryd.prog 35 #[.int .i32 r] w fun e w' => e = .returned (.bool (letterB r)) ∧ w' = w := by
  by_cases c228 : r = 228
  · subst c228
    have HX : Hid (letterB 228 = true) := by show _ = _; decide
    go_enter Tryd.func35, Tryd.ntmps35
    go_wp2
    go_ret
    exact ⟨by rw [HX.out]; first | rfl | exact congrArg (fun v => Ending.returned (Value.bool v)) (by first | rfl | (apply decide_eq_true; omega) | (apply decide_eq_false; omega) | (simp; omega)), rfl⟩
  by_cases c246 : r = 246
  · subst c246
    have HX : Hid (letterB 246 = true) := by show _ = _; decide
    go_enter Tryd.func35, Tryd.ntmps35
    go_wp2
    go_ret
    exact ⟨by rw [HX.out]; first | rfl | exact congrArg (fun v => Ending.returned (Value.bool v)) (by first | rfl | (apply decide_eq_true; omega) | (apply decide_eq_false; omega) | (simp; omega)), rfl⟩
  by_cases c252 : r = 252
  · subst c252
    have HX : Hid (letterB 252 = true) := by show _ = _; decide
    go_enter Tryd.func35, Tryd.ntmps35
    go_wp2
    go_ret
    exact ⟨by rw [HX.out]; first | rfl | exact congrArg (fun v => Ending.returned (Value.bool v)) (by first | rfl | (apply decide_eq_true; omega) | (apply decide_eq_false; omega) | (simp; omega)), rfl⟩
  by_cases c223 : r = 223
  · subst c223
    have HX : Hid (letterB 223 = true) := by show _ = _; decide
    go_enter Tryd.func35, Tryd.ntmps35
    go_wp2
    go_ret
    exact ⟨by rw [HX.out]; first | rfl | exact congrArg (fun v => Ending.returned (Value.bool v)) (by first | rfl | (apply decide_eq_true; omega) | (apply decide_eq_false; omega) | (simp; omega)), rfl⟩
  by_cases p97 : r < 97
  · have HX : Hid (letterB r = false) := by show _ = _; unfold letterB; first | (apply decide_eq_true; omega) | (apply decide_eq_false; omega)
    have q0 : 0 ≤ r := by omega
    have z97 : ¬ 97 ≤ r := by omega
    have y122 : r ≤ 122 := by omega
    have z945 : ¬ 945 ≤ r := by omega
    have y969 : r ≤ 969 := by omega
    have t228 : ((r : Int) == 228) = false := by rw [beq_eq_false_iff_ne]; omega
    have t246 : ((r : Int) == 246) = false := by rw [beq_eq_false_iff_ne]; omega
    have t252 : ((r : Int) == 252) = false := by rw [beq_eq_false_iff_ne]; omega
    have t223 : ((r : Int) == 223) = false := by rw [beq_eq_false_iff_ne]; omega
    go_enter Tryd.func35, Tryd.ntmps35
    go_wp2
    go_ret
    exact ⟨by rw [HX.out]; first | rfl | exact congrArg (fun v => Ending.returned (Value.bool v)) (by first | rfl | (apply decide_eq_true; omega) | (apply decide_eq_false; omega) | (simp; omega)), rfl⟩
  by_cases p123 : r < 123
  · have HX : Hid (letterB r = true) := by show _ = _; unfold letterB; first | (apply decide_eq_true; omega) | (apply decide_eq_false; omega)
    have q97 : 97 ≤ r := by omega
    have z97 : 97 ≤ r := by omega
    have y122 : r ≤ 122 := by omega
    have z945 : ¬ 945 ≤ r := by omega
    have y969 : r ≤ 969 := by omega
    have t228 : ((r : Int) == 228) = false := by rw [beq_eq_false_iff_ne]; omega
    have t246 : ((r : Int) == 246) = false := by rw [beq_eq_false_iff_ne]; omega
    have t252 : ((r : Int) == 252) = false := by rw [beq_eq_false_iff_ne]; omega
    have t223 : ((r : Int) == 223) = false := by rw [beq_eq_false_iff_ne]; omega
    go_enter Tryd.func35, Tryd.ntmps35
    go_wp2
    go_ret
    exact ⟨by rw [HX.out]; first | rfl | exact congrArg (fun v => Ending.returned (Value.bool v)) (by first | rfl | (apply decide_eq_true; omega) | (apply decide_eq_false; omega) | (simp; omega)), rfl⟩
  by_cases p945 : r < 945
  · have HX : Hid (letterB r = false) := by show _ = _; unfold letterB; first | (apply decide_eq_true; omega) | (apply decide_eq_false; omega)
    have q123 : 123 ≤ r := by omega
    have z97 : 97 ≤ r := by omega
    have y122 : ¬ r ≤ 122 := by omega
    have z945 : ¬ 945 ≤ r := by omega
    have y969 : r ≤ 969 := by omega
    have t228 : ((r : Int) == 228) = false := by rw [beq_eq_false_iff_ne]; omega
    have t246 : ((r : Int) == 246) = false := by rw [beq_eq_false_iff_ne]; omega
    have t252 : ((r : Int) == 252) = false := by rw [beq_eq_false_iff_ne]; omega
    have t223 : ((r : Int) == 223) = false := by rw [beq_eq_false_iff_ne]; omega
    go_enter Tryd.func35, Tryd.ntmps35
    go_wp2
    go_ret
    exact ⟨by rw [HX.out]; first | rfl | exact congrArg (fun v => Ending.returned (Value.bool v)) (by first | rfl | (apply decide_eq_true; omega) | (apply decide_eq_false; omega) | (simp; omega)), rfl⟩
  by_cases p970 : r < 970
  · have HX : Hid (letterB r = true) := by show _ = _; unfold letterB; first | (apply decide_eq_true; omega) | (apply decide_eq_false; omega)
    have q945 : 945 ≤ r := by omega
    have z97 : 97 ≤ r := by omega
    have y122 : ¬ r ≤ 122 := by omega
    have z945 : 945 ≤ r := by omega
    have y969 : r ≤ 969 := by omega
    have t228 : ((r : Int) == 228) = false := by rw [beq_eq_false_iff_ne]; omega
    have t246 : ((r : Int) == 246) = false := by rw [beq_eq_false_iff_ne]; omega
    have t252 : ((r : Int) == 252) = false := by rw [beq_eq_false_iff_ne]; omega
    have t223 : ((r : Int) == 223) = false := by rw [beq_eq_false_iff_ne]; omega
    go_enter Tryd.func35, Tryd.ntmps35
    go_wp2
    go_ret
    exact ⟨by rw [HX.out]; first | rfl | exact congrArg (fun v => Ending.returned (Value.bool v)) (by first | rfl | (apply decide_eq_true; omega) | (apply decide_eq_false; omega) | (simp; omega)), rfl⟩
  have HX : Hid (letterB r = false) := by show _ = _; unfold letterB; first | (apply decide_eq_true; omega) | (apply decide_eq_false; omega)
  have q970 : 970 ≤ r := by omega
  have z97 : 97 ≤ r := by omega
  have y122 : ¬ r ≤ 122 := by omega
  have z945 : 945 ≤ r := by omega
  have y969 : ¬ r ≤ 969 := by omega
  have t228 : ((r : Int) == 228) = false := by rw [beq_eq_false_iff_ne]; omega
  have t246 : ((r : Int) == 246) = false := by rw [beq_eq_false_iff_ne]; omega
  have t252 : ((r : Int) == 252) = false := by rw [beq_eq_false_iff_ne]; omega
  have t223 : ((r : Int) == 223) = false := by rw [beq_eq_false_iff_ne]; omega
  go_enter Tryd.func35, Tryd.ntmps35
  go_wp2
  go_ret
  exact ⟨by rw [HX.out]; first | rfl | exact congrArg (fun v => Ending.returned (Value.bool v)) (by first | rfl | (apply decide_eq_true; omega) | (apply decide_eq_false; omega) | (simp; omega)), rfl⟩
set_option maxRecDepth 100000 in
theorem rletter_any (r : Nat) (w : World) (hr : r < 1114112) : Calls Tryd.prog 37 #[.int .i64 r] w fun e w' => e = .returned (.bool (letterB r)) ∧ w' = w := by
  by_cases c228 : r = 228
  · subst c228
    have HX : Hid (letterB 228 = true) := by show _ = _; decide
    go_enter Tryd.func37, Tryd.ntmps37
    go_wp2
    go_ret
    exact ⟨by rw [HX.out]; first | rfl | exact congrArg (fun v => Ending.returned (Value.bool v)) (by first | rfl | (apply decide_eq_true; omega) | (apply decide_eq_false; omega) | (simp; omega)), rfl⟩
  by_cases c246 : r = 246
  · subst c246
    have HX : Hid (letterB 246 = true) := by show _ = _; decide
    go_enter Tryd.func37, Tryd.ntmps37
    go_wp2
    go_ret
    exact ⟨by rw [HX.out]; first | rfl | exact congrArg (fun v => Ending.returned (Value.bool v)) (by first | rfl | (apply decide_eq_true; omega) | (apply decide_eq_false; omega) | (simp; omega)), rfl⟩
  by_cases c252 : r = 252
  · subst c252
    have HX : Hid (letterB 252 = true) := by show _ = _; decide
    go_enter Tryd.func37, Tryd.ntmps37
    go_wp2
    go_ret
    exact ⟨by rw [HX.out]; first | rfl | exact congrArg (fun v => Ending.returned (Value.bool v)) (by first | rfl | (apply decide_eq_true; omega) | (apply decide_eq_false; omega) | (simp; omega)), rfl⟩
  by_cases c223 : r = 223
  · subst c223
    have HX : Hid (letterB 223 = true) := by show _ = _; decide
    go_enter Tryd.func37, Tryd.ntmps37
    go_wp2
    go_ret
    exact ⟨by rw [HX.out]; first | rfl | exact congrArg (fun v => Ending.returned (Value.bool v)) (by first | rfl | (apply decide_eq_true; omega) | (apply decide_eq_false; omega) | (simp; omega)), rfl⟩
  by_cases p97 : r < 97
  · have HX : Hid (letterB r = false) := by show _ = _; unfold letterB; first | (apply decide_eq_true; omega) | (apply decide_eq_false; omega)
    have q0 : 0 ≤ r := by omega
    have z97 : ¬ 97 ≤ r := by omega
    have y122 : r ≤ 122 := by omega
    have z945 : ¬ 945 ≤ r := by omega
    have y969 : r ≤ 969 := by omega
    have t228 : ((r : Int) == 228) = false := by rw [beq_eq_false_iff_ne]; omega
    have t246 : ((r : Int) == 246) = false := by rw [beq_eq_false_iff_ne]; omega
    have t252 : ((r : Int) == 252) = false := by rw [beq_eq_false_iff_ne]; omega
    have t223 : ((r : Int) == 223) = false := by rw [beq_eq_false_iff_ne]; omega
    go_enter Tryd.func37, Tryd.ntmps37
    go_wp2
    go_ret
    exact ⟨by rw [HX.out]; first | rfl | exact congrArg (fun v => Ending.returned (Value.bool v)) (by first | rfl | (apply decide_eq_true; omega) | (apply decide_eq_false; omega) | (simp; omega)), rfl⟩
  by_cases p123 : r < 123
  · have HX : Hid (letterB r = true) := by show _ = _; unfold letterB; first | (apply decide_eq_true; omega) | (apply decide_eq_false; omega)
    have q97 : 97 ≤ r := by omega
    have z97 : 97 ≤ r := by omega
    have y122 : r ≤ 122 := by omega
    have z945 : ¬ 945 ≤ r := by omega
    have y969 : r ≤ 969 := by omega
    have t228 : ((r : Int) == 228) = false := by rw [beq_eq_false_iff_ne]; omega
    have t246 : ((r : Int) == 246) = false := by rw [beq_eq_false_iff_ne]; omega
    have t252 : ((r : Int) == 252) = false := by rw [beq_eq_false_iff_ne]; omega
    have t223 : ((r : Int) == 223) = false := by rw [beq_eq_false_iff_ne]; omega
    go_enter Tryd.func37, Tryd.ntmps37
    go_wp2
    go_ret
    exact ⟨by rw [HX.out]; first | rfl | exact congrArg (fun v => Ending.returned (Value.bool v)) (by first | rfl | (apply decide_eq_true; omega) | (apply decide_eq_false; omega) | (simp; omega)), rfl⟩
  by_cases p945 : r < 945
  · have HX : Hid (letterB r = false) := by show _ = _; unfold letterB; first | (apply decide_eq_true; omega) | (apply decide_eq_false; omega)
    have q123 : 123 ≤ r := by omega
    have z97 : 97 ≤ r := by omega
    have y122 : ¬ r ≤ 122 := by omega
    have z945 : ¬ 945 ≤ r := by omega
    have y969 : r ≤ 969 := by omega
    have t228 : ((r : Int) == 228) = false := by rw [beq_eq_false_iff_ne]; omega
    have t246 : ((r : Int) == 246) = false := by rw [beq_eq_false_iff_ne]; omega
    have t252 : ((r : Int) == 252) = false := by rw [beq_eq_false_iff_ne]; omega
    have t223 : ((r : Int) == 223) = false := by rw [beq_eq_false_iff_ne]; omega
    go_enter Tryd.func37, Tryd.ntmps37
    go_wp2
    go_ret
    exact ⟨by rw [HX.out]; first | rfl | exact congrArg (fun v => Ending.returned (Value.bool v)) (by first | rfl | (apply decide_eq_true; omega) | (apply decide_eq_false; omega) | (simp; omega)), rfl⟩
  by_cases p970 : r < 970
  · have HX : Hid (letterB r = true) := by show _ = _; unfold letterB; first | (apply decide_eq_true; omega) | (apply decide_eq_false; omega)
    have q945 : 945 ≤ r := by omega
    have z97 : 97 ≤ r := by omega
    have y122 : ¬ r ≤ 122 := by omega
    have z945 : 945 ≤ r := by omega
    have y969 : r ≤ 969 := by omega
    have t228 : ((r : Int) == 228) = false := by rw [beq_eq_false_iff_ne]; omega
    have t246 : ((r : Int) == 246) = false := by rw [beq_eq_false_iff_ne]; omega
    have t252 : ((r : Int) == 252) = false := by rw [beq_eq_false_iff_ne]; omega
    have t223 : ((r : Int) == 223) = false := by rw [beq_eq_false_iff_ne]; omega
    go_enter Tryd.func37, Tryd.ntmps37
    go_wp2
    go_ret
    exact ⟨by rw [HX.out]; first | rfl | exact congrArg (fun v => Ending.returned (Value.bool v)) (by first | rfl | (apply decide_eq_true; omega) | (apply decide_eq_false; omega) | (simp; omega)), rfl⟩
  have HX : Hid (letterB r = false) := by show _ = _; unfold letterB; first | (apply decide_eq_true; omega) | (apply decide_eq_false; omega)
  have q970 : 970 ≤ r := by omega
  have z97 : 97 ≤ r := by omega
  have y122 : ¬ r ≤ 122 := by omega
  have z945 : 945 ≤ r := by omega
  have y969 : ¬ r ≤ 969 := by omega
  have t228 : ((r : Int) == 228) = false := by rw [beq_eq_false_iff_ne]; omega
  have t246 : ((r : Int) == 246) = false := by rw [beq_eq_false_iff_ne]; omega
  have t252 : ((r : Int) == 252) = false := by rw [beq_eq_false_iff_ne]; omega
  have t223 : ((r : Int) == 223) = false := by rw [beq_eq_false_iff_ne]; omega
  go_enter Tryd.func37, Tryd.ntmps37
  go_wp2
  go_ret
  exact ⟨by rw [HX.out]; first | rfl | exact congrArg (fun v => Ending.returned (Value.bool v)) (by first | rfl | (apply decide_eq_true; omega) | (apply decide_eq_false; omega) | (simp; omega)), rfl⟩
end Go.Proofs.YtbgbpibfmdkndaaDoor
