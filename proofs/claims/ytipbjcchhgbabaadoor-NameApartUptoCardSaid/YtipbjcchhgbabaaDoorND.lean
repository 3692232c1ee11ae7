/- Letters, blanks, small letters: of any rune. -/
import Derived.Test.YtipbjcchhgbabaaDoorNC
set_option linter.unusedVariables false
set_option linter.unusedSimpArgs false
namespace Go.Proofs.YtipbjcchhgbabaaDoor
open Go.RowKit Go.ChangeShapes Go.WideShapes Go.ChangeAt
def letterB (r : Nat) : Bool := decide (97 ≤ r ∧ r ≤ 122 ∨ r = 228 ∨ r = 246 ∨ r = 252 ∨ r = 223 ∨ 945 ≤ r ∧ r ≤ 969)
def blankB (r : Nat) : Bool := decide (r = 9 ∨ r = 32 ∨ r = 160 ∨ r = 8195)
def smallN (r : Nat) : Nat := if 65 ≤ r ∧ r ≤ 90 ∨ r = 196 ∨ r = 214 ∨ r = 220 ∨ 913 ≤ r ∧ r ≤ 937 ∧ r ≠ 930 then r + 32 else r
set_option maxRecDepth 100000 in
theorem letter_any (r : Nat) (w : World) (hr : r < 1114112) : Calls Tryd.prog 25 #[.int .i32 r] w fun e w' => e = .returned (.bool (letterB r)) ∧ w' = w := by
  by_cases c228 : r = 228
  · subst c228
    have HX : Hid (letterB 228 = true) := by show _ = _; decide
    go_enter Tryd.func25, Tryd.ntmps25
    go_wp2
    go_ret
    exact ⟨by rw [HX.out]; first | rfl | exact congrArg (fun v => Ending.returned (Value.bool v)) (by first | rfl | (apply decide_eq_true; omega) | (apply decide_eq_false; omega) | (simp; omega)), rfl⟩
  by_cases c246 : r = 246
  · subst c246
    have HX : Hid (letterB 246 = true) := by show _ = _; decide
    go_enter Tryd.func25, Tryd.ntmps25
    go_wp2
    go_ret
    exact ⟨by rw [HX.out]; first | rfl | exact congrArg (fun v => Ending.returned (Value.bool v)) (by first | rfl | (apply decide_eq_true; omega) | (apply decide_eq_false; omega) | (simp; omega)), rfl⟩
  by_cases c252 : r = 252
  · subst c252
    have HX : Hid (letterB 252 = true) := by show _ = _; decide
    go_enter Tryd.func25, Tryd.ntmps25
    go_wp2
    go_ret
    exact ⟨by rw [HX.out]; first | rfl | exact congrArg (fun v => Ending.returned (Value.bool v)) (by first | rfl | (apply decide_eq_true; omega) | (apply decide_eq_false; omega) | (simp; omega)), rfl⟩
  by_cases c223 : r = 223
  · subst c223
    have HX : Hid (letterB 223 = true) := by show _ = _; decide
    go_enter Tryd.func25, Tryd.ntmps25
    go_wp2
    go_ret
    exact ⟨by rw [HX.out]; first | rfl | exact congrArg (fun v => Ending.returned (Value.bool v)) (by first | rfl | (apply decide_eq_true; omega) | (apply decide_eq_false; omega) | (simp; omega)), rfl⟩
  by_cases p97 : r < 97
  · have HX : Hid (letterB r = false) := by show _ = _; unfold letterB; first | (apply decide_eq_true; omega) | (apply decide_eq_false; omega)
    have q0 : 0 ≤ r := by omega
    have z97 : ¬ 97 ≤ r := by omega
    have y122 : r ≤ 122 := by omega
    have z945 : ¬ 945 ≤ r := by omega
    have y969 : r ≤ 969 := by omega
    have t228 : ((r : Int) == 228) = false := by rw [beq_eq_false_iff_ne]; omega
    have t246 : ((r : Int) == 246) = false := by rw [beq_eq_false_iff_ne]; omega
    have t252 : ((r : Int) == 252) = false := by rw [beq_eq_false_iff_ne]; omega
    have t223 : ((r : Int) == 223) = false := by rw [beq_eq_false_iff_ne]; omega
    go_enter Tryd.func25, Tryd.ntmps25
    go_wp2
    go_ret
    exact ⟨by rw [HX.out]; first | rfl | exact congrArg (fun v => Ending.returned (Value.bool v)) (by first | rfl | (apply decide_eq_true; omega) | (apply decide_eq_false; omega) | (simp; omega)), rfl⟩
  by_cases p123 : r < 123
  · have HX : Hid (letterB r = true) := by show _ = _; unfold letterB; first | (apply decide_eq_true; omega) | (apply decide_eq_false; omega)
    have q97 : 97 ≤ r := by omega
    have z97 : 97 ≤ r := by omega
    have y122 : r ≤ 122 := by omega
    have z945 : ¬ 945 ≤ r := by omega
    have y969 : r ≤ 969 := by omega
    have t228 : ((r : Int) == 228) = false := by rw [beq_eq_false_iff_ne]; omega
    have t246 : ((r : Int) == 246) = false := by rw [beq_eq_false_iff_ne]; omega
    have t252 : ((r : Int) == 252) = false := by rw [beq_eq_false_iff_ne]; omega
    have t223 : ((r : Int) == 223) = false := by rw [beq_eq_false_iff_ne]; omega
    go_enter Tryd.func25, Tryd.ntmps25
    go_wp2
    go_ret
    exact ⟨by rw [HX.out]; first | rfl | exact congrArg (fun v => Ending.returned (Value.bool v)) (by first | rfl | (apply decide_eq_true; omega) | (apply decide_eq_false; omega) | (simp; omega)), rfl⟩
  by_cases p945 : r < 945
  · have HX : Hid (letterB r = false) := by show _ = _; unfold letterB; first | (apply decide_eq_true; omega) | (apply decide_eq_false; omega)
    have q123 : 123 ≤ r := by omega
    have z97 : 97 ≤ r := by omega
    have y122 : ¬ r ≤ 122 := by omega
    have z945 : ¬ 945 ≤ r := by omega
    have y969 : r ≤ 969 := by omega
    have t228 : ((r : Int) == 228) = false := by rw [beq_eq_false_iff_ne]; omega
    have t246 : ((r : Int) == 246) = false := by rw [beq_eq_false_iff_ne]; omega
    have t252 : ((r : Int) == 252) = false := by rw [beq_eq_false_iff_ne]; omega
    have t223 : ((r : Int) == 223) = false := by rw [beq_eq_false_iff_ne]; omega
    go_enter Tryd.func25, Tryd.ntmps25
    go_wp2
    go_ret
    exact ⟨by rw [HX.out]; first | rfl | exact congrArg (fun v => Ending.returned (Value.bool v)) (by first | rfl | (apply decide_eq_true; omega) | (apply decide_eq_false; omega) | (simp; omega)), rfl⟩
  by_cases p970 : r < 970
  · have HX : Hid (letterB r = true) := by show _ = _; unfold letterB; first | (apply decide_eq_true; omega) | (apply decide_eq_false; omega)
    have q945 : 945 ≤ r := by omega
    have z97 : 97 ≤ r := by omega
    have y122 : ¬ r ≤ 122 := by omega
    have z945 : 945 ≤ r := by omega
    have y969 : r ≤ 969 := by omega
    have t228 : ((r : Int) == 228) = false := by rw [beq_eq_false_iff_ne]; omega
    have t246 : ((r : Int) == 246) = false := by rw [beq_eq_false_iff_ne]; omega
    have t252 : ((r : Int) == 252) = false := by rw [beq_eq_false_iff_ne]; omega
    have t223 : ((r : Int) == 223) = false := by rw [beq_eq_false_iff_ne]; omega
    go_enter Tryd.func25, Tryd.ntmps25
    go_wp2
    go_ret
    exact ⟨by rw [HX.out]; first | rfl | exact congrArg (fun v => Ending.returned (Value.bool v)) (by first | rfl | (apply decide_eq_true; omega) | (apply decide_eq_false; omega) | (simp; omega)), rfl⟩
  have HX : Hid (letterB r = false) := by show _ = _; unfold letterB; first | (apply decide_eq_true; omega) | (apply decide_eq_false; omega)
  have q970 : 970 ≤ r := by omega
  have z97 : 97 ≤ r := by omega
  have y122 : ¬ r ≤ 122 := by omega
  have z945 : 945 ≤ r := by omega
  have y969 : ¬ r ≤ 969 := by omega
  have t228 : ((r : Int) == 228) = false := by rw [beq_eq_false_iff_ne]; omega
  have t246 : ((r : Int) == 246) = false := by rw [beq_eq_false_iff_ne]; omega
  have t252 : ((r : Int) == 252) = false := by rw [beq_eq_false_iff_ne]; omega
  have t223 : ((r : Int) == 223) = false := by rw [beq_eq_false_iff_ne]; omega
  go_enter Tryd.func25, Tryd.ntmps25
  go_wp2
  go_ret
  exact ⟨by rw [HX.out]; first | rfl | exact congrArg (fun v => Ending.returned (Value.bool v)) (by first | rfl | (apply decide_eq_true; omega) | (apply decide_eq_false; omega) | (simp; omega)), rfl⟩
set_option maxRecDepth 100000 in
theorem rletter_any (r : Nat) (w : World) (hr : r < 1114112) : Calls Tryd.prog 27 #[.int .i64 r] w fun e w' => e = .returned (.bool (letterB r)) ∧ w' = w := by
  by_cases c228 : r = 228
  · subst c228
    have HX : Hid (letterB 228 = true) := by show _ = _; decide
    go_enter Tryd.func27, Tryd.ntmps27
    go_wp2
    go_ret
    exact ⟨by rw [HX.out]; first | rfl | exact congrArg (fun v => Ending.returned (Value.bool v)) (by first | rfl | (apply decide_eq_true; omega) | (apply decide_eq_false; omega) | (simp; omega)), rfl⟩
  by_cases c246 : r = 246
  · subst c246
    have HX : Hid (letterB 246 = true) := by show _ = _; decide
    go_enter Tryd.func27, Tryd.ntmps27
    go_wp2
    go_ret
    exact ⟨by rw [HX.out]; first | rfl | exact congrArg (fun v => Ending.returned (Value.bool v)) (by first | rfl | (apply decide_eq_true; omega) | (apply decide_eq_false; omega) | (simp; omega)), rfl⟩
  by_cases c252 : r = 252
  · subst c252
    have HX : Hid (letterB 252 = true) := by show _ = _; decide
    go_enter Tryd.func27, Tryd.ntmps27
    go_wp2
    go_ret
    exact ⟨by rw [HX.out]; first | rfl | exact congrArg (fun v => Ending.returned (Value.bool v)) (by first | rfl | (apply decide_eq_true; omega) | (apply decide_eq_false; omega) | (simp; omega)), rfl⟩
  by_cases c223 : r = 223
  · subst c223
    have HX : Hid (letterB 223 = true) := by show _ = _; decide
    go_enter Tryd.func27, Tryd.ntmps27
    go_wp2
    go_ret
    exact ⟨by rw [HX.out]; first | rfl | exact congrArg (fun v => Ending.returned (Value.bool v)) (by first | rfl | (apply decide_eq_true; omega) | (apply decide_eq_false; omega) | (simp; omega)), rfl⟩
  by_cases p97 : r < 97
  · have HX : Hid (letterB r = false) := by show _ = _; unfold letterB; first | (apply decide_eq_true; omega) | (apply decide_eq_false; omega)
    have q0 : 0 ≤ r := by omega
    have z97 : ¬ 97 ≤ r := by omega
    have y122 : r ≤ 122 := by omega
    have z945 : ¬ 945 ≤ r := by omega
    have y969 : r ≤ 969 := by omega
    have t228 : ((r : Int) == 228) = false := by rw [beq_eq_false_iff_ne]; omega
    have t246 : ((r : Int) == 246) = false := by rw [beq_eq_false_iff_ne]; omega
    have t252 : ((r : Int) == 252) = false := by rw [beq_eq_false_iff_ne]; omega
    have t223 : ((r : Int) == 223) = false := by rw [beq_eq_false_iff_ne]; omega
    go_enter Tryd.func27, Tryd.ntmps27
    go_wp2
    go_ret
    exact ⟨by rw [HX.out]; first | rfl | exact congrArg (fun v => Ending.returned (Value.bool v)) (by first | rfl | (apply decide_eq_true; omega) | (apply decide_eq_false; omega) | (simp; omega)), rfl⟩
  by_cases p123 : r < 123
  · have HX : Hid (letterB r = true) := by show _ = _; unfold letterB; first | (apply decide_eq_true; omega) | (apply decide_eq_false; omega)
    have q97 : 97 ≤ r := by omega
    have z97 : 97 ≤ r := by omega
    have y122 : r ≤ 122 := by omega
    have z945 : ¬ 945 ≤ r := by omega
    have y969 : r ≤ 969 := by omega
    have t228 : ((r : Int) == 228) = false := by rw [beq_eq_false_iff_ne]; omega
    have t246 : ((r : Int) == 246) = false := by rw [beq_eq_false_iff_ne]; omega
    have t252 : ((r : Int) == 252) = false := by rw [beq_eq_false_iff_ne]; omega
    have t223 : ((r : Int) == 223) = false := by rw [beq_eq_false_iff_ne]; omega
    go_enter Tryd.func27, Tryd.ntmps27
    go_wp2
    go_ret
    exact ⟨by rw [HX.out]; first | rfl | exact congrArg (fun v => Ending.returned (Value.bool v)) (by first | rfl | (apply decide_eq_true; omega) | (apply decide_eq_false; omega) | (simp; omega)), rfl⟩
  by_cases p945 : r < 945
  · have HX : Hid (letterB r = false) := by show _ = _; unfold letterB; first | (apply decide_eq_true; omega) | (apply decide_eq_false; omega)
    have q123 : 123 ≤ r := by omega
    have z97 : 97 ≤ r := by omega
    have y122 : ¬ r ≤ 122 := by omega
    have z945 : ¬ 945 ≤ r := by omega
    have y969 : r ≤ 969 := by omega
    have t228 : ((r : Int) == 228) = false := by rw [beq_eq_false_iff_ne]; omega
    have t246 : ((r : Int) == 246) = false := by rw [beq_eq_false_iff_ne]; omega
    have t252 : ((r : Int) == 252) = false := by rw [beq_eq_false_iff_ne]; omega
    have t223 : ((r : Int) == 223) = false := by rw [beq_eq_false_iff_ne]; omega
    go_enter Tryd.func27, Tryd.ntmps27
    go_wp2
    go_ret
    exact ⟨by rw [HX.out]; first | rfl | exact congrArg (fun v => Ending.returned (Value.bool v)) (by first | rfl | (apply decide_eq_true; omega) | (apply decide_eq_false; omega) | (simp; omega)), rfl⟩
  by_cases p970 : r < 970
  · have HX : Hid (letterB r = true) := by show _ = _; unfold letterB; first | (apply decide_eq_true; omega) | (apply decide_eq_false; omega)
    have q945 : 945 ≤ r := by omega
    have z97 : 97 ≤ r := by omega
    have y122 : ¬ r ≤ 122 := by omega
    have z945 : 945 ≤ r := by omega
    have y969 : r ≤ 969 := by omega
    have t228 : ((r : Int) == 228) = false := by rw [beq_eq_false_iff_ne]; omega
    have t246 : ((r : Int) == 246) = false := by rw [beq_eq_false_iff_ne]; omega
    have t252 : ((r : Int) == 252) = false := by rw [beq_eq_false_iff_ne]; omega
    have t223 : ((r : Int) == 223) = false := by rw [beq_eq_false_iff_ne]; omega
    go_enter Tryd.func27, Tryd.ntmps27
    go_wp2
    go_ret
    exact ⟨by rw [HX.out]; first | rfl | exact congrArg (fun v => Ending.returned (Value.bool v)) (by first | rfl | (apply decide_eq_true; omega) | (apply decide_eq_false; omega) | (simp; omega)), rfl⟩
  have HX : Hid (letterB r = false) := by show _ = _; unfold letterB; first | (apply decide_eq_true; omega) | (apply decide_eq_false; omega)
  have q970 : 970 ≤ r := by omega
  have z97 : 97 ≤ r := by omega
  have y122 : ¬ r ≤ 122 := by omega
  have z945 : 945 ≤ r := by omega
  have y969 : ¬ r ≤ 969 := by omega
  have t228 : ((r : Int) == 228) = false := by rw [beq_eq_false_iff_ne]; omega
  have t246 : ((r : Int) == 246) = false := by rw [beq_eq_false_iff_ne]; omega
  have t252 : ((r : Int) == 252) = false := by rw [beq_eq_false_iff_ne]; omega
  have t223 : ((r : Int) == 223) = false := by rw [beq_eq_false_iff_ne]; omega
  go_enter Tryd.func27, Tryd.ntmps27
  go_wp2
  go_ret
  exact ⟨by rw [HX.out]; first | rfl | exact congrArg (fun v => Ending.returned (Value.bool v)) (by first | rfl | (apply decide_eq_true; omega) | (apply decide_eq_false; omega) | (simp; omega)), rfl⟩
set_option maxRecDepth 100000 in
theorem blank_any (r : Nat) (w : World) (hr : r < 1114112) : Calls Tryd.prog 32 #[.int .i32 r] w fun e w' => e = .returned (.bool (blankB r)) ∧ w' = w := by
  by_cases c9 : r = 9
  · subst c9
    have HX : Hid (blankB 9 = true) := by show _ = _; decide
    go_enter Tryd.func32, Tryd.ntmps32
    go_wp2
    go_ret
    exact ⟨by rw [HX.out]; first | rfl | exact congrArg (fun v => Ending.returned (Value.bool v)) (by first | rfl | (apply decide_eq_true; omega) | (apply decide_eq_false; omega) | (simp; omega)), rfl⟩
  by_cases c32 : r = 32
  · subst c32
    have HX : Hid (blankB 32 = true) := by show _ = _; decide
    go_enter Tryd.func32, Tryd.ntmps32
    go_wp2
    go_ret
    exact ⟨by rw [HX.out]; first | rfl | exact congrArg (fun v => Ending.returned (Value.bool v)) (by first | rfl | (apply decide_eq_true; omega) | (apply decide_eq_false; omega) | (simp; omega)), rfl⟩
  by_cases c160 : r = 160
  · subst c160
    have HX : Hid (blankB 160 = true) := by show _ = _; decide
    go_enter Tryd.func32, Tryd.ntmps32
    go_wp2
    go_ret
    exact ⟨by rw [HX.out]; first | rfl | exact congrArg (fun v => Ending.returned (Value.bool v)) (by first | rfl | (apply decide_eq_true; omega) | (apply decide_eq_false; omega) | (simp; omega)), rfl⟩
  by_cases c8195 : r = 8195
  · subst c8195
    have HX : Hid (blankB 8195 = true) := by show _ = _; decide
    go_enter Tryd.func32, Tryd.ntmps32
    go_wp2
    go_ret
    exact ⟨by rw [HX.out]; first | rfl | exact congrArg (fun v => Ending.returned (Value.bool v)) (by first | rfl | (apply decide_eq_true; omega) | (apply decide_eq_false; omega) | (simp; omega)), rfl⟩
  have HX : Hid (blankB r = false) := by show _ = _; unfold blankB; first | (apply decide_eq_true; omega) | (apply decide_eq_false; omega)
  have q0 : 0 ≤ r := by omega
  have t9 : ((r : Int) == 9) = false := by rw [beq_eq_false_iff_ne]; omega
  have t32 : ((r : Int) == 32) = false := by rw [beq_eq_false_iff_ne]; omega
  have t160 : ((r : Int) == 160) = false := by rw [beq_eq_false_iff_ne]; omega
  have t8195 : ((r : Int) == 8195) = false := by rw [beq_eq_false_iff_ne]; omega
  go_enter Tryd.func32, Tryd.ntmps32
  go_wp2
  go_ret
  exact ⟨by rw [HX.out]; first | rfl | exact congrArg (fun v => Ending.returned (Value.bool v)) (by first | rfl | (apply decide_eq_true; omega) | (apply decide_eq_false; omega) | (simp; omega)), rfl⟩
set_option maxRecDepth 100000 in
theorem small_any (r : Nat) (w : World) (hr : r < 1114112) : Calls Tryd.prog 30 #[.int .i64 r] w fun e w' => e = .returned (.int .i64 (smallN r)) ∧ w' = w := by
  by_cases c196 : r = 196
  · subst c196
    have HX : Hid (smallN 196 = 228) := by show _ = _; decide
    go_enter Tryd.func30, Tryd.ntmps30
    go_wp2
    go_ret
    exact ⟨by rw [HX.out]; first | rfl | exact congrArg (fun v => Ending.returned (Value.bool v)) (by first | rfl | (apply decide_eq_true; omega) | (apply decide_eq_false; omega) | (simp; omega)), rfl⟩
  by_cases c214 : r = 214
  · subst c214
    have HX : Hid (smallN 214 = 246) := by show _ = _; decide
    go_enter Tryd.func30, Tryd.ntmps30
    go_wp2
    go_ret
    exact ⟨by rw [HX.out]; first | rfl | exact congrArg (fun v => Ending.returned (Value.bool v)) (by first | rfl | (apply decide_eq_true; omega) | (apply decide_eq_false; omega) | (simp; omega)), rfl⟩
  by_cases c220 : r = 220
  · subst c220
    have HX : Hid (smallN 220 = 252) := by show _ = _; decide
    go_enter Tryd.func30, Tryd.ntmps30
    go_wp2
    go_ret
    exact ⟨by rw [HX.out]; first | rfl | exact congrArg (fun v => Ending.returned (Value.bool v)) (by first | rfl | (apply decide_eq_true; omega) | (apply decide_eq_false; omega) | (simp; omega)), rfl⟩
  by_cases p65 : r < 65
  · have HX : Hid (smallN r = r) := by show _ = _; unfold smallN; first | (rw [if_pos (by omega)]) | (rw [if_neg (by omega)])
    have q0 : 0 ≤ r := by omega
    have z65 : ¬ 65 ≤ r := by omega
    have y90 : r ≤ 90 := by omega
    have z913 : ¬ 913 ≤ r := by omega
    have y937 : r ≤ 937 := by omega
    have t196 : ((r : Int) == 196) = false := by rw [beq_eq_false_iff_ne]; omega
    have t214 : ((r : Int) == 214) = false := by rw [beq_eq_false_iff_ne]; omega
    have t220 : ((r : Int) == 220) = false := by rw [beq_eq_false_iff_ne]; omega
    go_enter Tryd.func30, Tryd.ntmps30
    go_wp2
    go_ret
    exact ⟨by rw [HX.out]; first | rfl | exact congrArg (fun v => Ending.returned (Value.bool v)) (by first | rfl | (apply decide_eq_true; omega) | (apply decide_eq_false; omega) | (simp; omega)), rfl⟩
  by_cases p91 : r < 91
  · have HX : Hid (smallN r = r + 32) := by show _ = _; unfold smallN; first | (rw [if_pos (by omega)]) | (rw [if_neg (by omega)])
    have q65 : 65 ≤ r := by omega
    have z65 : 65 ≤ r := by omega
    have y90 : r ≤ 90 := by omega
    have z913 : ¬ 913 ≤ r := by omega
    have y937 : r ≤ 937 := by omega
    have s32 : IntKind.i64.wrap ((r : Int) + 32) = ((r + 32 : Nat) : Int) := by rw [IntWalk.i64_in _ (by omega)]; omega
    have t196 : ((r : Int) == 196) = false := by rw [beq_eq_false_iff_ne]; omega
    have t214 : ((r : Int) == 214) = false := by rw [beq_eq_false_iff_ne]; omega
    have t220 : ((r : Int) == 220) = false := by rw [beq_eq_false_iff_ne]; omega
    go_enter Tryd.func30, Tryd.ntmps30
    go_wp2
    go_ret
    exact ⟨by rw [HX.out]; first | rfl | exact congrArg (fun v => Ending.returned (Value.bool v)) (by first | rfl | (apply decide_eq_true; omega) | (apply decide_eq_false; omega) | (simp; omega)), rfl⟩
  by_cases p913 : r < 913
  · have HX : Hid (smallN r = r) := by show _ = _; unfold smallN; first | (rw [if_pos (by omega)]) | (rw [if_neg (by omega)])
    have q91 : 91 ≤ r := by omega
    have z65 : 65 ≤ r := by omega
    have y90 : ¬ r ≤ 90 := by omega
    have z913 : ¬ 913 ≤ r := by omega
    have y937 : r ≤ 937 := by omega
    have t196 : ((r : Int) == 196) = false := by rw [beq_eq_false_iff_ne]; omega
    have t214 : ((r : Int) == 214) = false := by rw [beq_eq_false_iff_ne]; omega
    have t220 : ((r : Int) == 220) = false := by rw [beq_eq_false_iff_ne]; omega
    go_enter Tryd.func30, Tryd.ntmps30
    go_wp2
    go_ret
    exact ⟨by rw [HX.out]; first | rfl | exact congrArg (fun v => Ending.returned (Value.bool v)) (by first | rfl | (apply decide_eq_true; omega) | (apply decide_eq_false; omega) | (simp; omega)), rfl⟩
  by_cases p938 : r < 938
  · by_cases n930 : r = 930
    · subst n930
      have HX : Hid (smallN 930 = 930) := by show _ = _; decide
      go_enter Tryd.func30, Tryd.ntmps30
      go_wp2
      go_ret
      exact ⟨by rw [HX.out]; first | rfl | exact congrArg (fun v => Ending.returned (Value.bool v)) (by first | rfl | (apply decide_eq_true; omega) | (apply decide_eq_false; omega) | (simp; omega)), rfl⟩
    · have HX : Hid (smallN r = r + 32) := by show _ = _; unfold smallN; first | (rw [if_pos (by omega)]) | (rw [if_neg (by omega)])
      have q913 : 913 ≤ r := by omega
      have z65 : 65 ≤ r := by omega
      have y90 : ¬ r ≤ 90 := by omega
      have z913 : 913 ≤ r := by omega
      have y937 : r ≤ 937 := by omega
      have t196 : ((r : Int) == 196) = false := by rw [beq_eq_false_iff_ne]; omega
      have t214 : ((r : Int) == 214) = false := by rw [beq_eq_false_iff_ne]; omega
      have t220 : ((r : Int) == 220) = false := by rw [beq_eq_false_iff_ne]; omega
      have t930 : ((r : Int) != 930) = true := by rw [bne_iff_ne]; omega
      have s930 : IntKind.i64.wrap ((r : Int) + 32) = ((r + 32 : Nat) : Int) := by rw [IntWalk.i64_in _ (by omega)]; omega
      go_enter Tryd.func30, Tryd.ntmps30
      go_wp2
      go_ret
      exact ⟨by rw [HX.out]; first | rfl | exact congrArg (fun v => Ending.returned (Value.bool v)) (by first | rfl | (apply decide_eq_true; omega) | (apply decide_eq_false; omega) | (simp; omega)), rfl⟩
  have HX : Hid (smallN r = r) := by show _ = _; unfold smallN; first | (rw [if_pos (by omega)]) | (rw [if_neg (by omega)])
  have q938 : 938 ≤ r := by omega
  have z65 : 65 ≤ r := by omega
  have y90 : ¬ r ≤ 90 := by omega
  have z913 : 913 ≤ r := by omega
  have y937 : ¬ r ≤ 937 := by omega
  have t196 : ((r : Int) == 196) = false := by rw [beq_eq_false_iff_ne]; omega
  have t214 : ((r : Int) == 214) = false := by rw [beq_eq_false_iff_ne]; omega
  have t220 : ((r : Int) == 220) = false := by rw [beq_eq_false_iff_ne]; omega
  go_enter Tryd.func30, Tryd.ntmps30
  go_wp2
  go_ret
  exact ⟨by rw [HX.out]; first | rfl | exact congrArg (fun v => Ending.returned (Value.bool v)) (by first | rfl | (apply decide_eq_true; omega) | (apply decide_eq_false; omega) | (simp; omega)), rfl⟩
end Go.Proofs.YtipbjcchhgbabaaDoor
