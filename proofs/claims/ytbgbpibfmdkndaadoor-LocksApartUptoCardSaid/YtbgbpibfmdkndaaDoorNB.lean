/- The small functions of package name and of the document's. -/
import Derived.Test.YtbgbpibfmdkndaaDoorCom
import Derived.Test.YtbgbpibfmdkndaaDoorNA
set_option linter.unusedVariables false
set_option linter.unusedSimpArgs false
namespace Go.Proofs.YtbgbpibfmdkndaaDoor
open Go.RowKit Go.ChangeShapes Go.WideShapes Go.ChangeAt
set_option maxRecDepth 100000 in
theorem long_any (b : Nat) (w : World) (hb : b < 256) : Calls Tryd.prog 42 #[.int .i64 b] w fun e w' => e = .returned (.int .i64 (NM.long b)) ∧ w' = w := by
  by_cases h1 : b < 128
  · have HL := Lib.hid (NM.long_1 h1)
    go_enter Tryd.func42, Tryd.ntmps42
    go_wp2
    go_ret
    exact ⟨by rw [HL.out]; rfl, rfl⟩
  by_cases h2 : 194 ≤ b ∧ b ≤ 223
  · have HL := Lib.hid (NM.long_2 h2)
    obtain ⟨h2a, h2b⟩ := h2
    go_enter Tryd.func42, Tryd.ntmps42
    go_wp2
    go_ret
    exact ⟨by rw [HL.out]; rfl, rfl⟩
  by_cases h3 : 224 ≤ b ∧ b ≤ 239
  · have HL := Lib.hid (NM.long_3 h3)
    obtain ⟨h3a, h3b⟩ := h3
    clear h2
    have h2b : ¬ b ≤ 223 := by omega
    go_enter Tryd.func42, Tryd.ntmps42
    go_wp2
    go_ret
    exact ⟨by rw [HL.out]; rfl, rfl⟩
  by_cases h4 : 240 ≤ b ∧ b ≤ 244
  · have HL := Lib.hid (NM.long_4 h4)
    obtain ⟨h4a, h4b⟩ := h4
    clear h2 h3
    have h2b : ¬ b ≤ 223 := by omega
    have h3b : ¬ b ≤ 239 := by omega
    go_enter Tryd.func42, Tryd.ntmps42
    go_wp2
    go_ret
    exact ⟨by rw [HL.out]; rfl, rfl⟩
  by_cases h5 : b < 194
  · have HL := Lib.hid (NM.long_0 (a := b) (.inl ⟨by omega, h5⟩))
    clear h2 h3 h4
    have h6 : b < 224 := by omega
    have h7 : b < 240 := by omega
    go_enter Tryd.func42, Tryd.ntmps42
    go_wp2
    go_ret
    exact ⟨by rw [HL.out]; rfl, rfl⟩
  · have HL := Lib.hid (NM.long_0 (a := b) (.inr (by omega)))
    have h6 : 245 ≤ b := by omega
    clear h2 h3 h4 h5
    go_enter Tryd.func42, Tryd.ntmps42
    go_wp2
    go_ret
    exact ⟨by rw [HL.out]; rfl, rfl⟩
theorem second_any (f b : Nat) (w : World) (hf : f < 256) (hb : b < 256) : Calls Tryd.prog 43 #[.int .i64 f, .int .i64 b] w fun e w' => e = .returned (.bool (NM.second f b)) ∧ w' = w := by
  obtain ⟨x, hx⟩ : ∃ x, NM.second f b = x := ⟨_, rfl⟩
  rw [hx]
  by_cases f224 : f = 224
  · subst f224
    by_cases g1 : 160 ≤ b
    · by_cases g2 : b ≤ 191
      · have HX : Hid (x = true) := by show x = true; rw [← hx]; unfold NM.second; simp <;> omega
        clear hx
        go_enter Tryd.func43, Tryd.ntmps43
        go_wp2
        go_ret
        exact ⟨by rw [HX.out]; exact congrArg (fun v => Ending.returned (Value.bool v)) (by first | rfl | (apply decide_eq_true; omega) | (apply decide_eq_false; omega)), rfl⟩
      · have HX : Hid (x = false) := by show x = false; rw [← hx]; unfold NM.second; simp <;> omega
        clear hx
        go_enter Tryd.func43, Tryd.ntmps43
        go_wp2
        go_ret
        exact ⟨by rw [HX.out]; exact congrArg (fun v => Ending.returned (Value.bool v)) (by first | rfl | (apply decide_eq_true; omega) | (apply decide_eq_false; omega)), rfl⟩
    · have HX : Hid (x = false) := by show x = false; rw [← hx]; unfold NM.second; simp <;> omega
      clear hx
      go_enter Tryd.func43, Tryd.ntmps43
      go_wp2
      go_ret
      exact ⟨by rw [HX.out]; exact congrArg (fun v => Ending.returned (Value.bool v)) (by first | rfl | (apply decide_eq_true; omega) | (apply decide_eq_false; omega)), rfl⟩
  by_cases f237 : f = 237
  · subst f237
    by_cases g1 : 128 ≤ b
    · by_cases g2 : b ≤ 159
      · have HX : Hid (x = true) := by show x = true; rw [← hx]; unfold NM.second; simp <;> omega
        clear hx
        go_enter Tryd.func43, Tryd.ntmps43
        go_wp2
        go_ret
        exact ⟨by rw [HX.out]; exact congrArg (fun v => Ending.returned (Value.bool v)) (by first | rfl | (apply decide_eq_true; omega) | (apply decide_eq_false; omega)), rfl⟩
      · have HX : Hid (x = false) := by show x = false; rw [← hx]; unfold NM.second; simp <;> omega
        clear hx
        go_enter Tryd.func43, Tryd.ntmps43
        go_wp2
        go_ret
        exact ⟨by rw [HX.out]; exact congrArg (fun v => Ending.returned (Value.bool v)) (by first | rfl | (apply decide_eq_true; omega) | (apply decide_eq_false; omega)), rfl⟩
    · have HX : Hid (x = false) := by show x = false; rw [← hx]; unfold NM.second; simp <;> omega
      clear hx
      go_enter Tryd.func43, Tryd.ntmps43
      go_wp2
      go_ret
      exact ⟨by rw [HX.out]; exact congrArg (fun v => Ending.returned (Value.bool v)) (by first | rfl | (apply decide_eq_true; omega) | (apply decide_eq_false; omega)), rfl⟩
  by_cases f240 : f = 240
  · subst f240
    by_cases g1 : 144 ≤ b
    · by_cases g2 : b ≤ 191
      · have HX : Hid (x = true) := by show x = true; rw [← hx]; unfold NM.second; simp <;> omega
        clear hx
        go_enter Tryd.func43, Tryd.ntmps43
        go_wp2
        go_ret
        exact ⟨by rw [HX.out]; exact congrArg (fun v => Ending.returned (Value.bool v)) (by first | rfl | (apply decide_eq_true; omega) | (apply decide_eq_false; omega)), rfl⟩
      · have HX : Hid (x = false) := by show x = false; rw [← hx]; unfold NM.second; simp <;> omega
        clear hx
        go_enter Tryd.func43, Tryd.ntmps43
        go_wp2
        go_ret
        exact ⟨by rw [HX.out]; exact congrArg (fun v => Ending.returned (Value.bool v)) (by first | rfl | (apply decide_eq_true; omega) | (apply decide_eq_false; omega)), rfl⟩
    · have HX : Hid (x = false) := by show x = false; rw [← hx]; unfold NM.second; simp <;> omega
      clear hx
      go_enter Tryd.func43, Tryd.ntmps43
      go_wp2
      go_ret
      exact ⟨by rw [HX.out]; exact congrArg (fun v => Ending.returned (Value.bool v)) (by first | rfl | (apply decide_eq_true; omega) | (apply decide_eq_false; omega)), rfl⟩
  by_cases f244 : f = 244
  · subst f244
    by_cases g1 : 128 ≤ b
    · by_cases g2 : b ≤ 143
      · have HX : Hid (x = true) := by show x = true; rw [← hx]; unfold NM.second; simp <;> omega
        clear hx
        go_enter Tryd.func43, Tryd.ntmps43
        go_wp2
        go_ret
        exact ⟨by rw [HX.out]; exact congrArg (fun v => Ending.returned (Value.bool v)) (by first | rfl | (apply decide_eq_true; omega) | (apply decide_eq_false; omega)), rfl⟩
      · have HX : Hid (x = false) := by show x = false; rw [← hx]; unfold NM.second; simp <;> omega
        clear hx
        go_enter Tryd.func43, Tryd.ntmps43
        go_wp2
        go_ret
        exact ⟨by rw [HX.out]; exact congrArg (fun v => Ending.returned (Value.bool v)) (by first | rfl | (apply decide_eq_true; omega) | (apply decide_eq_false; omega)), rfl⟩
    · have HX : Hid (x = false) := by show x = false; rw [← hx]; unfold NM.second; simp <;> omega
      clear hx
      go_enter Tryd.func43, Tryd.ntmps43
      go_wp2
      go_ret
      exact ⟨by rw [HX.out]; exact congrArg (fun v => Ending.returned (Value.bool v)) (by first | rfl | (apply decide_eq_true; omega) | (apply decide_eq_false; omega)), rfl⟩
  by_cases g1 : 128 ≤ b
  · by_cases g2 : b ≤ 191
    · have HX : Hid (x = true) := by show x = true; rw [← hx]; unfold NM.second; rw [if_neg f224, if_neg f237, if_neg f240, if_neg f244]; simp <;> omega
      clear hx
      go_enter Tryd.func43, Tryd.ntmps43
      go_wp2
      go_ret
      exact ⟨by rw [HX.out]; exact congrArg (fun v => Ending.returned (Value.bool v)) (by first | rfl | (apply decide_eq_true; omega) | (apply decide_eq_false; omega)), rfl⟩
    · have HX : Hid (x = false) := by show x = false; rw [← hx]; unfold NM.second; rw [if_neg f224, if_neg f237, if_neg f240, if_neg f244]; simp <;> omega
      clear hx
      go_enter Tryd.func43, Tryd.ntmps43
      go_wp2
      go_ret
      exact ⟨by rw [HX.out]; exact congrArg (fun v => Ending.returned (Value.bool v)) (by first | rfl | (apply decide_eq_true; omega) | (apply decide_eq_false; omega)), rfl⟩
  · have HX : Hid (x = false) := by show x = false; rw [← hx]; unfold NM.second; rw [if_neg f224, if_neg f237, if_neg f240, if_neg f244]; simp <;> omega
    clear hx
    go_enter Tryd.func43, Tryd.ntmps43
    go_wp2
    go_ret
    exact ⟨by rw [HX.out]; exact congrArg (fun v => Ending.returned (Value.bool v)) (by first | rfl | (apply decide_eq_true; omega) | (apply decide_eq_false; omega)), rfl⟩
end Go.Proofs.YtbgbpibfmdkndaaDoor
