import GoSem.Core.Utf8
import Derived.Test.YtpmoanjeoaeabaaDoorA1
section
/- The document's reading of a rune, in plain numbers, and that it is the model's. -/
set_option linter.unusedVariables false
set_option linter.unusedSimpArgs false
namespace Go.Proofs.YtpmoanjeoaeabaaDoor.NM
/-- how many bytes the rune has that begins with a byte -/
def long (b : Nat) : Nat := if b < 128 then 1 else if 194 ≤ b ∧ b ≤ 223 then 2 else if 224 ≤ b ∧ b ≤ 239 then 3 else if 240 ≤ b ∧ b ≤ 244 then 4 else 0
/-- may a byte be the second one -/
def second (f b : Nat) : Bool := if f = 224 then decide (160 ≤ b ∧ b ≤ 191) else if f = 237 then decide (128 ≤ b ∧ b ≤ 159) else if f = 240 then decide (144 ≤ b ∧ b ≤ 191) else if f = 244 then decide (128 ≤ b ∧ b ≤ 143) else decide (128 ≤ b ∧ b ≤ 191)
def cont (b : Nat) : Bool := decide (128 ≤ b ∧ b ≤ 191)
/-- the byte at a place -/
def byteAt (s : ByteArray) (i : Nat) : Nat := (s.get! i).toNat
theorem byte_lt (s : ByteArray) (i : Nat) : byteAt s i < 256 := (s.get! i).toNat_lt
/-- the document's rune at a place: its number, its bytes, whether one begins there -/
def next (s : ByteArray) (at_ : Nat) : Nat × Nat × Bool :=
  let b (k : Nat) := byteAt s (at_ + k)
  if long (b 0) = 0 ∨ s.size - at_ < long (b 0) then (65533, 1, false)
  else if long (b 0) = 1 then (b 0, 1, true)
  else if long (b 0) = 2 then
    if cont (b 1) && second (b 0) (b 1) then (b 0 % 32 * 64 + b 1 % 64, 2, true) else (65533, 1, false)
  else if long (b 0) = 3 then
    if cont (b 1) && second (b 0) (b 1) && cont (b 2) then ((b 0 % 16 * 64 + b 1 % 64) * 64 + b 2 % 64, 3, true) else (65533, 1, false)
  else
    if cont (b 1) && second (b 0) (b 1) && cont (b 2) && cont (b 3) then (((b 0 % 8 * 64 + b 1 % 64) * 64 + b 2 % 64) * 64 + b 3 % 64, 4, true) else (65533, 1, false)
theorem long_1 {a : Nat} (h : a < 128) : long a = 1 := by unfold long; rw [if_pos h]
theorem long_2 {a : Nat} (h : 194 ≤ a ∧ a ≤ 223) : long a = 2 := by unfold long; rw [if_neg (by omega), if_pos h]
theorem long_3 {a : Nat} (h : 224 ≤ a ∧ a ≤ 239) : long a = 3 := by unfold long; rw [if_neg (by omega), if_neg (by omega), if_pos h]
theorem long_4 {a : Nat} (h : 240 ≤ a ∧ a ≤ 244) : long a = 4 := by unfold long; rw [if_neg (by omega), if_neg (by omega), if_neg (by omega), if_pos h]
theorem long_0 {a : Nat} (h : 128 ≤ a ∧ a < 194 ∨ 245 ≤ a) : long a = 0 := by unfold long; rw [if_neg (by omega), if_neg (by omega), if_neg (by omega), if_neg (by omega)]
theorem cont_iff (b : Nat) (h : b < 256) : (b / 64 == 2) = cont b := by
  unfold cont
  by_cases hb : 128 ≤ b ∧ b ≤ 191
  · rw [decide_eq_true hb, beq_iff_eq]; omega
  · rw [decide_eq_false hb, beq_eq_false_iff_ne]; omega
/-- the model's reading, in plain numbers -/
def decN (a b c d left : Nat) : Nat × Nat :=
  if a < 128 then (a, 1)
  else if a / 32 == 6 && (decide (1 < left) && cont b) then
    if a % 32 * 64 + b % 64 ≥ 128 then (a % 32 * 64 + b % 64, 2) else (65533, 1)
  else if a / 16 == 14 && (decide (1 < left) && cont b) && (decide (2 < left) && cont c) then
    if a % 16 * 4096 + b % 64 * 64 + c % 64 ≥ 2048 && Utf8.valid ((a % 16 * 4096 + b % 64 * 64 + c % 64 : Nat) : Int) then (a % 16 * 4096 + b % 64 * 64 + c % 64, 3) else (65533, 1)
  else if a / 8 == 30 && (decide (1 < left) && cont b) && (decide (2 < left) && cont c) && (decide (3 < left) && cont d) then
    if a % 8 * 262144 + b % 64 * 4096 + c % 64 * 64 + d % 64 ≥ 65536 && Utf8.valid ((a % 8 * 262144 + b % 64 * 4096 + c % 64 * 64 + d % 64 : Nat) : Int) then (a % 8 * 262144 + b % 64 * 4096 + c % 64 * 64 + d % 64, 4) else (65533, 1)
  else (65533, 1)
def nextN (a b c d left : Nat) : Nat × Nat × Bool :=
  if long a = 0 ∨ left < long a then (65533, 1, false)
  else if long a = 1 then (a, 1, true)
  else if long a = 2 then
    if cont b && second a b then (a % 32 * 64 + b % 64, 2, true) else (65533, 1, false)
  else if long a = 3 then
    if cont b && second a b && cont c then ((a % 16 * 64 + b % 64) * 64 + c % 64, 3, true) else (65533, 1, false)
  else
    if cont b && second a b && cont c && cont d then (((a % 8 * 64 + b % 64) * 64 + c % 64) * 64 + d % 64, 4, true) else (65533, 1, false)
theorem valid_iff (n : Nat) : Utf8.valid (n : Int) = decide (n < 55296 ∨ 57344 ≤ n ∧ n ≤ 1114111) := by
  unfold Utf8.valid
  by_cases h : n < 55296
  · rw [decide_eq_true (Or.inl h)]
    simp; omega
  · by_cases h2 : 57344 ≤ n ∧ n ≤ 1114111
    · rw [decide_eq_true (Or.inr h2)]
      simp; omega
    · rw [decide_eq_false (show ¬ (n < 55296 ∨ 57344 ≤ n ∧ n ≤ 1114111) by omega)]
      simp; omega
theorem fin3 (B C D V Q : Bool) (X : Nat) (y z : Nat × Nat) :
    ((if (B && (Q && V) && C) = true then (X, 3, true) else (65533, 1, false) : Nat × Nat × Bool).1, (if (B && (Q && V) && C) = true then (X, 3, true) else (65533, 1, false) : Nat × Nat × Bool).2.1) =
      (if (false && (true && B)) = true then y else if (true && (true && B) && (true && C)) = true then (if (Q && V) = true then (X, 3) else (65533, 1)) else if (false && (true && B) && (true && C) && D) = true then z else (65533, 1)) := by
  cases B <;> cases C <;> cases V <;> cases Q <;> simp
theorem fin4 (B C D V Q : Bool) (X : Nat) (y z : Nat × Nat) :
    ((if (B && (Q && V) && C && D) = true then (X, 4, true) else (65533, 1, false) : Nat × Nat × Bool).1, (if (B && (Q && V) && C && D) = true then (X, 4, true) else (65533, 1, false) : Nat × Nat × Bool).2.1) =
      (if (false && (true && B)) = true then y else if (false && (true && B) && (true && C)) = true then z else if (true && (true && B) && (true && C) && (true && D)) = true then (if (Q && V) = true then (X, 4) else (65533, 1)) else (65533, 1)) := by
  cases B <;> cases C <;> cases D <;> cases V <;> cases Q <;> simp
set_option maxRecDepth 100000 in
theorem next_dec (a b c d left : Nat) (ha : a < 256) (hb : b < 256) (hc : c < 256) (hd : d < 256) (hl : 1 ≤ left) : ((nextN a b c d left).1, (nextN a b c d left).2.1) = decN a b c d left := by
  have hcase : a < 128 ∨ (128 ≤ a ∧ a < 194 ∨ 245 ≤ a) ∨ (194 ≤ a ∧ a ≤ 223) ∨ (224 ≤ a ∧ a ≤ 239) ∨ (240 ≤ a ∧ a ≤ 244) := by omega
  rcases hcase with h | h | h | h | h
  · unfold nextN decN
    rw [long_1 h, if_neg (by omega), if_pos rfl, if_pos h]
  · unfold nextN decN
    rw [long_0 h, if_pos (Or.inl rfl), if_neg (by omega)]
    simp only
    by_cases h6 : a / 32 = 6
    · have : a % 32 * 64 + b % 64 < 128 := by omega
      have e1 : (a / 16 == 14) = false := by rw [beq_eq_false_iff_ne]; omega
      have e2 : (a / 8 == 30) = false := by rw [beq_eq_false_iff_ne]; omega
      rw [if_neg (show ¬ (a % 32 * 64 + b % 64 ≥ 128) by omega), e1, e2]
      simp
    · have e0 : (a / 32 == 6) = false := by rw [beq_eq_false_iff_ne]; exact h6
      have e1 : (a / 16 == 14) = false := by rw [beq_eq_false_iff_ne]; omega
      rw [e0, e1]
      simp only [Bool.false_and, if_false, Bool.false_eq_true]
      by_cases h8 : a / 8 = 30
      · have hv : Utf8.valid ((a % 8 * 262144 + b % 64 * 4096 + c % 64 * 64 + d % 64 : Nat) : Int) = false := by
          rw [valid_iff]; apply decide_eq_false; omega
        rw [hv]
        simp
      · have e2 : (a / 8 == 30) = false := by rw [beq_eq_false_iff_ne]; exact h8
        rw [e2]
        simp
  · unfold nextN decN
    have e0 : (a / 32 == 6) = true := by rw [beq_iff_eq]; omega
    have e1 : (a / 16 == 14) = false := by rw [beq_eq_false_iff_ne]; omega
    have e2 : (a / 8 == 30) = false := by rw [beq_eq_false_iff_ne]; omega
    have es : second a b = cont b := by unfold second cont; rw [if_neg (by omega), if_neg (by omega), if_neg (by omega), if_neg (by omega)]
    rw [long_2 h, e0, e1, e2, es, if_neg (show ¬ a < 128 by omega), if_pos (show a % 32 * 64 + b % 64 ≥ 128 by omega)]
    by_cases hle : left < 2
    · rw [if_pos (Or.inr hle), decide_eq_false (show ¬ 1 < left by omega)]; simp
    · rw [if_neg (by omega), if_neg (by decide), if_pos rfl, decide_eq_true (show 1 < left by omega)]
      cases cont b <;> simp
  · unfold nextN decN
    have e0 : (a / 32 == 6) = false := by rw [beq_eq_false_iff_ne]; omega
    have e1 : (a / 16 == 14) = true := by rw [beq_iff_eq]; omega
    have e2 : (a / 8 == 30) = false := by rw [beq_eq_false_iff_ne]; omega
    have es : (cont b && second a b) = (cont b && (decide (a % 16 * 4096 + b % 64 * 64 + c % 64 ≥ 2048) && Utf8.valid ((a % 16 * 4096 + b % 64 * 64 + c % 64 : Nat) : Int))) := by
      by_cases hcb : 128 ≤ b ∧ b ≤ 191
      · have : cont b = true := decide_eq_true hcb
        rw [this, Bool.true_and, Bool.true_and, valid_iff]
        rw [Bool.eq_iff_iff]
        simp only [Bool.and_eq_true, decide_eq_true_eq]
        unfold second
        repeat' split
        all_goals simp only [decide_eq_true_eq]
        all_goals omega
      · have : cont b = false := decide_eq_false hcb
        rw [this]; simp
    rw [long_3 h, e0, e1, e2, es, if_neg (show ¬ a < 128 by omega)]
    have ev : (a % 16 * 64 + b % 64) * 64 + c % 64 = a % 16 * 4096 + b % 64 * 64 + c % 64 := by omega
    rw [ev]
    by_cases hle : left < 3
    · rw [if_pos (Or.inr hle), decide_eq_false (show ¬ 2 < left by omega)]; simp
    · rw [if_neg (by omega), if_neg (by decide), if_neg (by decide), if_pos rfl, decide_eq_true (show 1 < left by omega), decide_eq_true (show 2 < left by omega)]
      exact fin3 _ _ _ _ _ _ _ _
  · unfold nextN decN
    have e0 : (a / 32 == 6) = false := by rw [beq_eq_false_iff_ne]; omega
    have e1 : (a / 16 == 14) = false := by rw [beq_eq_false_iff_ne]; omega
    have e2 : (a / 8 == 30) = true := by rw [beq_iff_eq]; omega
    have es : (cont b && second a b) = (cont b && (decide (a % 8 * 262144 + b % 64 * 4096 + c % 64 * 64 + d % 64 ≥ 65536) && Utf8.valid ((a % 8 * 262144 + b % 64 * 4096 + c % 64 * 64 + d % 64 : Nat) : Int))) := by
      by_cases hcb : 128 ≤ b ∧ b ≤ 191
      · have : cont b = true := decide_eq_true hcb
        rw [this, Bool.true_and, Bool.true_and, valid_iff]
        rw [Bool.eq_iff_iff]
        simp only [Bool.and_eq_true, decide_eq_true_eq]
        unfold second
        repeat' split
        all_goals simp only [decide_eq_true_eq]
        all_goals omega
      · have : cont b = false := decide_eq_false hcb
        rw [this]; simp
    rw [long_4 h, e0, e1, e2, es, if_neg (show ¬ a < 128 by omega)]
    have ev : ((a % 8 * 64 + b % 64) * 64 + c % 64) * 64 + d % 64 = a % 8 * 262144 + b % 64 * 4096 + c % 64 * 64 + d % 64 := by omega
    rw [ev]
    by_cases hle : left < 4
    · rw [if_pos (Or.inr hle), decide_eq_false (show ¬ 3 < left by omega)]; simp
    · rw [if_neg (by omega), if_neg (by decide), if_neg (by decide), if_neg (by decide), decide_eq_true (show 1 < left by omega), decide_eq_true (show 2 < left by omega), decide_eq_true (show 3 < left by omega)]
      exact fin4 _ _ _ _ _ _ _ _
theorem next_decode (s : ByteArray) (at_ : Nat) (h : at_ < s.size) : ((next s at_).1, (next s at_).2.1) = Utf8.decode s at_ := by
  have e := next_dec (byteAt s at_) (byteAt s (at_ + 1)) (byteAt s (at_ + 2)) (byteAt s (at_ + 3)) (s.size - at_) (byte_lt _ _) (byte_lt _ _) (byte_lt _ _) (byte_lt _ _) (by omega)
  have e1 : nextN (byteAt s at_) (byteAt s (at_ + 1)) (byteAt s (at_ + 2)) (byteAt s (at_ + 3)) (s.size - at_) = next s at_ := rfl
  rw [e1] at e
  rw [e]
  unfold decN Utf8.decode
  have c1 : ∀ k, decide (k < s.size - at_) = decide (at_ + k < s.size) := fun k => by rw [decide_eq_decide]; omega
  rw [← cont_iff _ (byte_lt s (at_ + 1)), ← cont_iff _ (byte_lt s (at_ + 2)), ← cont_iff _ (byte_lt s (at_ + 3)), c1, c1, c1]
  rfl
end Go.Proofs.YtpmoanjeoaeabaaDoor.NM
end

section
/- The small functions of package name and of the document's. -/
set_option linter.unusedVariables false
set_option linter.unusedSimpArgs false
namespace Go.Proofs.YtpmoanjeoaeabaaDoor
open Go.RowKit Go.ChangeShapes Go.WideShapes Go.ChangeAt
set_option maxRecDepth 100000 in
theorem long_any (b : Nat) (w : World) (hb : b < 256) : Calls Tryd.prog 94 #[.int .i64 b] w fun e w' => e = .returned (.int .i64 (NM.long b)) ∧ w' = w := by
  by_cases h1 : b < 128
  · have HL := Lib.hid (NM.long_1 h1)
    go_enter Tryd.func94, Tryd.ntmps94
    go_wp2
    go_ret
    exact ⟨by rw [HL.out]; rfl, rfl⟩
  by_cases h2 : 194 ≤ b ∧ b ≤ 223
  · have HL := Lib.hid (NM.long_2 h2)
    obtain ⟨h2a, h2b⟩ := h2
    go_enter Tryd.func94, Tryd.ntmps94
    go_wp2
    go_ret
    exact ⟨by rw [HL.out]; rfl, rfl⟩
  by_cases h3 : 224 ≤ b ∧ b ≤ 239
  · have HL := Lib.hid (NM.long_3 h3)
    obtain ⟨h3a, h3b⟩ := h3
    clear h2
    have h2b : ¬ b ≤ 223 := by omega
    go_enter Tryd.func94, Tryd.ntmps94
    go_wp2
    go_ret
    exact ⟨by rw [HL.out]; rfl, rfl⟩
  by_cases h4 : 240 ≤ b ∧ b ≤ 244
  · have HL := Lib.hid (NM.long_4 h4)
    obtain ⟨h4a, h4b⟩ := h4
    clear h2 h3
    have h2b : ¬ b ≤ 223 := by omega
    have h3b : ¬ b ≤ 239 := by omega
    go_enter Tryd.func94, Tryd.ntmps94
    go_wp2
    go_ret
    exact ⟨by rw [HL.out]; rfl, rfl⟩
  by_cases h5 : b < 194
  · have HL := Lib.hid (NM.long_0 (a := b) (.inl ⟨by omega, h5⟩))
    clear h2 h3 h4
    have h6 : b < 224 := by omega
    have h7 : b < 240 := by omega
    go_enter Tryd.func94, Tryd.ntmps94
    go_wp2
    go_ret
    exact ⟨by rw [HL.out]; rfl, rfl⟩
  · have HL := Lib.hid (NM.long_0 (a := b) (.inr (by omega)))
    have h6 : 245 ≤ b := by omega
    clear h2 h3 h4 h5
    go_enter Tryd.func94, Tryd.ntmps94
    go_wp2
    go_ret
    exact ⟨by rw [HL.out]; rfl, rfl⟩
theorem second_any (f b : Nat) (w : World) (hf : f < 256) (hb : b < 256) : Calls Tryd.prog 95 #[.int .i64 f, .int .i64 b] w fun e w' => e = .returned (.bool (NM.second f b)) ∧ w' = w := by
  obtain ⟨x, hx⟩ : ∃ x, NM.second f b = x := ⟨_, rfl⟩
  rw [hx]
  by_cases f224 : f = 224
  · subst f224
    by_cases g1 : 160 ≤ b
    · by_cases g2 : b ≤ 191
      · have HX : Hid (x = true) := by show x = true; rw [← hx]; unfold NM.second; simp <;> omega
        clear hx
        go_enter Tryd.func95, Tryd.ntmps95
        go_wp2
        go_ret
        exact ⟨by rw [HX.out]; exact congrArg (fun v => Ending.returned (Value.bool v)) (by first | rfl | (apply decide_eq_true; omega) | (apply decide_eq_false; omega)), rfl⟩
      · have HX : Hid (x = false) := by show x = false; rw [← hx]; unfold NM.second; simp <;> omega
        clear hx
        go_enter Tryd.func95, Tryd.ntmps95
        go_wp2
        go_ret
        exact ⟨by rw [HX.out]; exact congrArg (fun v => Ending.returned (Value.bool v)) (by first | rfl | (apply decide_eq_true; omega) | (apply decide_eq_false; omega)), rfl⟩
    · have HX : Hid (x = false) := by show x = false; rw [← hx]; unfold NM.second; simp <;> omega
      clear hx
      go_enter Tryd.func95, Tryd.ntmps95
      go_wp2
      go_ret
      exact ⟨by rw [HX.out]; exact congrArg (fun v => Ending.returned (Value.bool v)) (by first | rfl | (apply decide_eq_true; omega) | (apply decide_eq_false; omega)), rfl⟩
  by_cases f237 : f = 237
  · subst f237
    by_cases g1 : 128 ≤ b
    · by_cases g2 : b ≤ 159
      · have HX : Hid (x = true) := by show x = true; rw [← hx]; unfold NM.second; simp <;> omega
        clear hx
        go_enter Tryd.func95, Tryd.ntmps95
        go_wp2
        go_ret
        exact ⟨by rw [HX.out]; exact congrArg (fun v => Ending.returned (Value.bool v)) (by first | rfl | (apply decide_eq_true; omega) | (apply decide_eq_false; omega)), rfl⟩
      · have HX : Hid (x = false) := by show x = false; rw [← hx]; unfold NM.second; simp <;> omega
        clear hx
        go_enter Tryd.func95, Tryd.ntmps95
        go_wp2
        go_ret
        exact ⟨by rw [HX.out]; exact congrArg (fun v => Ending.returned (Value.bool v)) (by first | rfl | (apply decide_eq_true; omega) | (apply decide_eq_false; omega)), rfl⟩
    · have HX : Hid (x = false) := by show x = false; rw [← hx]; unfold NM.second; simp <;> omega
      clear hx
      go_enter Tryd.func95, Tryd.ntmps95
      go_wp2
      go_ret
      exact ⟨by rw [HX.out]; exact congrArg (fun v => Ending.returned (Value.bool v)) (by first | rfl | (apply decide_eq_true; omega) | (apply decide_eq_false; omega)), rfl⟩
  by_cases f240 : f = 240
  · subst f240
    by_cases g1 : 144 ≤ b
    · by_cases g2 : b ≤ 191
      · have HX : Hid (x = true) := by show x = true; rw [← hx]; unfold NM.second; simp <;> omega
        clear hx
        go_enter Tryd.func95, Tryd.ntmps95
        go_wp2
        go_ret
        exact ⟨by rw [HX.out]; exact congrArg (fun v => Ending.returned (Value.bool v)) (by first | rfl | (apply decide_eq_true; omega) | (apply decide_eq_false; omega)), rfl⟩
      · have HX : Hid (x = false) := by show x = false; rw [← hx]; unfold NM.second; simp <;> omega
        clear hx
        go_enter Tryd.func95, Tryd.ntmps95
        go_wp2
        go_ret
        exact ⟨by rw [HX.out]; exact congrArg (fun v => Ending.returned (Value.bool v)) (by first | rfl | (apply decide_eq_true; omega) | (apply decide_eq_false; omega)), rfl⟩
    · have HX : Hid (x = false) := by show x = false; rw [← hx]; unfold NM.second; simp <;> omega
      clear hx
      go_enter Tryd.func95, Tryd.ntmps95
      go_wp2
      go_ret
      exact ⟨by rw [HX.out]; exact congrArg (fun v => Ending.returned (Value.bool v)) (by first | rfl | (apply decide_eq_true; omega) | (apply decide_eq_false; omega)), rfl⟩
  by_cases f244 : f = 244
  · subst f244
    by_cases g1 : 128 ≤ b
    · by_cases g2 : b ≤ 143
      · have HX : Hid (x = true) := by show x = true; rw [← hx]; unfold NM.second; simp <;> omega
        clear hx
        go_enter Tryd.func95, Tryd.ntmps95
        go_wp2
        go_ret
        exact ⟨by rw [HX.out]; exact congrArg (fun v => Ending.returned (Value.bool v)) (by first | rfl | (apply decide_eq_true; omega) | (apply decide_eq_false; omega)), rfl⟩
      · have HX : Hid (x = false) := by show x = false; rw [← hx]; unfold NM.second; simp <;> omega
        clear hx
        go_enter Tryd.func95, Tryd.ntmps95
        go_wp2
        go_ret
        exact ⟨by rw [HX.out]; exact congrArg (fun v => Ending.returned (Value.bool v)) (by first | rfl | (apply decide_eq_true; omega) | (apply decide_eq_false; omega)), rfl⟩
    · have HX : Hid (x = false) := by show x = false; rw [← hx]; unfold NM.second; simp <;> omega
      clear hx
      go_enter Tryd.func95, Tryd.ntmps95
      go_wp2
      go_ret
      exact ⟨by rw [HX.out]; exact congrArg (fun v => Ending.returned (Value.bool v)) (by first | rfl | (apply decide_eq_true; omega) | (apply decide_eq_false; omega)), rfl⟩
  by_cases g1 : 128 ≤ b
  · by_cases g2 : b ≤ 191
    · have HX : Hid (x = true) := by show x = true; rw [← hx]; unfold NM.second; rw [if_neg f224, if_neg f237, if_neg f240, if_neg f244]; simp <;> omega
      clear hx
      go_enter Tryd.func95, Tryd.ntmps95
      go_wp2
      go_ret
      exact ⟨by rw [HX.out]; exact congrArg (fun v => Ending.returned (Value.bool v)) (by first | rfl | (apply decide_eq_true; omega) | (apply decide_eq_false; omega)), rfl⟩
    · have HX : Hid (x = false) := by show x = false; rw [← hx]; unfold NM.second; rw [if_neg f224, if_neg f237, if_neg f240, if_neg f244]; simp <;> omega
      clear hx
      go_enter Tryd.func95, Tryd.ntmps95
      go_wp2
      go_ret
      exact ⟨by rw [HX.out]; exact congrArg (fun v => Ending.returned (Value.bool v)) (by first | rfl | (apply decide_eq_true; omega) | (apply decide_eq_false; omega)), rfl⟩
  · have HX : Hid (x = false) := by show x = false; rw [← hx]; unfold NM.second; rw [if_neg f224, if_neg f237, if_neg f240, if_neg f244]; simp <;> omega
    clear hx
    go_enter Tryd.func95, Tryd.ntmps95
    go_wp2
    go_ret
    exact ⟨by rw [HX.out]; exact congrArg (fun v => Ending.returned (Value.bool v)) (by first | rfl | (apply decide_eq_true; omega) | (apply decide_eq_false; omega)), rfl⟩
end Go.Proofs.YtpmoanjeoaeabaaDoor
end

section
/- The document's Next: the rune at a place, by a walk. -/
set_option linter.unusedVariables false
set_option linter.unusedSimpArgs false
namespace Go.Proofs.YtpmoanjeoaeabaaDoor
open Go.RowKit Go.ChangeShapes Go.WideShapes Go.ChangeAt
def nextV (x : Nat × Nat × Bool) : Value := .tuple #[.int .i64 x.1, .int .i64 x.2.1, .bool x.2.2]
theorem byte_of (s : ByteArray) (i : Nat) (h : i < s.size) : (s[i]'h).toNat = NM.byteAt s i := by
  unfold NM.byteAt
  congr 1
  simp [ByteArray.get!, getElem!_pos, h]
  rfl
end Go.Proofs.YtpmoanjeoaeabaaDoor
end

section
/- Letters, blanks, small letters: of any rune. -/
set_option linter.unusedVariables false
set_option linter.unusedSimpArgs false
namespace Go.Proofs.YtpmoanjeoaeabaaDoor
open Go.RowKit Go.ChangeShapes Go.WideShapes Go.ChangeAt
def letterB (r : Nat) : Bool := decide (97 ≤ r ∧ r ≤ 122 ∨ r = 228 ∨ r = 246 ∨ r = 252 ∨ r = 223 ∨ 945 ≤ r ∧ r ≤ 969)
def blankB (r : Nat) : Bool := decide (r = 9 ∨ r = 32 ∨ r = 160 ∨ r = 8195)
def smallN (r : Nat) : Nat := if 65 ≤ r ∧ r ≤ 90 ∨ r = 196 ∨ r = 214 ∨ r = 220 ∨ 913 ≤ r ∧ r ≤ 937 ∧ r ≠ 930 then r + 32 else r
set_option maxRecDepth 100000 in
theorem letter_any (r : Nat) (w : World) (hr : r < 1114112) : Calls Tryd.prog 64 #[.int .i32 r] w fun e w' => e = .returned (.bool (letterB r)) ∧ w' = w := by
  by_cases c228 : r = 228
  · subst c228
    have HX : Hid (letterB 228 = true) := by show _ = _; decide
    go_enter Tryd.func64, Tryd.ntmps64
    go_wp2
    go_ret
    exact ⟨by rw [HX.out]; first | rfl | exact congrArg (fun v => Ending.returned (Value.bool v)) (by first | rfl | (apply decide_eq_true; omega) | (apply decide_eq_false; omega) | (simp; omega)), rfl⟩
  by_cases c246 : r = 246
  · subst c246
    have HX : Hid (letterB 246 = true) := by show _ = _; decide
    go_enter Tryd.func64, Tryd.ntmps64
    go_wp2
    go_ret
    exact ⟨by rw [HX.out]; first | rfl | exact congrArg (fun v => Ending.returned (Value.bool v)) (by first | rfl | (apply decide_eq_true; omega) | (apply decide_eq_false; omega) | (simp; omega)), rfl⟩
  by_cases c252 : r = 252
  · subst c252
    have HX : Hid (letterB 252 = true) := by show _ = _; decide
    go_enter Tryd.func64, Tryd.ntmps64
    go_wp2
    go_ret
    exact ⟨by rw [HX.out]; first | rfl | exact congrArg (fun v => Ending.returned (Value.bool v)) (by first | rfl | (apply decide_eq_true; omega) | (apply decide_eq_false; omega) | (simp; omega)), rfl⟩
  by_cases c223 : r = 223
  · subst c223
    have HX : Hid (letterB 223 = true) := by show _ = _; decide
    go_enter Tryd.func64, Tryd.ntmps64
    go_wp2
    go_ret
    exact ⟨by rw [HX.out]; first | rfl | exact congrArg (fun v => Ending.returned (Value.bool v)) (by first | rfl | (apply decide_eq_true; omega) | (apply decide_eq_false; omega) | (simp; omega)), rfl⟩
  by_cases p97 : r < 97
  · have HX : Hid (letterB r = false) := by show _ = _; unfold letterB; first | (apply decide_eq_true; omega) | (apply decide_eq_false; omega)
    have q0 : 0 ≤ r := by omega
    have z97 : ¬ 97 ≤ r := by omega
    have y122 : r ≤ 122 := by omega
    have z945 : ¬ 945 ≤ r := by omega
    have y969 : r ≤ 969 := by omega
    have t228 : ((r : Int) == 228) = false := by rw [beq_eq_false_iff_ne]; omega
    have t246 : ((r : Int) == 246) = false := by rw [beq_eq_false_iff_ne]; omega
    have t252 : ((r : Int) == 252) = false := by rw [beq_eq_false_iff_ne]; omega
    have t223 : ((r : Int) == 223) = false := by rw [beq_eq_false_iff_ne]; omega
    go_enter Tryd.func64, Tryd.ntmps64
    go_wp2
    go_ret
    exact ⟨by rw [HX.out]; first | rfl | exact congrArg (fun v => Ending.returned (Value.bool v)) (by first | rfl | (apply decide_eq_true; omega) | (apply decide_eq_false; omega) | (simp; omega)), rfl⟩
  by_cases p123 : r < 123
  · have HX : Hid (letterB r = true) := by show _ = _; unfold letterB; first | (apply decide_eq_true; omega) | (apply decide_eq_false; omega)
    have q97 : 97 ≤ r := by omega
    have z97 : 97 ≤ r := by omega
    have y122 : r ≤ 122 := by omega
    have z945 : ¬ 945 ≤ r := by omega
    have y969 : r ≤ 969 := by omega
    have t228 : ((r : Int) == 228) = false := by rw [beq_eq_false_iff_ne]; omega
    have t246 : ((r : Int) == 246) = false := by rw [beq_eq_false_iff_ne]; omega
    have t252 : ((r : Int) == 252) = false := by rw [beq_eq_false_iff_ne]; omega
    have t223 : ((r : Int) == 223) = false := by rw [beq_eq_false_iff_ne]; omega
    go_enter Tryd.func64, Tryd.ntmps64
    go_wp2
    go_ret
    exact ⟨by rw [HX.out]; first | rfl | exact congrArg (fun v => Ending.returned (Value.bool v)) (by first | rfl | (apply decide_eq_true; omega) | (apply decide_eq_false; omega) | (simp; omega)), rfl⟩
  by_cases p945 : r < 945
  · have HX : Hid (letterB r = false) := by show _ = _; unfold letterB; first | (apply decide_eq_true; omega) | (apply decide_eq_false; omega)
    have q123 : 123 ≤ r := by omega
    have z97 : 97 ≤ r := by omega
    have y122 : ¬ r ≤ 122 := by omega
    have z945 : ¬ 945 ≤ r := by omega
    have y969 : r ≤ 969 := by omega
    have t228 : ((r : Int) == 228) = false := by rw [beq_eq_false_iff_ne]; omega
    have t246 : ((r : Int) == 246) = false := by rw [beq_eq_false_iff_ne]; omega
    have t252 : ((r : Int) == 252) = false := by rw [beq_eq_false_iff_ne]; omega
    have t223 : ((r : Int) == 223) = false := by rw [beq_eq_false_iff_ne]; omega
    go_enter Tryd.func64, Tryd.ntmps64
    go_wp2
    go_ret
    exact ⟨by rw [HX.out]; first | rfl | exact congrArg (fun v => Ending.returned (Value.bool v)) (by first | rfl | (apply decide_eq_true; omega) | (apply decide_eq_false; omega) | (simp; omega)), rfl⟩
  by_cases p970 : r < 970
  · have HX : Hid (letterB r = true) := by show _ = _; unfold letterB; first | (apply decide_eq_true; omega) | (apply decide_eq_false; omega)
    have q945 : 945 ≤ r := by omega
    have z97 : 97 ≤ r := by omega
    have y122 : ¬ r ≤ 122 := by omega
    have z945 : 945 ≤ r := by omega
    have y969 : r ≤ 969 := by omega
    have t228 : ((r : Int) == 228) = false := by rw [beq_eq_false_iff_ne]; omega
    have t246 : ((r : Int) == 246) = false := by rw [beq_eq_false_iff_ne]; omega
    have t252 : ((r : Int) == 252) = false := by rw [beq_eq_false_iff_ne]; omega
    have t223 : ((r : Int) == 223) = false := by rw [beq_eq_false_iff_ne]; omega
    go_enter Tryd.func64, Tryd.ntmps64
    go_wp2
    go_ret
    exact ⟨by rw [HX.out]; first | rfl | exact congrArg (fun v => Ending.returned (Value.bool v)) (by first | rfl | (apply decide_eq_true; omega) | (apply decide_eq_false; omega) | (simp; omega)), rfl⟩
  have HX : Hid (letterB r = false) := by show _ = _; unfold letterB; first | (apply decide_eq_true; omega) | (apply decide_eq_false; omega)
  have q970 : 970 ≤ r := by omega
  have z97 : 97 ≤ r := by omega
  have y122 : ¬ r ≤ 122 := by omega
  have z945 : 945 ≤ r := by omega
  have y969 : ¬ r ≤ 969 := by omega
  have t228 : ((r : Int) == 228) = false := by rw [beq_eq_false_iff_ne]; omega
  have t246 : ((r : Int) == 246) = false := by rw [beq_eq_false_iff_ne]; omega
  have t252 : ((r : Int) == 252) = false := by rw [beq_eq_false_iff_ne]; omega
  have t223 : ((r : Int) == 223) = false := by rw [beq_eq_false_iff_ne]; omega
  go_enter Tryd.func64, Tryd.ntmps64
  go_wp2
  go_ret
  exact ⟨by rw [HX.out]; first | rfl | exact congrArg (fun v => Ending.returned (Value.bool v)) (by first | rfl | (apply decide_eq_true; omega) | (apply decide_eq_false; omega) | (simp; omega)), rfl⟩
set_option maxRecDepth 100000 in
theorem rletter_any (r : Nat) (w : World) (hr : r < 1114112) : Calls Tryd.prog 74 #[.int .i64 r] w fun e w' => e = .returned (.bool (letterB r)) ∧ w' = w := by
  by_cases c228 : r = 228
  · subst c228
    have HX : Hid (letterB 228 = true) := by show _ = _; decide
    go_enter Tryd.func74, Tryd.ntmps74
    go_wp2
    go_ret
    exact ⟨by rw [HX.out]; first | rfl | exact congrArg (fun v => Ending.returned (Value.bool v)) (by first | rfl | (apply decide_eq_true; omega) | (apply decide_eq_false; omega) | (simp; omega)), rfl⟩
  by_cases c246 : r = 246
  · subst c246
    have HX : Hid (letterB 246 = true) := by show _ = _; decide
    go_enter Tryd.func74, Tryd.ntmps74
    go_wp2
    go_ret
    exact ⟨by rw [HX.out]; first | rfl | exact congrArg (fun v => Ending.returned (Value.bool v)) (by first | rfl | (apply decide_eq_true; omega) | (apply decide_eq_false; omega) | (simp; omega)), rfl⟩
  by_cases c252 : r = 252
  · subst c252
    have HX : Hid (letterB 252 = true) := by show _ = _; decide
    go_enter Tryd.func74, Tryd.ntmps74
    go_wp2
    go_ret
    exact ⟨by rw [HX.out]; first | rfl | exact congrArg (fun v => Ending.returned (Value.bool v)) (by first | rfl | (apply decide_eq_true; omega) | (apply decide_eq_false; omega) | (simp; omega)), rfl⟩
  by_cases c223 : r = 223
  · subst c223
    have HX : Hid (letterB 223 = true) := by show _ = _; decide
    go_enter Tryd.func74, Tryd.ntmps74
    go_wp2
    go_ret
    exact ⟨by rw [HX.out]; first | rfl | exact congrArg (fun v => Ending.returned (Value.bool v)) (by first | rfl | (apply decide_eq_true; omega) | (apply decide_eq_false; omega) | (simp; omega)), rfl⟩
  by_cases p97 : r < 97
  · have HX : Hid (letterB r = false) := by show _ = _; unfold letterB; first | (apply decide_eq_true; omega) | (apply decide_eq_false; omega)
    have q0 : 0 ≤ r := by omega
    have z97 : ¬ 97 ≤ r := by omega
    have y122 : r ≤ 122 := by omega
    have z945 : ¬ 945 ≤ r := by omega
    have y969 : r ≤ 969 := by omega
    have t228 : ((r : Int) == 228) = false := by rw [beq_eq_false_iff_ne]; omega
    have t246 : ((r : Int) == 246) = false := by rw [beq_eq_false_iff_ne]; omega
    have t252 : ((r : Int) == 252) = false := by rw [beq_eq_false_iff_ne]; omega
    have t223 : ((r : Int) == 223) = false := by rw [beq_eq_false_iff_ne]; omega
    go_enter Tryd.func74, Tryd.ntmps74
    go_wp2
    go_ret
    exact ⟨by rw [HX.out]; first | rfl | exact congrArg (fun v => Ending.returned (Value.bool v)) (by first | rfl | (apply decide_eq_true; omega) | (apply decide_eq_false; omega) | (simp; omega)), rfl⟩
  by_cases p123 : r < 123
  · have HX : Hid (letterB r = true) := by show _ = _; unfold letterB; first | (apply decide_eq_true; omega) | (apply decide_eq_false; omega)
    have q97 : 97 ≤ r := by omega
    have z97 : 97 ≤ r := by omega
    have y122 : r ≤ 122 := by omega
    have z945 : ¬ 945 ≤ r := by omega
    have y969 : r ≤ 969 := by omega
    have t228 : ((r : Int) == 228) = false := by rw [beq_eq_false_iff_ne]; omega
    have t246 : ((r : Int) == 246) = false := by rw [beq_eq_false_iff_ne]; omega
    have t252 : ((r : Int) == 252) = false := by rw [beq_eq_false_iff_ne]; omega
    have t223 : ((r : Int) == 223) = false := by rw [beq_eq_false_iff_ne]; omega
    go_enter Tryd.func74, Tryd.ntmps74
    go_wp2
    go_ret
    exact ⟨by rw [HX.out]; first | rfl | exact congrArg (fun v => Ending.returned (Value.bool v)) (by first | rfl | (apply decide_eq_true; omega) | (apply decide_eq_false; omega) | (simp; omega)), rfl⟩
  by_cases p945 : r < 945
  · have HX : Hid (letterB r = false) := by show _ = _; unfold letterB; first | (apply decide_eq_true; omega) | (apply decide_eq_false; omega)
    have q123 : 123 ≤ r := by omega
    have z97 : 97 ≤ r := by omega
    have y122 : ¬ r ≤ 122 := by omega
    have z945 : ¬ 945 ≤ r := by omega
    have y969 : r ≤ 969 := by omega
    have t228 : ((r : Int) == 228) = false := by rw [beq_eq_false_iff_ne]; omega
    have t246 : ((r : Int) == 246) = false := by rw [beq_eq_false_iff_ne]; omega
    have t252 : ((r : Int) == 252) = false := by rw [beq_eq_false_iff_ne]; omega
    have t223 : ((r : Int) == 223) = false := by rw [beq_eq_false_iff_ne]; omega
    go_enter Tryd.func74, Tryd.ntmps74
    go_wp2
    go_ret
    exact ⟨by rw [HX.out]; first | rfl | exact congrArg (fun v => Ending.returned (Value.bool v)) (by first | rfl | (apply decide_eq_true; omega) | (apply decide_eq_false; omega) | (simp; omega)), rfl⟩
  by_cases p970 : r < 970
  · have HX : Hid (letterB r = true) := by show _ = _; unfold letterB; first | (apply decide_eq_true; omega) | (apply decide_eq_false; omega)
    have q945 : 945 ≤ r := by omega
    have z97 : 97 ≤ r := by omega
    have y122 : ¬ r ≤ 122 := by omega
    have z945 : 945 ≤ r := by omega
    have y969 : r ≤ 969 := by omega
    have t228 : ((r : Int) == 228) = false := by rw [beq_eq_false_iff_ne]; omega
    have t246 : ((r : Int) == 246) = false := by rw [beq_eq_false_iff_ne]; omega
    have t252 : ((r : Int) == 252) = false := by rw [beq_eq_false_iff_ne]; omega
    have t223 : ((r : Int) == 223) = false := by rw [beq_eq_false_iff_ne]; omega
    go_enter Tryd.func74, Tryd.ntmps74
    go_wp2
    go_ret
    exact ⟨by rw [HX.out]; first | rfl | exact congrArg (fun v => Ending.returned (Value.bool v)) (by first | rfl | (apply decide_eq_true; omega) | (apply decide_eq_false; omega) | (simp; omega)), rfl⟩
  have HX : Hid (letterB r = false) := by show _ = _; unfold letterB; first | (apply decide_eq_true; omega) | (apply decide_eq_false; omega)
  have q970 : 970 ≤ r := by omega
  have z97 : 97 ≤ r := by omega
  have y122 : ¬ r ≤ 122 := by omega
  have z945 : 945 ≤ r := by omega
  have y969 : ¬ r ≤ 969 := by omega
  have t228 : ((r : Int) == 228) = false := by rw [beq_eq_false_iff_ne]; omega
  have t246 : ((r : Int) == 246) = false := by rw [beq_eq_false_iff_ne]; omega
  have t252 : ((r : Int) == 252) = false := by rw [beq_eq_false_iff_ne]; omega
  have t223 : ((r : Int) == 223) = false := by rw [beq_eq_false_iff_ne]; omega
  go_enter Tryd.func74, Tryd.ntmps74
  go_wp2
  go_ret
  exact ⟨by rw [HX.out]; first | rfl | exact congrArg (fun v => Ending.returned (Value.bool v)) (by first | rfl | (apply decide_eq_true; omega) | (apply decide_eq_false; omega) | (simp; omega)), rfl⟩
end Go.Proofs.YtpmoanjeoaeabaaDoor
end

section
/- The document's Next: the walk. -/
set_option linter.unusedVariables false
set_option linter.unusedSimpArgs false
namespace Go.Proofs.YtpmoanjeoaeabaaDoor
open Go.RowKit Go.ChangeShapes Go.WideShapes Go.ChangeAt
def bad : Nat × Nat × Bool := (65533, 1, false)
theorem next_zero {s : ByteArray} {a : Nat} (h : NM.long (NM.byteAt s a) = 0) : NM.next s a = bad := by
  unfold NM.next; simp only [Nat.add_zero]; rw [if_pos (Or.inl h)]; rfl
theorem next_short {s : ByteArray} {a : Nat} (h : s.size - a < NM.long (NM.byteAt s a)) : NM.next s a = bad := by
  unfold NM.next; simp only [Nat.add_zero]; rw [if_pos (Or.inr h)]; rfl
theorem next_one {s : ByteArray} {a : Nat} (h : NM.long (NM.byteAt s a) = 1) (hl : ¬ s.size - a < 1) : NM.next s a = (NM.byteAt s a, 1, true) := by
  unfold NM.next; simp only [Nat.add_zero, h]; rw [if_neg (by omega)]; simp
set_option maxRecDepth 100000 in
set_option maxHeartbeats 3200000 in
theorem next_any (s : ByteArray) (a : Nat) (w : World) (h : a < s.size) (hs : s.size ≤ 140737488351232) :
    Calls Tryd.prog 73 #[.string s, .int .i64 a] w fun e w' => e = .returned (nextV (NM.next s a)) ∧ w' = w := by
  have b0 := byte_of s a h
  have l0 := NM.byte_lt s a
  obtain ⟨f, hf⟩ : ∃ f, NM.byteAt s a = f := ⟨_, rfl⟩
  have sw0 : IntKind.i64.wrap ((s.size : Int) - (a : Int)) = ((s.size - a : Nat) : Int) := by rw [IntWalk.i64_in _ (by omega)]; omega
  by_cases h0 : NM.long f = 0
  · have HX := Lib.hid (next_zero (s := s) (a := a) (by rw [hf]; exact h0))
    rw [hf] at b0 l0
    clear hf
    rw [HX.out]
    go_enter Tryd.func73, Tryd.ntmps73
    go_wp2_with fail
    refine (long_any f _ l0).mono ?_
    rintro e w1 ⟨rfl, rfl⟩
    rw [h0]
    go_wp2_with fail
    go_ret3
    exact ⟨rfl, rfl⟩
  by_cases hsh : s.size - a < NM.long f
  · have HX := Lib.hid (next_short (s := s) (a := a) (by rw [hf]; exact hsh))
    rw [hf] at b0 l0
    clear hf
    rw [HX.out]
    obtain ⟨n, hn⟩ : ∃ n, NM.long f = n := ⟨_, rfl⟩
    rw [hn] at h0 hsh
    have t0 : ((n : Int) == 0) = false := by rw [beq_eq_false_iff_ne]; omega
    go_enter Tryd.func73, Tryd.ntmps73
    go_wp2_with fail
    refine (long_any f _ l0).mono ?_
    rintro e w1 ⟨rfl, rfl⟩
    rw [hn]
    clear hn
    go_wp2_with fail
    go_ret3
    exact ⟨rfl, rfl⟩
  by_cases h1 : NM.long f = 1
  · have HX := Lib.hid (next_one (s := s) (a := a) (by rw [hf]; exact h1) (by omega))
    rw [hf] at b0 l0 HX
    clear hf
    rw [HX.out]
    have g1 : ¬ s.size - a < 1 := by omega
    go_enter Tryd.func73, Tryd.ntmps73
    go_wp2_with fail
    refine (long_any f _ l0).mono ?_
    rintro e w1 ⟨rfl, rfl⟩
    rw [h1]
    clear h0 hsh h1
    go_wp2_with fail
    go_ret3
    exact ⟨rfl, rfl⟩
  have hn : NM.long f = 2 ∨ NM.long f = 3 ∨ NM.long f = 4 := by
    unfold NM.long at h0 h1 ⊢
    repeat' split
    all_goals simp_all
  rcases hn with h2 | h2 | h2
  · rw [h2] at hsh
    have hb1 : a + 1 < s.size := by clear h0 h1; omega
    have b1 := byte_of s (a + 1) hb1
    have l1 := NM.byte_lt s (a + 1)
    rw [hf] at b0 l0
    obtain ⟨X, hX⟩ : ∃ X, NM.next s a = X := ⟨_, rfl⟩
    rw [hX]
    have HX := Lib.hid hX
    have HF := Lib.hid hf
    clear hX hf h0 h1
    go_enter Tryd.func73, Tryd.ntmps73
    go_wp2_with fail
    refine (long_any f _ l0).mono ?_
    rintro e w1 ⟨rfl, rfl⟩
    rw [h2]
    have H2F : Hid (NM.long f = 2) := h2
    clear h2
    go_wp2_with fail
    obtain ⟨c1, hc1⟩ : ∃ c, NM.byteAt s (a + 1) = c := ⟨_, rfl⟩
    rw [hc1] at b1 l1
    have HC1 := Lib.hid hc1
    clear hc1
    go_loopw [9, 10, 11] (fun r i _ wr => ((r = .int .i64 ((f % 32 : Nat) : Int) ∧ i = .int .i64 1) ∨ ((NM.cont c1 && NM.second f c1) = true ∧ r = .int .i64 ((f % 32 * 64 + c1 % 64 : Nat) : Int) ∧ i = .int .i64 2)) ∧ wr = w1) (fun _ i _ _ => 2 - (intOf i).toNat)
    case atStart => exact ⟨.inl ⟨rfl, rfl⟩, rfl⟩
    case round =>
      have HBAD : Hid ((NM.cont c1 && NM.second f c1) = false → X = bad) := by
        show _ → _
        intro hb
        rw [← HX.out]
        unfold NM.next
        simp only [Nat.add_zero, HF.out, HC1.out, H2F.out, hb]
        rw [if_neg (by omega)]
        rfl
      obtain ⟨⟨rfl, rfl⟩ | ⟨hg1, rfl, rfl⟩, rfl⟩ := hrel
      · have sw1 : IntKind.i64.wrap ((a : Int) + 1) = ((a + 1 : Nat) : Int) := by rw [IntWalk.i64_in _ (by omega)]; omega
        by_cases g1 : 128 ≤ c1
        · by_cases g2 : c1 ≤ 191
          · have HCT : Hid (NM.cont c1 = true) := decide_eq_true (show 128 ≤ c1 ∧ c1 ≤ 191 from ⟨g1, g2⟩)
            go_wp2_with fail
            refine (second_any f c1 _ l0 l1).mono ?_
            rintro e w2 ⟨rfl, rfl⟩
            obtain ⟨z, hz⟩ : ∃ z, NM.second f c1 = z := ⟨_, rfl⟩
            rw [hz]
            cases z with
            | true =>
              have HG1 : Hid ((NM.cont c1 && NM.second f c1) = true) := by show _ = _; rw [HCT.out, hz]; rfl
              have sw2 : IntKind.i64.wrap (((f % 32 : Nat) : Int) * 64 + (c1 : Int) % 64) = ((f % 32 * 64 + c1 % 64 : Nat) : Int) := by rw [IntWalk.i64_in _ (by omega)]; omega
              clear hz
              go_wp2_with fail
              go_roundw
              case rel => exact ⟨.inr (⟨HG1.out, by go_num, by go_num⟩), by first | rfl | trivial⟩
              case measure => simp [intOf]
            | false =>
              have HY := Lib.hid (HBAD.out (by rw [hz]; simp))
              go_wp2_with fail
              go_ret3
              rw [HY.out]
              exact ⟨rfl, rfl⟩
          · have HCF : Hid (NM.cont c1 = false) := decide_eq_false (fun h => g2 h.2)
            have HY := Lib.hid (HBAD.out (by rw [HCF.out]; simp))
            go_wp2_with fail
            go_ret3
            rw [HY.out]
            exact ⟨rfl, rfl⟩
        · have HCF : Hid (NM.cont c1 = false) := decide_eq_false (fun h => g1 h.1)
          have HY := Lib.hid (HBAD.out (by rw [HCF.out]; simp))
          go_wp2_with fail
          go_ret3
          rw [HY.out]
          exact ⟨rfl, rfl⟩
      · have HY : Hid (X = (f % 32 * 64 + c1 % 64, 2, true)) := by
          show _ = _
          rw [← HX.out]
          unfold NM.next
          simp only [Nat.add_zero, HF.out, HC1.out, H2F.out, hg1]
          rw [if_neg (by omega)]
          rfl
        go_wp2_with fail
        go_ret3
        rw [HY.out]
        exact ⟨rfl, rfl⟩
  · rw [h2] at hsh
    have hb1 : a + 1 < s.size := by clear h0 h1; omega
    have b1 := byte_of s (a + 1) hb1
    have l1 := NM.byte_lt s (a + 1)
    have hb2 : a + 2 < s.size := by clear h0 h1; omega
    have b2 := byte_of s (a + 2) hb2
    have l2 := NM.byte_lt s (a + 2)
    rw [hf] at b0 l0
    obtain ⟨X, hX⟩ : ∃ X, NM.next s a = X := ⟨_, rfl⟩
    rw [hX]
    have HX := Lib.hid hX
    have HF := Lib.hid hf
    clear hX hf h0 h1
    go_enter Tryd.func73, Tryd.ntmps73
    go_wp2_with fail
    refine (long_any f _ l0).mono ?_
    rintro e w1 ⟨rfl, rfl⟩
    rw [h2]
    have H2F : Hid (NM.long f = 3) := h2
    clear h2
    go_wp2_with fail
    obtain ⟨c1, hc1⟩ : ∃ c, NM.byteAt s (a + 1) = c := ⟨_, rfl⟩
    rw [hc1] at b1 l1
    have HC1 := Lib.hid hc1
    clear hc1
    obtain ⟨c2, hc2⟩ : ∃ c, NM.byteAt s (a + 2) = c := ⟨_, rfl⟩
    rw [hc2] at b2 l2
    have HC2 := Lib.hid hc2
    clear hc2
    go_loopw [9, 10, 11] (fun r i _ wr => ((r = .int .i64 ((f % 16 : Nat) : Int) ∧ i = .int .i64 1) ∨ ((NM.cont c1 && NM.second f c1) = true ∧ r = .int .i64 ((f % 16 * 64 + c1 % 64 : Nat) : Int) ∧ i = .int .i64 2) ∨ ((NM.cont c1 && NM.second f c1) = true ∧ NM.cont c2 = true ∧ r = .int .i64 (((f % 16 * 64 + c1 % 64) * 64 + c2 % 64 : Nat) : Int) ∧ i = .int .i64 3)) ∧ wr = w1) (fun _ i _ _ => 3 - (intOf i).toNat)
    case atStart => exact ⟨.inl ⟨rfl, rfl⟩, rfl⟩
    case round =>
      have HBAD : Hid ((NM.cont c1 && NM.second f c1 && NM.cont c2) = false → X = bad) := by
        show _ → _
        intro hb
        rw [← HX.out]
        unfold NM.next
        simp only [Nat.add_zero, HF.out, HC1.out, HC2.out, H2F.out, hb]
        rw [if_neg (by omega)]
        rfl
      obtain ⟨⟨rfl, rfl⟩ | ⟨hg1, rfl, rfl⟩ | ⟨hg1, hg2, rfl, rfl⟩, rfl⟩ := hrel
      · have sw1 : IntKind.i64.wrap ((a : Int) + 1) = ((a + 1 : Nat) : Int) := by rw [IntWalk.i64_in _ (by omega)]; omega
        by_cases g1 : 128 ≤ c1
        · by_cases g2 : c1 ≤ 191
          · have HCT : Hid (NM.cont c1 = true) := decide_eq_true (show 128 ≤ c1 ∧ c1 ≤ 191 from ⟨g1, g2⟩)
            go_wp2_with fail
            refine (second_any f c1 _ l0 l1).mono ?_
            rintro e w2 ⟨rfl, rfl⟩
            obtain ⟨z, hz⟩ : ∃ z, NM.second f c1 = z := ⟨_, rfl⟩
            rw [hz]
            cases z with
            | true =>
              have HG1 : Hid ((NM.cont c1 && NM.second f c1) = true) := by show _ = _; rw [HCT.out, hz]; rfl
              have sw2 : IntKind.i64.wrap (((f % 16 : Nat) : Int) * 64 + (c1 : Int) % 64) = ((f % 16 * 64 + c1 % 64 : Nat) : Int) := by rw [IntWalk.i64_in _ (by omega)]; omega
              clear hz
              go_wp2_with fail
              go_roundw
              case rel => exact ⟨.inr (.inl ⟨HG1.out, by go_num, by go_num⟩), by first | rfl | trivial⟩
              case measure => simp [intOf]
            | false =>
              have HY := Lib.hid (HBAD.out (by rw [hz]; simp))
              go_wp2_with fail
              go_ret3
              rw [HY.out]
              exact ⟨rfl, rfl⟩
          · have HCF : Hid (NM.cont c1 = false) := decide_eq_false (fun h => g2 h.2)
            have HY := Lib.hid (HBAD.out (by rw [HCF.out]; simp))
            go_wp2_with fail
            go_ret3
            rw [HY.out]
            exact ⟨rfl, rfl⟩
        · have HCF : Hid (NM.cont c1 = false) := decide_eq_false (fun h => g1 h.1)
          have HY := Lib.hid (HBAD.out (by rw [HCF.out]; simp))
          go_wp2_with fail
          go_ret3
          rw [HY.out]
          exact ⟨rfl, rfl⟩
      · have sw1 : IntKind.i64.wrap ((a : Int) + 2) = ((a + 2 : Nat) : Int) := by rw [IntWalk.i64_in _ (by omega)]; omega
        have HG1 := Lib.hid hg1
        clear hg1
        by_cases g1 : 128 ≤ c2
        · by_cases g2 : c2 ≤ 191
          · have HCT : Hid (NM.cont c2 = true) := decide_eq_true (show 128 ≤ c2 ∧ c2 ≤ 191 from ⟨g1, g2⟩)
            have sw2 : IntKind.i64.wrap (((f % 16 * 64 + c1 % 64 : Nat) : Int) * 64 + (c2 : Int) % 64) = (((f % 16 * 64 + c1 % 64) * 64 + c2 % 64 : Nat) : Int) := by rw [IntWalk.i64_in _ (by omega)]; omega
            go_wp2_with fail
            go_roundw
            case rel => exact ⟨.inr (.inr (⟨HG1.out, HCT.out, by go_num, by go_num⟩)), by first | rfl | trivial⟩
            case measure => simp [intOf]
          · have HCF : Hid (NM.cont c2 = false) := decide_eq_false (fun h => g2 h.2)
            have HY := Lib.hid (HBAD.out (by rw [HCF.out]; simp))
            go_wp2_with fail
            go_ret3
            rw [HY.out]
            exact ⟨rfl, rfl⟩
        · have HCF : Hid (NM.cont c2 = false) := decide_eq_false (fun h => g1 h.1)
          have HY := Lib.hid (HBAD.out (by rw [HCF.out]; simp))
          go_wp2_with fail
          go_ret3
          rw [HY.out]
          exact ⟨rfl, rfl⟩
      · have HY : Hid (X = ((f % 16 * 64 + c1 % 64) * 64 + c2 % 64, 3, true)) := by
          show _ = _
          rw [← HX.out]
          unfold NM.next
          simp only [Nat.add_zero, HF.out, HC1.out, HC2.out, H2F.out, hg1, hg2]
          rw [if_neg (by omega)]
          rfl
        go_wp2_with fail
        go_ret3
        rw [HY.out]
        exact ⟨rfl, rfl⟩
  · rw [h2] at hsh
    have hb1 : a + 1 < s.size := by clear h0 h1; omega
    have b1 := byte_of s (a + 1) hb1
    have l1 := NM.byte_lt s (a + 1)
    have hb2 : a + 2 < s.size := by clear h0 h1; omega
    have b2 := byte_of s (a + 2) hb2
    have l2 := NM.byte_lt s (a + 2)
    have hb3 : a + 3 < s.size := by clear h0 h1; omega
    have b3 := byte_of s (a + 3) hb3
    have l3 := NM.byte_lt s (a + 3)
    rw [hf] at b0 l0
    obtain ⟨X, hX⟩ : ∃ X, NM.next s a = X := ⟨_, rfl⟩
    rw [hX]
    have HX := Lib.hid hX
    have HF := Lib.hid hf
    clear hX hf h0 h1
    go_enter Tryd.func73, Tryd.ntmps73
    go_wp2_with fail
    refine (long_any f _ l0).mono ?_
    rintro e w1 ⟨rfl, rfl⟩
    rw [h2]
    have H2F : Hid (NM.long f = 4) := h2
    clear h2
    go_wp2_with fail
    obtain ⟨c1, hc1⟩ : ∃ c, NM.byteAt s (a + 1) = c := ⟨_, rfl⟩
    rw [hc1] at b1 l1
    have HC1 := Lib.hid hc1
    clear hc1
    obtain ⟨c2, hc2⟩ : ∃ c, NM.byteAt s (a + 2) = c := ⟨_, rfl⟩
    rw [hc2] at b2 l2
    have HC2 := Lib.hid hc2
    clear hc2
    obtain ⟨c3, hc3⟩ : ∃ c, NM.byteAt s (a + 3) = c := ⟨_, rfl⟩
    rw [hc3] at b3 l3
    have HC3 := Lib.hid hc3
    clear hc3
    go_loopw [9, 10, 11] (fun r i _ wr => ((r = .int .i64 ((f % 8 : Nat) : Int) ∧ i = .int .i64 1) ∨ ((NM.cont c1 && NM.second f c1) = true ∧ r = .int .i64 ((f % 8 * 64 + c1 % 64 : Nat) : Int) ∧ i = .int .i64 2) ∨ ((NM.cont c1 && NM.second f c1) = true ∧ NM.cont c2 = true ∧ r = .int .i64 (((f % 8 * 64 + c1 % 64) * 64 + c2 % 64 : Nat) : Int) ∧ i = .int .i64 3) ∨ ((NM.cont c1 && NM.second f c1) = true ∧ NM.cont c2 = true ∧ NM.cont c3 = true ∧ r = .int .i64 ((((f % 8 * 64 + c1 % 64) * 64 + c2 % 64) * 64 + c3 % 64 : Nat) : Int) ∧ i = .int .i64 4)) ∧ wr = w1) (fun _ i _ _ => 4 - (intOf i).toNat)
    case atStart => exact ⟨.inl ⟨rfl, rfl⟩, rfl⟩
    case round =>
      have HBAD : Hid ((NM.cont c1 && NM.second f c1 && NM.cont c2 && NM.cont c3) = false → X = bad) := by
        show _ → _
        intro hb
        rw [← HX.out]
        unfold NM.next
        simp only [Nat.add_zero, HF.out, HC1.out, HC2.out, HC3.out, H2F.out, hb]
        rw [if_neg (by omega)]
        rfl
      obtain ⟨⟨rfl, rfl⟩ | ⟨hg1, rfl, rfl⟩ | ⟨hg1, hg2, rfl, rfl⟩ | ⟨hg1, hg2, hg3, rfl, rfl⟩, rfl⟩ := hrel
      · have sw1 : IntKind.i64.wrap ((a : Int) + 1) = ((a + 1 : Nat) : Int) := by rw [IntWalk.i64_in _ (by omega)]; omega
        by_cases g1 : 128 ≤ c1
        · by_cases g2 : c1 ≤ 191
          · have HCT : Hid (NM.cont c1 = true) := decide_eq_true (show 128 ≤ c1 ∧ c1 ≤ 191 from ⟨g1, g2⟩)
            go_wp2_with fail
            refine (second_any f c1 _ l0 l1).mono ?_
            rintro e w2 ⟨rfl, rfl⟩
            obtain ⟨z, hz⟩ : ∃ z, NM.second f c1 = z := ⟨_, rfl⟩
            rw [hz]
            cases z with
            | true =>
              have HG1 : Hid ((NM.cont c1 && NM.second f c1) = true) := by show _ = _; rw [HCT.out, hz]; rfl
              have sw2 : IntKind.i64.wrap (((f % 8 : Nat) : Int) * 64 + (c1 : Int) % 64) = ((f % 8 * 64 + c1 % 64 : Nat) : Int) := by rw [IntWalk.i64_in _ (by omega)]; omega
              clear hz
              go_wp2_with fail
              go_roundw
              case rel => exact ⟨.inr (.inl ⟨HG1.out, by go_num, by go_num⟩), by first | rfl | trivial⟩
              case measure => simp [intOf]
            | false =>
              have HY := Lib.hid (HBAD.out (by rw [hz]; simp))
              go_wp2_with fail
              go_ret3
              rw [HY.out]
              exact ⟨rfl, rfl⟩
          · have HCF : Hid (NM.cont c1 = false) := decide_eq_false (fun h => g2 h.2)
            have HY := Lib.hid (HBAD.out (by rw [HCF.out]; simp))
            go_wp2_with fail
            go_ret3
            rw [HY.out]
            exact ⟨rfl, rfl⟩
        · have HCF : Hid (NM.cont c1 = false) := decide_eq_false (fun h => g1 h.1)
          have HY := Lib.hid (HBAD.out (by rw [HCF.out]; simp))
          go_wp2_with fail
          go_ret3
          rw [HY.out]
          exact ⟨rfl, rfl⟩
      · have sw1 : IntKind.i64.wrap ((a : Int) + 2) = ((a + 2 : Nat) : Int) := by rw [IntWalk.i64_in _ (by omega)]; omega
        have HG1 := Lib.hid hg1
        clear hg1
        by_cases g1 : 128 ≤ c2
        · by_cases g2 : c2 ≤ 191
          · have HCT : Hid (NM.cont c2 = true) := decide_eq_true (show 128 ≤ c2 ∧ c2 ≤ 191 from ⟨g1, g2⟩)
            have sw2 : IntKind.i64.wrap (((f % 8 * 64 + c1 % 64 : Nat) : Int) * 64 + (c2 : Int) % 64) = (((f % 8 * 64 + c1 % 64) * 64 + c2 % 64 : Nat) : Int) := by rw [IntWalk.i64_in _ (by omega)]; omega
            go_wp2_with fail
            go_roundw
            case rel => exact ⟨.inr (.inr (.inl ⟨HG1.out, HCT.out, by go_num, by go_num⟩)), by first | rfl | trivial⟩
            case measure => simp [intOf]
          · have HCF : Hid (NM.cont c2 = false) := decide_eq_false (fun h => g2 h.2)
            have HY := Lib.hid (HBAD.out (by rw [HCF.out]; simp))
            go_wp2_with fail
            go_ret3
            rw [HY.out]
            exact ⟨rfl, rfl⟩
        · have HCF : Hid (NM.cont c2 = false) := decide_eq_false (fun h => g1 h.1)
          have HY := Lib.hid (HBAD.out (by rw [HCF.out]; simp))
          go_wp2_with fail
          go_ret3
          rw [HY.out]
          exact ⟨rfl, rfl⟩
      · have sw1 : IntKind.i64.wrap ((a : Int) + 3) = ((a + 3 : Nat) : Int) := by rw [IntWalk.i64_in _ (by omega)]; omega
        have HG1 := Lib.hid hg1
        have HG2 := Lib.hid hg2
        clear hg1 hg2
        by_cases g1 : 128 ≤ c3
        · by_cases g2 : c3 ≤ 191
          · have HCT : Hid (NM.cont c3 = true) := decide_eq_true (show 128 ≤ c3 ∧ c3 ≤ 191 from ⟨g1, g2⟩)
            have sw2 : IntKind.i64.wrap ((((f % 8 * 64 + c1 % 64) * 64 + c2 % 64 : Nat) : Int) * 64 + (c3 : Int) % 64) = ((((f % 8 * 64 + c1 % 64) * 64 + c2 % 64) * 64 + c3 % 64 : Nat) : Int) := by rw [IntWalk.i64_in _ (by omega)]; omega
            go_wp2_with fail
            go_roundw
            case rel => exact ⟨.inr (.inr (.inr (⟨HG1.out, HG2.out, HCT.out, by go_num, by go_num⟩))), by first | rfl | trivial⟩
            case measure => simp [intOf]
          · have HCF : Hid (NM.cont c3 = false) := decide_eq_false (fun h => g2 h.2)
            have HY := Lib.hid (HBAD.out (by rw [HCF.out]; simp))
            go_wp2_with fail
            go_ret3
            rw [HY.out]
            exact ⟨rfl, rfl⟩
        · have HCF : Hid (NM.cont c3 = false) := decide_eq_false (fun h => g1 h.1)
          have HY := Lib.hid (HBAD.out (by rw [HCF.out]; simp))
          go_wp2_with fail
          go_ret3
          rw [HY.out]
          exact ⟨rfl, rfl⟩
      · have HY : Hid (X = (((f % 8 * 64 + c1 % 64) * 64 + c2 % 64) * 64 + c3 % 64, 4, true)) := by
          show _ = _
          rw [← HX.out]
          unfold NM.next
          simp only [Nat.add_zero, HF.out, HC1.out, HC2.out, HC3.out, H2F.out, hg1, hg2, hg3]
          rw [if_neg (by omega)]
          rfl
        go_wp2_with fail
        go_ret3
        rw [HY.out]
        exact ⟨rfl, rfl⟩
end Go.Proofs.YtpmoanjeoaeabaaDoor
end

section
/- Texts as runes, in plain numbers: the tokens of a text; folding; words. -/
set_option linter.unusedVariables false
set_option linter.unusedSimpArgs false
namespace Go.Proofs.YtpmoanjeoaeabaaDoor.NM
/-- the rune at the head of four bytes (0: there is none) -/
def dec4 (a b c d : Nat) : Nat × Nat :=
  if long a = 1 then (a, 1)
  else if long a = 2 then if cont b && second a b then (a % 32 * 64 + b % 64, 2) else (65533, 1)
  else if long a = 3 then if cont b && second a b && cont c then ((a % 16 * 64 + b % 64) * 64 + c % 64, 3) else (65533, 1)
  else if long a = 4 then if cont b && second a b && cont c && cont d then (((a % 8 * 64 + b % 64) * 64 + c % 64) * 64 + d % 64, 4) else (65533, 1)
  else (65533, 1)
theorem long_cases (a : Nat) : long a = 0 ∨ long a = 1 ∨ long a = 2 ∨ long a = 3 ∨ long a = 4 := by
  unfold long; repeat' split
  all_goals simp
theorem cont0 : cont 0 = false := by decide
theorem dec4_next (a b c d left : Nat) (h1 : 1 ≤ left) (hb : left < 2 → b = 0) (hc : left < 3 → c = 0) (hd : left < 4 → d = 0) : ((nextN a b c d left).1, (nextN a b c d left).2.1) = dec4 a b c d := by
  unfold nextN dec4
  rcases long_cases a with h | h | h | h | h
  · rw [if_pos (.inl h)]; simp [h]
  · rw [if_neg (by omega), if_pos h, if_pos h]
  · by_cases hl : left < 2
    · rw [if_pos (.inr (by omega)), hb hl, cont0]; simp [h]
    · rw [if_neg (by omega)]; simp only [h, Nat.reduceEqDiff, reduceIte]; split <;> rfl
  · by_cases hl : left < 3
    · rw [if_pos (.inr (by omega)), hc hl, cont0]; simp [h]
    · rw [if_neg (by omega)]; simp only [h, Nat.reduceEqDiff, reduceIte]; split <;> rfl
  · by_cases hl : left < 4
    · rw [if_pos (.inr (by omega)), hd hl, cont0]; simp [h]
    · rw [if_neg (by omega)]; simp only [h, Nat.reduceEqDiff, reduceIte]; split <;> rfl
def dec (l : List Nat) : Nat × Nat := dec4 (l.getD 0 0) (l.getD 1 0) (l.getD 2 0) (l.getD 3 0)
/-- the continuing bytes with which a list begins -/
def pre (l : List Nat) : List Nat := l.takeWhile cont
theorem dec4_n (a b c d : Nat) : 1 ≤ (dec4 a b c d).2 ∧ (dec4 a b c d).2 ≤ 4 := by
  unfold dec4; repeat' split
  all_goals simp
theorem dec_n (l : List Nat) : 1 ≤ (dec l).2 := (dec4_n _ _ _ _).1
/-- the decoding hangs on the first byte and on the continuing bytes behind it alone -/
theorem dec4_pre (a b c d b' c' d' : Nat) (h1 : cont b = cont b' ∧ (cont b = true → b = b' ∧ cont c = cont c' ∧ (cont c = true → c = c' ∧ cont d = cont d' ∧ (cont d = true → d = d')))) : dec4 a b c d = dec4 a b' c' d' := by
  unfold dec4
  obtain ⟨hb, h1⟩ := h1
  cases hcb : cont b with
  | false =>
    rw [hcb] at hb
    simp only [← hb, Bool.false_and, Bool.false_eq_true, if_false]
  | true =>
    obtain ⟨rfl, hc, h1⟩ := h1 hcb
    cases hcc : cont c with
    | false =>
      rw [hcc] at hc
      simp only [hcb, ← hc, Bool.and_false, Bool.false_and, Bool.false_eq_true, if_false]
    | true =>
      obtain ⟨rfl, hd, h1⟩ := h1 hcc
      cases hcd : cont d with
      | false =>
        rw [hcd] at hd
        simp only [hcb, hcc, ← hd, Bool.and_false, Bool.false_eq_true, if_false]
      | true =>
        obtain rfl := h1 hcd
        simp only [hcb, hcc, hcd]
theorem getD_pre (l : List Nat) : ∀ m, pre l = pre m → cont (l.getD 0 0) = cont (m.getD 0 0) ∧ (cont (l.getD 0 0) = true → l.getD 0 0 = m.getD 0 0 ∧ pre (l.drop 1) = pre (m.drop 1)) := by
  intro m h
  cases l with
  | nil =>
    cases m with
    | nil => exact ⟨rfl, fun h => by simp [cont0] at h⟩
    | cons y m =>
      by_cases hy : cont y = true
      · simp [pre, List.takeWhile_cons, hy] at h
      · exact ⟨by simp [cont0] at hy ⊢; simpa using hy, fun h => by simp [cont0] at h⟩
  | cons x l =>
    by_cases hx : cont x = true
    · cases m with
      | nil => simp [pre, List.takeWhile_cons, hx] at h
      | cons y m =>
        by_cases hy : cont y = true
        · simp [pre, List.takeWhile_cons, hx, hy] at h
          obtain ⟨rfl, h⟩ := h
          exact ⟨rfl, fun _ => ⟨rfl, by simpa [pre] using h⟩⟩
        · simp [pre, List.takeWhile_cons, hx, hy] at h
    · have hx' : cont x = false := by simpa using hx
      cases m with
      | nil => exact ⟨by simp [hx', cont0], fun h => by simp [hx'] at h⟩
      | cons y m =>
        by_cases hy : cont y = true
        · simp [pre, List.takeWhile_cons, hx', hy] at h
        · have hy' : cont y = false := by simpa using hy
          exact ⟨by simp [hx', hy'], fun h => by simp [hx'] at h⟩
theorem dec_pre (x : Nat) (l m : List Nat) (h : pre l = pre m) : dec (x :: l) = dec (x :: m) := by
  unfold dec
  obtain ⟨h1, h2⟩ := getD_pre l m h
  have e : ∀ (l : List Nat) (i : Nat), (x :: l).getD (i + 1) 0 = l.getD i 0 := fun l i => by simp [List.getD]
  have e2 : ∀ (l : List Nat) (i j : Nat), (l.drop i).getD j 0 = l.getD (i + j) 0 := fun l i j => by simp [List.getD, List.getElem?_drop]
  refine dec4_pre _ _ _ _ _ _ _ ⟨by simpa [e] using h1, fun hb => ?_⟩
  obtain ⟨h3, h4⟩ := h2 (by simpa [e] using hb)
  obtain ⟨h5, h6⟩ := getD_pre _ _ h4
  refine ⟨by simpa [e] using h3, by simpa [e, e2] using h5, fun hc => ?_⟩
  obtain ⟨h7, h8⟩ := h6 (by simpa [e, e2] using hc)
  obtain ⟨h9, h10⟩ := getD_pre _ _ h8
  refine ⟨by simpa [e, e2] using h7, by simpa [e, e2, List.drop_drop] using h9, fun hd => ?_⟩
  have := (h10 (by simpa [e, e2, List.drop_drop] using hd)).1
  simpa [e, e2, List.drop_drop] using this
/-- a rune and its bytes -/
abbrev Tok := Nat × List Nat
def toksF : Nat → List Nat → List Tok
  | 0, _ => []
  | _ + 1, [] => []
  | f + 1, x :: l => ((dec (x :: l)).1, (x :: l).take (dec (x :: l)).2) :: toksF f ((x :: l).drop (dec (x :: l)).2)
theorem toksF_mono (f : Nat) : ∀ (l : List Nat), l.length ≤ f → ∀ g, l.length ≤ g → toksF f l = toksF g l := by
  induction f with
  | zero =>
    intro l h g _
    obtain rfl : l = [] := List.eq_nil_of_length_eq_zero (by omega)
    cases g <;> rfl
  | succ f ih =>
    intro l h g hg
    cases l with
    | nil => cases g <;> rfl
    | cons x l =>
      cases g with
      | zero => simp at hg
      | succ g =>
        simp only [toksF]
        have hn := dec_n (x :: l)
        have hd : ((x :: l).drop (dec (x :: l)).2).length ≤ l.length := by simp; omega
        simp only [List.length_cons] at h hg
        rw [ih _ (by omega) g (by omega)]
def toks (l : List Nat) : List Tok := toksF l.length l
theorem toks_nil : toks [] = [] := rfl
theorem toks_cons (x : Nat) (l : List Nat) : toks (x :: l) = ((dec (x :: l)).1, (x :: l).take (dec (x :: l)).2) :: toks ((x :: l).drop (dec (x :: l)).2) := by
  unfold toks
  simp only [List.length_cons, toksF]
  have hn := dec_n (x :: l)
  rw [toksF_mono _ _ (by simp; omega) _ (Nat.le_refl _)]
theorem toks_step (l : List Nat) (h : l ≠ []) : toks l = ((dec l).1, l.take (dec l).2) :: toks (l.drop (dec l).2) := by
  cases l with
  | nil => exact absurd rfl h
  | cons x l => exact toks_cons x l
/-- the bytes of some tokens -/
def cat (T : List Tok) : List Nat := (T.map (·.2)).flatten
theorem cat_nil : cat [] = [] := rfl
theorem cat_cons (t : Tok) (T : List Tok) : cat (t :: T) = t.2 ++ cat T := by simp [cat]
theorem cat_append (T U : List Tok) : cat (T ++ U) = cat T ++ cat U := by simp [cat]
theorem cat_toks (l : List Nat) : cat (toks l) = l := by
  have : ∀ n (l : List Nat), l.length ≤ n → cat (toks l) = l := by
    intro n
    induction n with
    | zero => intro l h; obtain rfl : l = [] := List.eq_nil_of_length_eq_zero (by omega); rfl
    | succ n ih =>
      intro l h
      cases l with
      | nil => rfl
      | cons x l =>
        have hn := dec_n (x :: l)
        rw [toks_cons, cat_cons, ih _ (by simp at h ⊢; omega)]
        exact List.take_append_drop _ _
  exact this _ l (Nat.le_refl _)
/-- does a list begin with a byte that does not continue (or is it empty) -/
def fresh (l : List Nat) : Prop := cont (l.getD 0 0) = false
theorem pre_fresh {l : List Nat} (h : fresh l) : pre l = [] := by
  cases l with
  | nil => rfl
  | cons x l => unfold fresh at h; simp at h; simp [pre, List.takeWhile_cons, h]
theorem pre_append (a : List Nat) {c : List Nat} (h : fresh c) : pre (a ++ c) = pre a := by
  induction a with
  | nil => simpa [pre] using pre_fresh h
  | cons x a ih =>
    unfold pre at ih ⊢
    rw [List.cons_append, List.takeWhile_cons, List.takeWhile_cons, ih]
theorem dec4_len (a b c d : Nat) : (2 ≤ (dec4 a b c d).2 → cont b = true) ∧ (3 ≤ (dec4 a b c d).2 → cont c = true) ∧ (4 ≤ (dec4 a b c d).2 → cont d = true) := by
  unfold dec4
  repeat' split
  all_goals simp_all
/-- a rune is no longer than its list -/
theorem dec_le (x : Nat) (l : List Nat) : (dec (x :: l)).2 ≤ l.length + 1 := by
  have h := dec4_len x (l.getD 0 0) (l.getD 1 0) (l.getD 2 0)
  have e : dec (x :: l) = dec4 x (l.getD 0 0) (l.getD 1 0) (l.getD 2 0) := by simp [dec, List.getD]
  rw [← e] at h
  have h4 : (dec (x :: l)).2 ≤ 4 := (dec4_n _ _ _ _).2
  obtain ⟨h1, h2, h3⟩ := h
  have z : ∀ i, l.length ≤ i → cont (l.getD i 0) = false := fun i hi => by simp [List.getD, List.getElem?_eq_none hi, cont0]
  by_cases g1 : (dec (x :: l)).2 ≤ 1
  · omega
  · by_cases l0 : l.length ≤ 0
    · have := h1 (by omega); rw [z 0 l0] at this; cases this
    · by_cases g2 : (dec (x :: l)).2 ≤ 2
      · omega
      · by_cases l1 : l.length ≤ 1
        · have := h2 (by omega); rw [z 1 l1] at this; cases this
        · by_cases g3 : (dec (x :: l)).2 ≤ 3
          · omega
          · by_cases l2 : l.length ≤ 2
            · have := h3 (by omega); rw [z 2 l2] at this; cases this
            · omega
/-- tokens of two texts put together -/
theorem toks_append (c : List Nat) (h : fresh c) : ∀ a, toks (a ++ c) = toks a ++ toks c := by
  have : ∀ n (a : List Nat), a.length ≤ n → toks (a ++ c) = toks a ++ toks c := by
    intro n
    induction n with
    | zero => intro a ha; obtain rfl : a = [] := List.eq_nil_of_length_eq_zero (by omega); rfl
    | succ n ih =>
      intro a ha
      cases a with
      | nil => rfl
      | cons x a =>
        have hn := dec_n (x :: a)
        have hle := dec_le x a
        have e : dec (x :: (a ++ c)) = dec (x :: a) := dec_pre x _ _ (pre_append a h)
        rw [List.cons_append, toks_cons, e, toks_cons, List.cons_append]
        have e1 : (x :: (a ++ c)).take (dec (x :: a)).2 = (x :: a).take (dec (x :: a)).2 := by
          rw [← List.cons_append, List.take_append_of_le_length (by simp; omega)]
        have e2 : (x :: (a ++ c)).drop (dec (x :: a)).2 = (x :: a).drop (dec (x :: a)).2 ++ c := by
          rw [← List.cons_append, List.drop_append_of_le_length (by simp; omega)]
        rw [e1, e2, ih _ (by simp at ha ⊢; omega)]
  exact fun a => this _ a (Nat.le_refl _)
end Go.Proofs.YtpmoanjeoaeabaaDoor.NM
end

section
/- Texts as runes, in plain numbers: folding, words, the order. -/
set_option linter.unusedVariables false
set_option linter.unusedSimpArgs false
namespace Go.Proofs.YtpmoanjeoaeabaaDoor.NM
def letterP (r : Nat) : Bool := decide (97 ≤ r ∧ r ≤ 122 ∨ r = 228 ∨ r = 246 ∨ r = 252 ∨ r = 223 ∨ 945 ≤ r ∧ r ≤ 969)
def blankP (r : Nat) : Bool := decide (r = 9 ∨ r = 32 ∨ r = 160 ∨ r = 8195)
def smallP (r : Nat) : Nat := if 65 ≤ r ∧ r ≤ 90 ∨ r = 196 ∨ r = 214 ∨ r = 220 ∨ 913 ≤ r ∧ r ≤ 937 ∧ r ≠ 930 then r + 32 else r
/-- a rune's bytes -/
def enc (c : Nat) : List Nat :=
  if c < 128 then [c] else if c < 2048 then [192 + c / 64, 128 + c % 64]
  else if c < 65536 then [224 + c / 4096, 128 + c / 64 % 64, 128 + c % 64]
  else [240 + c / 262144, 128 + c / 4096 % 64, 128 + c / 64 % 64, 128 + c % 64]
theorem long_of1 {a : Nat} (h : long a = 1) : a < 128 := by
  unfold long at h
  repeat' split at h
  all_goals first | assumption | omega
theorem long_of2 {a : Nat} (h : long a = 2) : 194 ≤ a ∧ a ≤ 223 := by
  unfold long at h
  repeat' split at h
  all_goals first | assumption | omega
theorem long_of3 {a : Nat} (h : long a = 3) : 224 ≤ a ∧ a ≤ 239 := by
  unfold long at h
  repeat' split at h
  all_goals first | assumption | omega
theorem long_of4 {a : Nat} (h : long a = 4) : 240 ≤ a ∧ a ≤ 244 := by
  unfold long at h
  repeat' split at h
  all_goals first | assumption | omega
theorem cont_of {b : Nat} (h : cont b = true) : 128 ≤ b ∧ b ≤ 191 := by unfold cont at h; simpa using h
theorem second_of {a b : Nat} (h : second a b = true) : (a = 224 → 160 ≤ b) ∧ (a = 240 → 144 ≤ b) := by
  unfold second at h
  refine ⟨fun e => ?_, fun e => ?_⟩ <;> subst e <;> simp at h <;> omega
theorem dec4_enc (a b c d r n : Nat) (h : dec4 a b c d = (r, n)) (hr : r ≠ 65533) : [a, b, c, d].take n = enc r := by
  unfold dec4 at h
  split at h
  · rename_i h1
    injection h with e1 e2
    subst e1 e2
    have := long_of1 h1
    simp [enc, this]
  split at h
  · rename_i h2
    split at h
    · rename_i hc
      simp at hc
      have := cont_of hc.1
      have hl := long_of2 h2
      injection h with e1 e2
      subst e2
      have q1 : ¬ r < 128 := by omega
      have q2 : r < 2048 := by omega
      simp only [enc, if_neg q1, if_pos q2, List.take_succ_cons, List.take_zero]
      rw [show 192 + r / 64 = a by omega, show 128 + r % 64 = b by omega]
    · injection h with e1 e2; exact absurd e1.symm hr
  split at h
  · rename_i h3
    split at h
    · rename_i hc
      simp at hc
      have := cont_of hc.1.1
      have hcc := cont_of hc.2
      have hs := second_of hc.1.2
      have hl := long_of3 h3
      injection h with e1 e2
      subst e2
      have q1 : ¬ r < 128 := by omega
      have q2 : ¬ r < 2048 := by omega
      have q3 : r < 65536 := by omega
      simp only [enc, if_neg q1, if_neg q2, if_pos q3, List.take_succ_cons, List.take_zero]
      rw [show 224 + r / 4096 = a by omega, show 128 + r / 64 % 64 = b by omega, show 128 + r % 64 = c by omega]
    · injection h with e1 e2; exact absurd e1.symm hr
  split at h
  · rename_i h4
    split at h
    · rename_i hc
      simp at hc
      have hcb := cont_of hc.1.1.1
      have hcc := cont_of hc.1.2
      have hcd := cont_of hc.2
      have hs := second_of hc.1.1.2
      have hl := long_of4 h4
      injection h with e1 e2
      subst e2
      have q1 : ¬ r < 128 := by omega
      have q2 : ¬ r < 2048 := by omega
      have q3 : ¬ r < 65536 := by omega
      simp only [enc, if_neg q1, if_neg q2, if_neg q3, List.take_succ_cons, List.take_zero]
      rw [show 240 + r / 262144 = a by omega, show 128 + r / 4096 % 64 = b by omega, show 128 + r / 64 % 64 = c by omega, show 128 + r % 64 = d by omega]
    · injection h with e1 e2; exact absurd e1.symm hr
  · injection h with e1 e2; exact absurd e1.symm hr
theorem take4 (l : List Nat) (n : Nat) (h : n ≤ l.length) (h4 : n ≤ 4) : l.take n = [l.getD 0 0, l.getD 1 0, l.getD 2 0, l.getD 3 0].take n := by
  match n, h4 with
  | 0, _ => rfl
  | 1, _ => match l, h with | [_], _ => rfl | _ :: _ :: _, _ => rfl
  | 2, _ => match l, h with | _ :: _ :: _, _ => rfl
  | 3, _ => match l, h with | _ :: _ :: _ :: _, _ => rfl
  | 4, _ => match l, h with | _ :: _ :: _ :: _ :: _, _ => rfl
theorem dec_enc (x : Nat) (l : List Nat) (hr : (dec (x :: l)).1 ≠ 65533) : (x :: l).take (dec (x :: l)).2 = enc (dec (x :: l)).1 := by
  rw [take4 (x :: l) (dec (x :: l)).2 (dec_le x l) (dec4_n _ _ _ _).2]
  exact dec4_enc _ _ _ _ _ _ rfl hr
/-- the tokens of a text whose rune is one have just its bytes -/
theorem toks_enc (l : List Nat) : ∀ t ∈ toks l, t.2 ≠ [] ∧ (t.1 ≠ 65533 → t.2 = enc t.1) := by
  have : ∀ n (l : List Nat), l.length ≤ n → ∀ t ∈ toks l, t.2 ≠ [] ∧ (t.1 ≠ 65533 → t.2 = enc t.1) := by
    intro n
    induction n with
    | zero => intro l h; obtain rfl : l = [] := List.eq_nil_of_length_eq_zero (by omega); intro t ht; cases ht
    | succ n ih =>
      intro l h
      cases l with
      | nil => intro t ht; cases ht
      | cons x l =>
        have hn := dec_n (x :: l)
        rw [toks_cons]
        intro t ht
        cases ht with
        | head => exact ⟨by intro e; rw [List.take_eq_nil_iff] at e; simp at e; omega, dec_enc x l⟩
        | tail _ ht => exact ih _ (by simp at h ⊢; omega) t ht
  exact this _ l (Nat.le_refl _)
theorem dec_small (c : Nat) (h : c < 2048) (l : List Nat) : dec (enc c ++ l) = (c, (enc c).length) := by
  by_cases h1 : c < 128
  · simp [enc, h1, dec, dec4, long_1 h1]
  · have hl : long (192 + c / 64) = 2 := long_2 (by omega)
    have hb : cont (128 + c % 64) = true := by unfold cont; apply decide_eq_true; omega
    have hs : second (192 + c / 64) (128 + c % 64) = true := by
      unfold second
      rw [if_neg (by omega), if_neg (by omega), if_neg (by omega), if_neg (by omega)]
      apply decide_eq_true; omega
    simp only [enc, if_neg h1, if_pos h, dec, List.cons_append, List.nil_append]
    simp only [List.getD_cons_zero, List.getD_cons_succ, dec4, hl, hb, hs]
    simp
    omega
def foldT (t : Tok) : Tok := if smallP t.1 = t.1 then t else (smallP t.1, enc (smallP t.1))
def foldB (T : List Tok) : List Nat := cat (T.map foldT)
theorem foldB_cons (t : Tok) (T : List Tok) : foldB (t :: T) = (foldT t).2 ++ foldB T := by simp [foldB, cat_cons]
theorem small_lt (r : Nat) (h : smallP r ≠ r) : smallP r < 2048 := by
  unfold smallP at h ⊢
  split at h
  · rename_i hc; rw [if_pos hc]; omega
  · exact absurd rfl h
theorem small_small (r : Nat) : smallP (smallP r) = smallP r := by
  by_cases h : smallP r = r
  · rw [h, h]
  · have e : smallP r = r + 32 := by
      unfold smallP at h ⊢
      split
      · rfl
      · rename_i hc; rw [if_neg hc] at h; exact absurd rfl h
    have hc : 65 ≤ r ∧ r ≤ 90 ∨ r = 196 ∨ r = 214 ∨ r = 220 ∨ 913 ≤ r ∧ r ≤ 937 ∧ r ≠ 930 := by
      unfold smallP at h
      split at h
      · assumption
      · exact absurd rfl h
    rw [e]
    unfold smallP
    rw [if_neg (by omega)]
theorem enc_fresh (c : Nat) (h : c < 2048) (h1 : c < 128 ∨ 128 ≤ c) (l : List Nat) : fresh (enc c ++ l) := by
  unfold fresh cont
  apply decide_eq_false
  by_cases h1 : c < 128
  · simp [enc, h1]; omega
  · simp [enc, h1, h]; omega
theorem pre_congr {u v : List Nat} (h : pre u = pre v) (a : List Nat) : pre (a ++ u) = pre (a ++ v) := by
  induction a with
  | nil => exact h
  | cons x a ih =>
    unfold pre at ih ⊢
    rw [List.cons_append, List.cons_append, List.takeWhile_cons, List.takeWhile_cons, ih]
theorem pre_fold (l : List Nat) : pre (foldB (toks l)) = pre l := by
  have : ∀ n (l : List Nat), l.length ≤ n → pre (foldB (toks l)) = pre l := by
    intro n
    induction n with
    | zero => intro l h; obtain rfl : l = [] := List.eq_nil_of_length_eq_zero (by omega); rfl
    | succ n ih =>
      intro l h
      cases l with
      | nil => rfl
      | cons x l =>
        have hn := dec_n (x :: l)
        have hi := ih ((x :: l).drop (dec (x :: l)).2) (by simp at h ⊢; omega)
        rw [toks_cons, foldB_cons]
        by_cases hs : smallP (dec (x :: l)).1 = (dec (x :: l)).1
        · have e : (foldT ((dec (x :: l)).1, (x :: l).take (dec (x :: l)).2)).2 = (x :: l).take (dec (x :: l)).2 := by unfold foldT; rw [if_pos hs]
          rw [e, pre_congr hi, List.take_append_drop]
        · have e : (foldT ((dec (x :: l)).1, (x :: l).take (dec (x :: l)).2)).2 = enc (smallP (dec (x :: l)).1) := by unfold foldT; rw [if_neg hs]
          rw [e, pre_fresh (enc_fresh _ (small_lt _ hs) (by omega) _)]
          have hr : (dec (x :: l)).1 ≠ 65533 := by intro e; rw [e] at hs; exact hs (by decide)
          have hb := dec_enc x l hr
          have hc : (dec (x :: l)).1 < 2048 := by
            have := small_lt _ hs
            have h2 : (dec (x :: l)).1 ≤ smallP (dec (x :: l)).1 := by unfold smallP; split <;> omega
            omega
          have : fresh (x :: l) := by
            have := enc_fresh (dec (x :: l)).1 hc (by omega) ((x :: l).drop (dec (x :: l)).2)
            rw [← hb, List.take_append_drop] at this
            exact this
          exact (pre_fresh this).symm
  exact this _ l (Nat.le_refl _)
/-- the tokens of a folded text -/
theorem toks_fold (l : List Nat) : toks (foldB (toks l)) = (toks l).map foldT := by
  have : ∀ n (l : List Nat), l.length ≤ n → toks (foldB (toks l)) = (toks l).map foldT := by
    intro n
    induction n with
    | zero => intro l h; obtain rfl : l = [] := List.eq_nil_of_length_eq_zero (by omega); rfl
    | succ n ih =>
      intro l h
      cases l with
      | nil => rfl
      | cons x l =>
        have hn := dec_n (x :: l)
        have hle := dec_le x l
        have hi := ih ((x :: l).drop (dec (x :: l)).2) (by simp at h ⊢; omega)
        have hp := pre_fold ((x :: l).drop (dec (x :: l)).2)
        rw [toks_cons, foldB_cons, List.map_cons]
        by_cases hs : smallP (dec (x :: l)).1 = (dec (x :: l)).1
        · have e : foldT ((dec (x :: l)).1, (x :: l).take (dec (x :: l)).2) = ((dec (x :: l)).1, (x :: l).take (dec (x :: l)).2) := by unfold foldT; rw [if_pos hs]
          rw [e]
          obtain ⟨m, hm⟩ : ∃ m, (dec (x :: l)).2 = m + 1 := ⟨(dec (x :: l)).2 - 1, by omega⟩
          have ht : (x :: l).take (dec (x :: l)).2 = x :: l.take m := by rw [hm]; rfl
          have hdp : (x :: l).drop (dec (x :: l)).2 = l.drop m := by rw [hm]; rfl
          have hd : dec (x :: (l.take m ++ foldB (toks (l.drop m)))) = dec (x :: l) := by
            rw [hdp] at hp
            refine dec_pre x _ _ ?_
            rw [pre_congr hp, List.take_append_drop]
          rw [hdp] at hi
          rw [ht, hdp]
          simp only [List.cons_append]
          rw [toks_cons, hd, hm]
          have hlm : (l.take m).length = m := by rw [List.length_take]; omega
          simp only [List.take_succ_cons, List.drop_succ_cons]
          rw [List.take_append_of_le_length (by omega), List.take_of_length_le (by omega), List.drop_append_of_le_length (by omega), List.drop_of_length_le (by omega), List.nil_append, hi]
        · have hsl := small_lt _ hs
          have e : foldT ((dec (x :: l)).1, (x :: l).take (dec (x :: l)).2) = (smallP (dec (x :: l)).1, enc (smallP (dec (x :: l)).1)) := by unfold foldT; rw [if_neg hs]
          rw [e]
          have hd := dec_small (smallP (dec (x :: l)).1) hsl (foldB (toks ((x :: l).drop (dec (x :: l)).2)))
          rw [toks_step _ (by intro e2; have := congrArg List.length e2; simp [enc] at this; split at this <;> simp at this), hd]
          simp only
          rw [List.take_left, List.drop_left, hi]
  exact this _ l (Nat.le_refl _)
theorem foldT_foldT (t : Tok) : foldT (foldT t) = foldT t := by
  by_cases h : smallP t.1 = t.1
  · have e : foldT t = t := by unfold foldT; rw [if_pos h]
    rw [e, e]
  · have e : foldT t = (smallP t.1, enc (smallP t.1)) := by unfold foldT; rw [if_neg h]
    rw [e]; unfold foldT; rw [if_pos (small_small _)]
/-- folded twice is folded once -/
theorem fold_fold (l : List Nat) : foldB (toks (foldB (toks l))) = foldB (toks l) := by
  rw [toks_fold]
  unfold foldB
  rw [List.map_map]
  congr 1
  apply List.map_congr_left
  intro t _
  exact foldT_foldT t
/-- is a token one of a name, behind n others -/
def okT (n : Nat) (r : Nat) : Bool := letterP r || (decide (0 < n) && (decide (r = 45) || decide (48 ≤ r ∧ r ≤ 57)))
def isT : Nat → List Tok → Bool
  | n, [] => decide (1 ≤ n ∧ n ≤ 8)
  | n, t :: T => okT n t.1 && isT (n + 1) T
theorem okT_small {n r : Nat} (h : okT n r = true) : smallP r = r ∧ r ≠ 65533 := by
  unfold okT letterP at h
  simp at h
  unfold smallP
  rw [if_neg (by omega)]
  exact ⟨rfl, by omega⟩
theorem isT_small : ∀ (T : List Tok) (n : Nat), isT n T = true → ∀ t ∈ T, smallP t.1 = t.1 ∧ t.1 ≠ 65533
  | [], _, _, _, h => by cases h
  | u :: T, n, h, t, ht => by
    simp only [isT, Bool.and_eq_true] at h
    cases ht with
    | head => exact okT_small h.1
    | tail _ ht => exact isT_small T (n + 1) h.2 t ht
/-- a name is folded -/
theorem is_fold (l : List Nat) (h : isT 0 (toks l) = true) : foldB (toks l) = l := by
  have : (toks l).map foldT = toks l := by
    conv => rhs; rw [← List.map_id (toks l)]
    apply List.map_congr_left
    intro t ht
    unfold foldT
    rw [if_pos (isT_small _ _ h t ht).1]
    rfl
  unfold foldB
  rw [this, cat_toks]
end Go.Proofs.YtpmoanjeoaeabaaDoor.NM
end

section
/- Texts as runes, in plain numbers: words; the order. -/
set_option linter.unusedVariables false
set_option linter.unusedSimpArgs false
namespace Go.Proofs.YtpmoanjeoaeabaaDoor.NM
/-- groups of tokens between blanks -/
def wordsT : List Tok → List Tok → List (List Tok)
  | cur, [] => if cur = [] then [] else [cur]
  | cur, t :: T => if blankP t.1 then (if cur = [] then wordsT [] T else cur :: wordsT [] T) else wordsT (cur ++ [t]) T
theorem wordsT_nil (cur : List Tok) : wordsT cur [] = if cur = [] then [] else [cur] := by rw [wordsT]
theorem wordsT_cons (cur : List Tok) (t : Tok) (T : List Tok) : wordsT cur (t :: T) = if blankP t.1 then (if cur = [] then wordsT [] T else cur :: wordsT [] T) else wordsT (cur ++ [t]) T := by rw [wordsT]
def words (l : List Nat) : List (List Nat) := (wordsT [] (toks l)).map cat
theorem wordsT_blank (t : Tok) (h : blankP t.1 = true) (B : List Tok) : ∀ (A cur : List Tok), wordsT cur (A ++ t :: B) = wordsT cur A ++ wordsT [] B := by
  intro A
  induction A with
  | nil =>
    intro cur
    rw [List.nil_append, wordsT_cons, if_pos h, wordsT_nil]
    by_cases hc : cur = []
    · rw [if_pos hc, if_pos hc]; rfl
    · rw [if_neg hc, if_neg hc]; rfl
  | cons a A ih =>
    intro cur
    rw [List.cons_append, wordsT_cons, wordsT_cons, ih, ih]
    by_cases ha : blankP a.1 = true
    · rw [if_pos ha, if_pos ha]
      by_cases hc : cur = []
      · rw [if_pos hc, if_pos hc]
      · rw [if_neg hc, if_neg hc]; rfl
    · rw [if_neg ha, if_neg ha]
theorem toks_32 (b : List Nat) : toks (32 :: b) = (32, [32]) :: toks b := by
  have : dec (32 :: b) = (32, 1) := by simp [dec, dec4, long_1]
  rw [toks_cons, this]; rfl
theorem toks_apart (a b : List Nat) : toks (a ++ 32 :: b) = toks a ++ (32, [32]) :: toks b := by
  rw [toks_append (32 :: b) (show cont 32 = false by decide) a, toks_32]
/-- the words of two lines with a blank between -/
theorem words_apart (a b : List Nat) : words (a ++ 32 :: b) = words a ++ words b := by
  unfold words
  rw [toks_apart, wordsT_blank _ (by decide), List.map_append]
/-- what stands at the end of a text's tokens is what is read there -/
theorem toks_suffix : ∀ (A : List Tok) (l : List Nat) (B : List Tok), toks l = A ++ B → toks (cat B) = B := by
  intro A
  induction A with
  | nil => intro l B h; rw [List.nil_append] at h; rw [← h, cat_toks]
  | cons a A ih =>
    intro l B h
    cases l with
    | nil => cases h
    | cons x l =>
      rw [toks_cons, List.cons_append] at h
      injection h with _ h
      exact ih _ B h
theorem blank_small (r : Nat) : blankP (smallP r) = blankP r := by
  unfold smallP
  split
  · rename_i h
    unfold blankP
    rw [decide_eq_decide]
    omega
  · rfl
theorem blank_fresh (l : List Nat) (t : Tok) (T : List Tok) (h : toks l = t :: T) (hb : blankP t.1 = true) : fresh l := by
  cases l with
  | nil => cases h
  | cons x l =>
    have he := toks_enc (x :: l) t (by rw [h]; exact .head _)
    rw [toks_cons] at h
    injection h with h1 h2
    have hr : t.1 = 9 ∨ t.1 = 32 ∨ t.1 = 160 ∨ t.1 = 8195 := by unfold blankP at hb; simpa using hb
    have hx := he.2 (by omega)
    have hl : (x :: l).take (dec (x :: l)).2 = enc t.1 := by rw [← h1] at hx ⊢; exact hx
    have hn := dec_n (x :: l)
    obtain ⟨m, hm⟩ : ∃ m, (dec (x :: l)).2 = m + 1 := ⟨(dec (x :: l)).2 - 1, by omega⟩
    rw [hm, List.take_succ_cons] at hl
    have hx2 : x = (enc t.1).getD 0 0 := by rw [← hl]; rfl
    unfold fresh
    show cont x = false
    rw [hx2]
    rcases hr with e | e | e | e <;> rw [e] <;> decide
/-- each group is what is read in its bytes; none is empty, none has a blank -/
theorem wordsT_good : ∀ (T cur : List Tok) (l : List Nat) (A : List Tok), toks l = A ++ (cur ++ T) → (∀ t ∈ cur, blankP t.1 = false) → ∀ g ∈ wordsT cur T, toks (cat g) = g ∧ g ≠ [] ∧ ∀ t ∈ g, blankP t.1 = false := by
  intro T
  induction T with
  | nil =>
    intro cur l A h hn g hg
    rw [wordsT_nil] at hg
    by_cases hc : cur = []
    · rw [if_pos hc] at hg; cases hg
    · rw [if_neg hc, List.mem_singleton] at hg
      subst hg
      rw [List.append_nil] at h
      exact ⟨toks_suffix A l _ h, hc, hn⟩
  | cons t T ih =>
    intro cur l A h hn g hg
    rw [wordsT_cons] at hg
    by_cases hb : blankP t.1 = true
    · rw [if_pos hb] at hg
      have h2 : toks l = (A ++ cur ++ [t]) ++ ([] ++ T) := by rw [h]; simp
      have hs := toks_suffix (A ++ cur) l (t :: T) (by rw [h]; simp)
      have hw := toks_suffix A l (cur ++ t :: T) h
      rw [cat_append, toks_append _ (blank_fresh _ t T hs hb), hs] at hw
      have hcur : toks (cat cur) = cur := List.append_cancel_right hw
      by_cases hc : cur = []
      · rw [if_pos hc] at hg
        exact ih [] l _ h2 (by simp) g hg
      · rw [if_neg hc] at hg
        cases hg with
        | head => exact ⟨hcur, hc, hn⟩
        | tail _ hg => exact ih [] l _ h2 (by simp) g hg
    · rw [if_neg hb] at hg
      have hb' : blankP t.1 = false := by simpa using hb
      refine ih (cur ++ [t]) l A (by rw [h]; simp) ?_ g hg
      intro u hu
      rw [List.mem_append, List.mem_singleton] at hu
      rcases hu with hu | rfl
      · exact hn u hu
      · exact hb'
theorem wordsT_none : ∀ (T cur : List Tok), (∀ t ∈ T, blankP t.1 = false) → wordsT cur T = if cur ++ T = [] then [] else [cur ++ T] := by
  intro T
  induction T with
  | nil => intro cur _; rw [wordsT_nil, List.append_nil]
  | cons t T ih =>
    intro cur h
    rw [wordsT_cons, if_neg (by rw [h t (.head _)]; simp), ih _ (fun u hu => h u (.tail _ hu))]
    simp
/-- a word's words: itself -/
theorem words_word (l : List Nat) : ∀ w ∈ words l, w ≠ [] ∧ words w = [w] := by
  intro w hw
  obtain ⟨g, hg, rfl⟩ := List.mem_map.1 hw
  obtain ⟨h1, h2, h3⟩ := wordsT_good (toks l) [] l [] rfl (by simp) g hg
  refine ⟨fun e => h2 (by rw [← h1, e]; rfl), ?_⟩
  unfold words
  rw [h1, wordsT_none g [] h3]
  simp [h2]
theorem wordsT_fold : ∀ (T cur : List Tok), wordsT (cur.map foldT) (T.map foldT) = (wordsT cur T).map (·.map foldT) := by
  have hb : ∀ t : Tok, blankP (foldT t).1 = blankP t.1 := by
    intro t
    unfold foldT
    split
    · rfl
    · exact blank_small t.1
  intro T
  induction T with
  | nil => intro cur; rw [List.map_nil, wordsT_nil, wordsT_nil]; by_cases hc : cur = [] <;> simp [hc]
  | cons t T ih =>
    intro cur
    rw [List.map_cons, wordsT_cons, wordsT_cons, hb]
    have i1 := ih []
    rw [List.map_nil] at i1
    have i2 := ih (cur ++ [t])
    rw [List.map_append, List.map_singleton] at i2
    rw [i1, i2]
    by_cases h : blankP t.1 = true
    · rw [if_pos h, if_pos h]
      by_cases hc : cur = []
      · simp [hc]
      · rw [if_neg hc, if_neg (by simpa using hc), List.map_cons]
    · rw [if_neg h, if_neg h]
/-- the words of a folded line -/
theorem words_fold (l : List Nat) : words (foldB (toks l)) = (words l).map fun w => foldB (toks w) := by
  unfold words
  rw [toks_fold, List.map_map]
  have := wordsT_fold (toks l) []
  rw [List.map_nil] at this
  rw [this, List.map_map]
  apply List.map_congr_left
  intro g hg
  obtain ⟨h1, _, _⟩ := wordsT_good (toks l) [] l [] rfl (by simp) g hg
  show cat (g.map foldT) = foldB (toks (cat g))
  rw [h1]
  rfl
/-- the order, rune by rune -/
def cmpT : List Tok → List Tok → Int
  | [], [] => 0
  | [], _ :: _ => -1
  | _ :: _, [] => 1
  | a :: A, b :: B => if a.1 < b.1 then -1 else if b.1 < a.1 then 1 else cmpT A B
theorem cmpT_range : ∀ A B : List Tok, cmpT A B = -1 ∨ cmpT A B = 0 ∨ cmpT A B = 1
  | [], [] => by simp [cmpT]
  | [], _ :: _ => by simp [cmpT]
  | _ :: _, [] => by simp [cmpT]
  | a :: A, b :: B => by
    rw [cmpT]
    split
    · simp
    · split
      · simp
      · exact cmpT_range A B
theorem cmpT_back : ∀ A B : List Tok, cmpT B A = -cmpT A B
  | [], [] => by simp [cmpT]
  | [], _ :: _ => by simp [cmpT]
  | _ :: _, [] => by simp [cmpT]
  | a :: A, b :: B => by
    rw [cmpT, cmpT]
    by_cases h : a.1 < b.1
    · rw [if_neg (by omega), if_pos h, if_pos h]; rfl
    · by_cases h2 : b.1 < a.1
      · rw [if_pos h2, if_neg h, if_pos h2]
      · rw [if_neg h2, if_neg h, if_neg h, if_neg h2]; exact cmpT_back A B
theorem cmpT_zero : ∀ A B : List Tok, cmpT A B = 0 → A.map (·.1) = B.map (·.1)
  | [], [], _ => rfl
  | [], _ :: _, h => by simp [cmpT] at h
  | _ :: _, [], h => by simp [cmpT] at h
  | a :: A, b :: B, h => by
    rw [cmpT] at h
    split at h
    · cases h
    · split at h
      · cases h
      · rw [List.map_cons, List.map_cons, cmpT_zero A B h, show a.1 = b.1 by omega]
theorem cmpT_self : ∀ A B : List Tok, A.map (·.1) = B.map (·.1) → cmpT A B = 0
  | [], [], _ => rfl
  | [], _ :: _, h => by simp at h
  | _ :: _, [], h => by simp at h
  | a :: A, b :: B, h => by
    simp only [List.map_cons, List.cons.injEq] at h
    rw [cmpT, if_neg (by omega), if_neg (by omega)]
    exact cmpT_self A B h.2
theorem cmpT_congr : ∀ A B C : List Tok, A.map (·.1) = B.map (·.1) → cmpT A C = cmpT B C
  | [], [], _, _ => rfl
  | [], _ :: _, _, h => by simp at h
  | _ :: _, [], _, h => by simp at h
  | a :: A, b :: B, [], _ => rfl
  | a :: A, b :: B, c :: C, h => by
    simp only [List.map_cons, List.cons.injEq] at h
    rw [cmpT, cmpT, h.1, cmpT_congr A B C h.2]
theorem cmpT_less : ∀ A B C : List Tok, cmpT A B = -1 → cmpT B C = -1 → cmpT A C = -1
  | [], [], _, h, _ => by simp [cmpT] at h
  | [], _ :: _, [], _, h => by simp [cmpT] at h
  | [], _ :: _, _ :: _, _, _ => rfl
  | _ :: _, [], _, h, _ => by simp [cmpT] at h
  | _ :: _, _ :: _, [], _, h => by simp [cmpT] at h
  | a :: A, b :: B, c :: C, h, k => by
    rw [cmpT] at h k ⊢
    split at h
    · split at k
      · rw [if_pos (by omega)]
      · split at k
        · cases k
        · rw [if_pos (by omega)]
    · split at h
      · cases h
      · split at k
        · rw [if_pos (by omega)]
        · split at k
          · cases k
          · rw [if_neg (by omega), if_neg (by omega)]; exact cmpT_less A B C h k
/-- the order goes on -/
theorem cmpT_on (A B C : List Tok) (h : cmpT A B = cmpT B C) : cmpT A C = cmpT A B := by
  rcases cmpT_range A B with e | e | e
  · rw [e]; exact cmpT_less A B C e (by omega)
  · rw [cmpT_congr A B C (cmpT_zero A B e)]; omega
  · have h1 := cmpT_back A B
    have h2 := cmpT_back B C
    have h3 := cmpT_back A C
    have := cmpT_less C B A (by omega) (by omega)
    omega
/-- two names of the same runes are the same -/
theorem name_eq (a b : List Nat) (ha : isT 0 (toks a) = true) (hb : isT 0 (toks b) = true) (h : (toks a).map (·.1) = (toks b).map (·.1)) : a = b := by
  have key : ∀ (A B : List Tok), (∀ t ∈ A, t.2 = enc t.1) → (∀ t ∈ B, t.2 = enc t.1) → A.map (·.1) = B.map (·.1) → A = B := by
    intro A
    induction A with
    | nil => intro B _ _ h; cases B with | nil => rfl | cons => cases h
    | cons x A ih =>
      intro B h1 h2 h
      cases B with
      | nil => cases h
      | cons y B =>
        simp only [List.map_cons, List.cons.injEq] at h
        rw [ih B (fun t ht => h1 t (.tail _ ht)) (fun t ht => h2 t (.tail _ ht)) h.2]
        have e1 := h1 x (.head _)
        have e2 := h2 y (.head _)
        rw [h.1, ← e2] at e1
        rw [Prod.ext h.1 e1]
  have := key (toks a) (toks b) (fun t ht => (toks_enc a t ht).2 (isT_small _ _ ha t ht).2) (fun t ht => (toks_enc b t ht).2 (isT_small _ _ hb t ht).2) h
  rw [← cat_toks a, this, cat_toks]
end Go.Proofs.YtpmoanjeoaeabaaDoor.NM
end
