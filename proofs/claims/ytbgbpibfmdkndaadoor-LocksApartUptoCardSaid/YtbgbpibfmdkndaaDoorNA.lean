/- The document's reading of a rune, in plain numbers, and that it is the model's. -/
import GoSem.Core.Utf8
set_option linter.unusedVariables false
set_option linter.unusedSimpArgs false
namespace Go.Proofs.YtbgbpibfmdkndaaDoor.NM
/-- how many bytes the rune has that begins with a byte -/
def long (b : Nat) : Nat := if b < 128 then 1 else if 194 ≤ b ∧ b ≤ 223 then 2 else if 224 ≤ b ∧ b ≤ 239 then 3 else if 240 ≤ b ∧ b ≤ 244 then 4 else 0
/-- may a byte be the second one -/
def second (f b : Nat) : Bool := if f = 224 then decide (160 ≤ b ∧ b ≤ 191) else if f = 237 then decide (128 ≤ b ∧ b ≤ 159) else if f = 240 then decide (144 ≤ b ∧ b ≤ 191) else if f = 244 then decide (128 ≤ b ∧ b ≤ 143) else decide (128 ≤ b ∧ b ≤ 191)
def cont (b : Nat) : Bool := decide (128 ≤ b ∧ b ≤ 191)
/-- the byte at a place -/
def byteAt (s : ByteArray) (i : Nat) : Nat := (s.get! i).toNat
theorem byte_lt (s : ByteArray) (i : Nat) : byteAt s i < 256 := (s.get! i).toNat_lt
/-- the document's rune at a place: its number, its bytes, whether one begins there -/
def next (s : ByteArray) (at_ : Nat) : Nat × Nat × Bool :=
  let b (k : Nat) := byteAt s (at_ + k)
  if long (b 0) = 0 ∨ s.size - at_ < long (b 0) then (65533, 1, false)
  else if long (b 0) = 1 then (b 0, 1, true)
  else if long (b 0) = 2 then
    if cont (b 1) && second (b 0) (b 1) then (b 0 % 32 * 64 + b 1 % 64, 2, true) else (65533, 1, false)
  else if long (b 0) = 3 then
    if cont (b 1) && second (b 0) (b 1) && cont (b 2) then ((b 0 % 16 * 64 + b 1 % 64) * 64 + b 2 % 64, 3, true) else (65533, 1, false)
  else
    if cont (b 1) && second (b 0) (b 1) && cont (b 2) && cont (b 3) then (((b 0 % 8 * 64 + b 1 % 64) * 64 + b 2 % 64) * 64 + b 3 % 64, 4, true) else (65533, 1, false)
theorem long_1 {a : Nat} (h : a < 128) : long a = 1 := by unfold long; rw [if_pos h]
theorem long_2 {a : Nat} (h : 194 ≤ a ∧ a ≤ 223) : long a = 2 := by unfold long; rw [if_neg (by omega), if_pos h]
theorem long_3 {a : Nat} (h : 224 ≤ a ∧ a ≤ 239) : long a = 3 := by unfold long; rw [if_neg (by omega), if_neg (by omega), if_pos h]
theorem long_4 {a : Nat} (h : 240 ≤ a ∧ a ≤ 244) : long a = 4 := by unfold long; rw [if_neg (by omega), if_neg (by omega), if_neg (by omega), if_pos h]
theorem long_0 {a : Nat} (h : 128 ≤ a ∧ a < 194 ∨ 245 ≤ a) : long a = 0 := by unfold long; rw [if_neg (by omega), if_neg (by omega), if_neg (by omega), if_neg (by omega)]
theorem cont_iff (b : Nat) (h : b < 256) : (b / 64 == 2) = cont b := by
  unfold cont
  by_cases hb : 128 ≤ b ∧ b ≤ 191
  · rw [decide_eq_true hb, beq_iff_eq]; omega
  · rw [decide_eq_false hb, beq_eq_false_iff_ne]; omega
/-- the model's reading, in plain numbers -/
def decN (a b c d left : Nat) : Nat × Nat :=
  if a < 128 then (a, 1)
  else if a / 32 == 6 && (decide (1 < left) && cont b) then
    if a % 32 * 64 + b % 64 ≥ 128 then (a % 32 * 64 + b % 64, 2) else (65533, 1)
  else if a / 16 == 14 && (decide (1 < left) && cont b) && (decide (2 < left) && cont c) then
    if a % 16 * 4096 + b % 64 * 64 + c % 64 ≥ 2048 && Utf8.valid ((a % 16 * 4096 + b % 64 * 64 + c % 64 : Nat) : Int) then (a % 16 * 4096 + b % 64 * 64 + c % 64, 3) else (65533, 1)
  else if a / 8 == 30 && (decide (1 < left) && cont b) && (decide (2 < left) && cont c) && (decide (3 < left) && cont d) then
    if a % 8 * 262144 + b % 64 * 4096 + c % 64 * 64 + d % 64 ≥ 65536 && Utf8.valid ((a % 8 * 262144 + b % 64 * 4096 + c % 64 * 64 + d % 64 : Nat) : Int) then (a % 8 * 262144 + b % 64 * 4096 + c % 64 * 64 + d % 64, 4) else (65533, 1)
  else (65533, 1)
def nextN (a b c d left : Nat) : Nat × Nat × Bool :=
  if long a = 0 ∨ left < long a then (65533, 1, false)
  else if long a = 1 then (a, 1, true)
  else if long a = 2 then
    if cont b && second a b then (a % 32 * 64 + b % 64, 2, true) else (65533, 1, false)
  else if long a = 3 then
    if cont b && second a b && cont c then ((a % 16 * 64 + b % 64) * 64 + c % 64, 3, true) else (65533, 1, false)
  else
    if cont b && second a b && cont c && cont d then (((a % 8 * 64 + b % 64) * 64 + c % 64) * 64 + d % 64, 4, true) else (65533, 1, false)
theorem valid_iff (n : Nat) : Utf8.valid (n : Int) = decide (n < 55296 ∨ 57344 ≤ n ∧ n ≤ 1114111) := by
  unfold Utf8.valid
  by_cases h : n < 55296
  · rw [decide_eq_true (Or.inl h)]
    simp; omega
  · by_cases h2 : 57344 ≤ n ∧ n ≤ 1114111
    · rw [decide_eq_true (Or.inr h2)]
      simp; omega
    · rw [decide_eq_false (show ¬ (n < 55296 ∨ 57344 ≤ n ∧ n ≤ 1114111) by omega)]
      simp; omega
theorem fin3 (B C D V Q : Bool) (X : Nat) (y z : Nat × Nat) :
    ((if (B && (Q && V) && C) = true then (X, 3, true) else (65533, 1, false) : Nat × Nat × Bool).1, (if (B && (Q && V) && C) = true then (X, 3, true) else (65533, 1, false) : Nat × Nat × Bool).2.1) =
      (if (false && (true && B)) = true then y else if (true && (true && B) && (true && C)) = true then (if (Q && V) = true then (X, 3) else (65533, 1)) else if (false && (true && B) && (true && C) && D) = true then z else (65533, 1)) := by
  cases B <;> cases C <;> cases V <;> cases Q <;> simp
theorem fin4 (B C D V Q : Bool) (X : Nat) (y z : Nat × Nat) :
    ((if (B && (Q && V) && C && D) = true then (X, 4, true) else (65533, 1, false) : Nat × Nat × Bool).1, (if (B && (Q && V) && C && D) = true then (X, 4, true) else (65533, 1, false) : Nat × Nat × Bool).2.1) =
      (if (false && (true && B)) = true then y else if (false && (true && B) && (true && C)) = true then z else if (true && (true && B) && (true && C) && (true && D)) = true then (if (Q && V) = true then (X, 4) else (65533, 1)) else (65533, 1)) := by
  cases B <;> cases C <;> cases D <;> cases V <;> cases Q <;> simp
set_option maxRecDepth 100000 in
theorem next_dec (a b c d left : Nat) (ha : a < 256) (hb : b < 256) (hc : c < 256) (hd : d < 256) (hl : 1 ≤ left) : ((nextN a b c d left).1, (nextN a b c d left).2.1) = decN a b c d left := by
  have hcase : a < 128 ∨ (128 ≤ a ∧ a < 194 ∨ 245 ≤ a) ∨ (194 ≤ a ∧ a ≤ 223) ∨ (224 ≤ a ∧ a ≤ 239) ∨ (240 ≤ a ∧ a ≤ 244) := by omega
  rcases hcase with h | h | h | h | h
  · unfold nextN decN
    rw [long_1 h, if_neg (by omega), if_pos rfl, if_pos h]
  · unfold nextN decN
    rw [long_0 h, if_pos (Or.inl rfl), if_neg (by omega)]
    simp only
    by_cases h6 : a / 32 = 6
    · have : a % 32 * 64 + b % 64 < 128 := by omega
      have e1 : (a / 16 == 14) = false := by rw [beq_eq_false_iff_ne]; omega
      have e2 : (a / 8 == 30) = false := by rw [beq_eq_false_iff_ne]; omega
      rw [if_neg (show ¬ (a % 32 * 64 + b % 64 ≥ 128) by omega), e1, e2]
      simp
    · have e0 : (a / 32 == 6) = false := by rw [beq_eq_false_iff_ne]; exact h6
      have e1 : (a / 16 == 14) = false := by rw [beq_eq_false_iff_ne]; omega
      rw [e0, e1]
      simp only [Bool.false_and, if_false, Bool.false_eq_true]
      by_cases h8 : a / 8 = 30
      · have hv : Utf8.valid ((a % 8 * 262144 + b % 64 * 4096 + c % 64 * 64 + d % 64 : Nat) : Int) = false := by
          rw [valid_iff]; apply decide_eq_false; omega
        rw [hv]
        simp
      · have e2 : (a / 8 == 30) = false := by rw [beq_eq_false_iff_ne]; exact h8
        rw [e2]
        simp
  · unfold nextN decN
    have e0 : (a / 32 == 6) = true := by rw [beq_iff_eq]; omega
    have e1 : (a / 16 == 14) = false := by rw [beq_eq_false_iff_ne]; omega
    have e2 : (a / 8 == 30) = false := by rw [beq_eq_false_iff_ne]; omega
    have es : second a b = cont b := by unfold second cont; rw [if_neg (by omega), if_neg (by omega), if_neg (by omega), if_neg (by omega)]
    rw [long_2 h, e0, e1, e2, es, if_neg (show ¬ a < 128 by omega), if_pos (show a % 32 * 64 + b % 64 ≥ 128 by omega)]
    by_cases hle : left < 2
    · rw [if_pos (Or.inr hle), decide_eq_false (show ¬ 1 < left by omega)]; simp
    · rw [if_neg (by omega), if_neg (by decide), if_pos rfl, decide_eq_true (show 1 < left by omega)]
      cases cont b <;> simp
  · unfold nextN decN
    have e0 : (a / 32 == 6) = false := by rw [beq_eq_false_iff_ne]; omega
    have e1 : (a / 16 == 14) = true := by rw [beq_iff_eq]; omega
    have e2 : (a / 8 == 30) = false := by rw [beq_eq_false_iff_ne]; omega
    have es : (cont b && second a b) = (cont b && (decide (a % 16 * 4096 + b % 64 * 64 + c % 64 ≥ 2048) && Utf8.valid ((a % 16 * 4096 + b % 64 * 64 + c % 64 : Nat) : Int))) := by
      by_cases hcb : 128 ≤ b ∧ b ≤ 191
      · have : cont b = true := decide_eq_true hcb
        rw [this, Bool.true_and, Bool.true_and, valid_iff]
        rw [Bool.eq_iff_iff]
        simp only [Bool.and_eq_true, decide_eq_true_eq]
        unfold second
        repeat' split
        all_goals simp only [decide_eq_true_eq]
        all_goals omega
      · have : cont b = false := decide_eq_false hcb
        rw [this]; simp
    rw [long_3 h, e0, e1, e2, es, if_neg (show ¬ a < 128 by omega)]
    have ev : (a % 16 * 64 + b % 64) * 64 + c % 64 = a % 16 * 4096 + b % 64 * 64 + c % 64 := by omega
    rw [ev]
    by_cases hle : left < 3
    · rw [if_pos (Or.inr hle), decide_eq_false (show ¬ 2 < left by omega)]; simp
    · rw [if_neg (by omega), if_neg (by decide), if_neg (by decide), if_pos rfl, decide_eq_true (show 1 < left by omega), decide_eq_true (show 2 < left by omega)]
      exact fin3 _ _ _ _ _ _ _ _
  · unfold nextN decN
    have e0 : (a / 32 == 6) = false := by rw [beq_eq_false_iff_ne]; omega
    have e1 : (a / 16 == 14) = false := by rw [beq_eq_false_iff_ne]; omega
    have e2 : (a / 8 == 30) = true := by rw [beq_iff_eq]; omega
    have es : (cont b && second a b) = (cont b && (decide (a % 8 * 262144 + b % 64 * 4096 + c % 64 * 64 + d % 64 ≥ 65536) && Utf8.valid ((a % 8 * 262144 + b % 64 * 4096 + c % 64 * 64 + d % 64 : Nat) : Int))) := by
      by_cases hcb : 128 ≤ b ∧ b ≤ 191
      · have : cont b = true := decide_eq_true hcb
        rw [this, Bool.true_and, Bool.true_and, valid_iff]
        rw [Bool.eq_iff_iff]
        simp only [Bool.and_eq_true, decide_eq_true_eq]
        unfold second
        repeat' split
        all_goals simp only [decide_eq_true_eq]
        all_goals omega
      · have : cont b = false := decide_eq_false hcb
        rw [this]; simp
    rw [long_4 h, e0, e1, e2, es, if_neg (show ¬ a < 128 by omega)]
    have ev : ((a % 8 * 64 + b % 64) * 64 + c % 64) * 64 + d % 64 = a % 8 * 262144 + b % 64 * 4096 + c % 64 * 64 + d % 64 := by omega
    rw [ev]
    by_cases hle : left < 4
    · rw [if_pos (Or.inr hle), decide_eq_false (show ¬ 3 < left by omega)]; simp
    · rw [if_neg (by omega), if_neg (by decide), if_neg (by decide), if_neg (by decide), decide_eq_true (show 1 < left by omega), decide_eq_true (show 2 < left by omega), decide_eq_true (show 3 < left by omega)]
      exact fin4 _ _ _ _ _ _ _ _
theorem next_decode (s : ByteArray) (at_ : Nat) (h : at_ < s.size) : ((next s at_).1, (next s at_).2.1) = Utf8.decode s at_ := by
  have e := next_dec (byteAt s at_) (byteAt s (at_ + 1)) (byteAt s (at_ + 2)) (byteAt s (at_ + 3)) (s.size - at_) (byte_lt _ _) (byte_lt _ _) (byte_lt _ _) (byte_lt _ _) (by omega)
  have e1 : nextN (byteAt s at_) (byteAt s (at_ + 1)) (byteAt s (at_ + 2)) (byteAt s (at_ + 3)) (s.size - at_) = next s at_ := rfl
  rw [e1] at e
  rw [e]
  unfold decN Utf8.decode
  have c1 : ∀ k, decide (k < s.size - at_) = decide (at_ + k < s.size) := fun k => by rw [decide_eq_decide]; omega
  rw [← cont_iff _ (byte_lt s (at_ + 1)), ← cont_iff _ (byte_lt s (at_ + 2)), ← cont_iff _ (byte_lt s (at_ + 3)), c1, c1, c1]
  rfl
end Go.Proofs.YtbgbpibfmdkndaaDoor.NM
