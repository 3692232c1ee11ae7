/- A name is short. -/
import Derived.Test.YtpmoanjeoaeabaaDoorNY
set_option linter.unusedVariables false
set_option linter.unusedSimpArgs false
set_option linter.unnecessarySimpa false
namespace Go.Proofs.YtpmoanjeoaeabaaDoor
theorem toks_long : ∀ (n : Nat) (l : List Nat), l.length ≤ n → l.length ≤ 4 * (NM.toks l).length
  | 0, l, h => by omega
  | n + 1, [], h => by simp
  | n + 1, x :: l, h => by
    have h1 : 1 ≤ (NM.dec (x :: l)).2 := NM.dec_n _
    have h4 : (NM.dec (x :: l)).2 ≤ 4 := (NM.dec4_n _ _ _ _).2
    have ih := toks_long n ((x :: l).drop (NM.dec (x :: l)).2) (by rw [List.length_drop]; simp only [List.length_cons] at h ⊢; omega)
    rw [NM.toks_cons]
    rw [List.length_drop] at ih
    simp only [List.length_cons] at ih ⊢
    omega
theorem isT_len : ∀ (T : List NM.Tok) (n : Nat), NM.isT n T = true → T.length + n ≤ 8
  | [], n, h => by
    have := of_decide_eq_true (show decide (1 ≤ n ∧ n ≤ 8) = true from h)
    simp only [List.length_nil]
    omega
  | t :: T, n, h => by
    have h2 : (NM.okT n t.1 && NM.isT (n + 1) T) = true := h
    rw [Bool.and_eq_true] at h2
    have := isT_len T (n + 1) h2.2
    simp only [List.length_cons]
    omega
/-- is a text a name? -/
def isN (s : ByteArray) : Bool := NM.isT 0 (tk s 0)
theorem is_short {s : ByteArray} (h : isN s = true) : s.size ≤ 32 := by
  unfold isN tk at h
  rw [List.drop_zero] at h
  have h1 := isT_len _ _ h
  have h2 := toks_long _ (bs s) (Nat.le_refl _)
  rw [bs_len] at h2
  omega
end Go.Proofs.YtpmoanjeoaeabaaDoor
