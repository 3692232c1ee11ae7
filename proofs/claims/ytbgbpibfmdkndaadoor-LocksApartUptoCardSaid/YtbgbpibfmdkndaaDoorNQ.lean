/- Texts as runes, in plain numbers: folding, words, the order. -/
import Derived.Test.YtbgbpibfmdkndaaDoorNP
set_option linter.unusedVariables false
set_option linter.unusedSimpArgs false
namespace Go.Proofs.YtbgbpibfmdkndaaDoor.NM
def letterP (r : Nat) : Bool := decide (97 ≤ r ∧ r ≤ 122 ∨ r = 228 ∨ r = 246 ∨ r = 252 ∨ r = 223 ∨ 945 ≤ r ∧ r ≤ 969)
def blankP (r : Nat) : Bool := decide (r = 9 ∨ r = 32 ∨ r = 160 ∨ r = 8195)
def smallP (r : Nat) : Nat := if 65 ≤ r ∧ r ≤ 90 ∨ r = 196 ∨ r = 214 ∨ r = 220 ∨ 913 ≤ r ∧ r ≤ 937 ∧ r ≠ 930 then r + 32 else r
/-- a rune's bytes -/
def enc (c : Nat) : List Nat :=
  if c < 128 then [c] else if c < 2048 then [192 + c / 64, 128 + c % 64]
  else if c < 65536 then [224 + c / 4096, 128 + c / 64 % 64, 128 + c % 64]
  else [240 + c / 262144, 128 + c / 4096 % 64, 128 + c / 64 % 64, 128 + c % 64]
theorem long_of1 {a : Nat} (h : long a = 1) : a < 128 := by
  unfold long at h
  repeat' split at h
  all_goals first | assumption | omega
theorem long_of2 {a : Nat} (h : long a = 2) : 194 ≤ a ∧ a ≤ 223 := by
  unfold long at h
  repeat' split at h
  all_goals first | assumption | omega
theorem long_of3 {a : Nat} (h : long a = 3) : 224 ≤ a ∧ a ≤ 239 := by
  unfold long at h
  repeat' split at h
  all_goals first | assumption | omega
theorem long_of4 {a : Nat} (h : long a = 4) : 240 ≤ a ∧ a ≤ 244 := by
  unfold long at h
  repeat' split at h
  all_goals first | assumption | omega
theorem cont_of {b : Nat} (h : cont b = true) : 128 ≤ b ∧ b ≤ 191 := by unfold cont at h; simpa using h
theorem second_of {a b : Nat} (h : second a b = true) : (a = 224 → 160 ≤ b) ∧ (a = 240 → 144 ≤ b) := by
  unfold second at h
  refine ⟨fun e => ?_, fun e => ?_⟩ <;> subst e <;> simp at h <;> omega
theorem dec4_enc (a b c d r n : Nat) (h : dec4 a b c d = (r, n)) (hr : r ≠ 65533) : [a, b, c, d].take n = enc r := by
  unfold dec4 at h
  split at h
  · rename_i h1
    injection h with e1 e2
    subst e1 e2
    have := long_of1 h1
    simp [enc, this]
  split at h
  · rename_i h2
    split at h
    · rename_i hc
      simp at hc
      have := cont_of hc.1
      have hl := long_of2 h2
      injection h with e1 e2
      subst e2
      have q1 : ¬ r < 128 := by omega
      have q2 : r < 2048 := by omega
      simp only [enc, if_neg q1, if_pos q2, List.take_succ_cons, List.take_zero]
      rw [show 192 + r / 64 = a by omega, show 128 + r % 64 = b by omega]
    · injection h with e1 e2; exact absurd e1.symm hr
  split at h
  · rename_i h3
    split at h
    · rename_i hc
      simp at hc
      have := cont_of hc.1.1
      have hcc := cont_of hc.2
      have hs := second_of hc.1.2
      have hl := long_of3 h3
      injection h with e1 e2
      subst e2
      have q1 : ¬ r < 128 := by omega
      have q2 : ¬ r < 2048 := by omega
      have q3 : r < 65536 := by omega
      simp only [enc, if_neg q1, if_neg q2, if_pos q3, List.take_succ_cons, List.take_zero]
      rw [show 224 + r / 4096 = a by omega, show 128 + r / 64 % 64 = b by omega, show 128 + r % 64 = c by omega]
    · injection h with e1 e2; exact absurd e1.symm hr
  split at h
  · rename_i h4
    split at h
    · rename_i hc
      simp at hc
      have hcb := cont_of hc.1.1.1
      have hcc := cont_of hc.1.2
      have hcd := cont_of hc.2
      have hs := second_of hc.1.1.2
      have hl := long_of4 h4
      injection h with e1 e2
      subst e2
      have q1 : ¬ r < 128 := by omega
      have q2 : ¬ r < 2048 := by omega
      have q3 : ¬ r < 65536 := by omega
      simp only [enc, if_neg q1, if_neg q2, if_neg q3, List.take_succ_cons, List.take_zero]
      rw [show 240 + r / 262144 = a by omega, show 128 + r / 4096 % 64 = b by omega, show 128 + r / 64 % 64 = c by omega, show 128 + r % 64 = d by omega]
    · injection h with e1 e2; exact absurd e1.symm hr
  · injection h with e1 e2; exact absurd e1.symm hr
theorem take4 (l : List Nat) (n : Nat) (h : n ≤ l.length) (h4 : n ≤ 4) : l.take n = [l.getD 0 0, l.getD 1 0, l.getD 2 0, l.getD 3 0].take n := by
  match n, h4 with
  | 0, _ => rfl
  | 1, _ => match l, h with | [_], _ => rfl | _ :: _ :: _, _ => rfl
  | 2, _ => match l, h with | _ :: _ :: _, _ => rfl
  | 3, _ => match l, h with | _ :: _ :: _ :: _, _ => rfl
  | 4, _ => match l, h with | _ :: _ :: _ :: _ :: _, _ => rfl
theorem dec_enc (x : Nat) (l : List Nat) (hr : (dec (x :: l)).1 ≠ 65533) : (x :: l).take (dec (x :: l)).2 = enc (dec (x :: l)).1 := by
  rw [take4 (x :: l) (dec (x :: l)).2 (dec_le x l) (dec4_n _ _ _ _).2]
  exact dec4_enc _ _ _ _ _ _ rfl hr
/-- the tokens of a text whose rune is one have just its bytes -/
theorem toks_enc (l : List Nat) : ∀ t ∈ toks l, t.2 ≠ [] ∧ (t.1 ≠ 65533 → t.2 = enc t.1) := by
  have : ∀ n (l : List Nat), l.length ≤ n → ∀ t ∈ toks l, t.2 ≠ [] ∧ (t.1 ≠ 65533 → t.2 = enc t.1) := by
    intro n
    induction n with
    | zero => intro l h; obtain rfl : l = [] := List.eq_nil_of_length_eq_zero (by omega); intro t ht; cases ht
    | succ n ih =>
      intro l h
      cases l with
      | nil => intro t ht; cases ht
      | cons x l =>
        have hn := dec_n (x :: l)
        rw [toks_cons]
        intro t ht
        cases ht with
        | head => exact ⟨by intro e; rw [List.take_eq_nil_iff] at e; simp at e; omega, dec_enc x l⟩
        | tail _ ht => exact ih _ (by simp at h ⊢; omega) t ht
  exact this _ l (Nat.le_refl _)
theorem dec_small (c : Nat) (h : c < 2048) (l : List Nat) : dec (enc c ++ l) = (c, (enc c).length) := by
  by_cases h1 : c < 128
  · simp [enc, h1, dec, dec4, long_1 h1]
  · have hl : long (192 + c / 64) = 2 := long_2 (by omega)
    have hb : cont (128 + c % 64) = true := by unfold cont; apply decide_eq_true; omega
    have hs : second (192 + c / 64) (128 + c % 64) = true := by
      unfold second
      rw [if_neg (by omega), if_neg (by omega), if_neg (by omega), if_neg (by omega)]
      apply decide_eq_true; omega
    simp only [enc, if_neg h1, if_pos h, dec, List.cons_append, List.nil_append]
    simp only [List.getD_cons_zero, List.getD_cons_succ, dec4, hl, hb, hs]
    simp
    omega
def foldT (t : Tok) : Tok := if smallP t.1 = t.1 then t else (smallP t.1, enc (smallP t.1))
def foldB (T : List Tok) : List Nat := cat (T.map foldT)
theorem foldB_cons (t : Tok) (T : List Tok) : foldB (t :: T) = (foldT t).2 ++ foldB T := by simp [foldB, cat_cons]
theorem small_lt (r : Nat) (h : smallP r ≠ r) : smallP r < 2048 := by
  unfold smallP at h ⊢
  split at h
  · rename_i hc; rw [if_pos hc]; omega
  · exact absurd rfl h
theorem small_small (r : Nat) : smallP (smallP r) = smallP r := by
  by_cases h : smallP r = r
  · rw [h, h]
  · have e : smallP r = r + 32 := by
      unfold smallP at h ⊢
      split
      · rfl
      · rename_i hc; rw [if_neg hc] at h; exact absurd rfl h
    have hc : 65 ≤ r ∧ r ≤ 90 ∨ r = 196 ∨ r = 214 ∨ r = 220 ∨ 913 ≤ r ∧ r ≤ 937 ∧ r ≠ 930 := by
      unfold smallP at h
      split at h
      · assumption
      · exact absurd rfl h
    rw [e]
    unfold smallP
    rw [if_neg (by omega)]
theorem enc_fresh (c : Nat) (h : c < 2048) (h1 : c < 128 ∨ 128 ≤ c) (l : List Nat) : fresh (enc c ++ l) := by
  unfold fresh cont
  apply decide_eq_false
  by_cases h1 : c < 128
  · simp [enc, h1]; omega
  · simp [enc, h1, h]; omega
theorem pre_congr {u v : List Nat} (h : pre u = pre v) (a : List Nat) : pre (a ++ u) = pre (a ++ v) := by
  induction a with
  | nil => exact h
  | cons x a ih =>
    unfold pre at ih ⊢
    rw [List.cons_append, List.cons_append, List.takeWhile_cons, List.takeWhile_cons, ih]
theorem pre_fold (l : List Nat) : pre (foldB (toks l)) = pre l := by
  have : ∀ n (l : List Nat), l.length ≤ n → pre (foldB (toks l)) = pre l := by
    intro n
    induction n with
    | zero => intro l h; obtain rfl : l = [] := List.eq_nil_of_length_eq_zero (by omega); rfl
    | succ n ih =>
      intro l h
      cases l with
      | nil => rfl
      | cons x l =>
        have hn := dec_n (x :: l)
        have hi := ih ((x :: l).drop (dec (x :: l)).2) (by simp at h ⊢; omega)
        rw [toks_cons, foldB_cons]
        by_cases hs : smallP (dec (x :: l)).1 = (dec (x :: l)).1
        · have e : (foldT ((dec (x :: l)).1, (x :: l).take (dec (x :: l)).2)).2 = (x :: l).take (dec (x :: l)).2 := by unfold foldT; rw [if_pos hs]
          rw [e, pre_congr hi, List.take_append_drop]
        · have e : (foldT ((dec (x :: l)).1, (x :: l).take (dec (x :: l)).2)).2 = enc (smallP (dec (x :: l)).1) := by unfold foldT; rw [if_neg hs]
          rw [e, pre_fresh (enc_fresh _ (small_lt _ hs) (by omega) _)]
          have hr : (dec (x :: l)).1 ≠ 65533 := by intro e; rw [e] at hs; exact hs (by decide)
          have hb := dec_enc x l hr
          have hc : (dec (x :: l)).1 < 2048 := by
            have := small_lt _ hs
            have h2 : (dec (x :: l)).1 ≤ smallP (dec (x :: l)).1 := by unfold smallP; split <;> omega
            omega
          have : fresh (x :: l) := by
            have := enc_fresh (dec (x :: l)).1 hc (by omega) ((x :: l).drop (dec (x :: l)).2)
            rw [← hb, List.take_append_drop] at this
            exact this
          exact (pre_fresh this).symm
  exact this _ l (Nat.le_refl _)
/-- the tokens of a folded text -/
theorem toks_fold (l : List Nat) : toks (foldB (toks l)) = (toks l).map foldT := by
  have : ∀ n (l : List Nat), l.length ≤ n → toks (foldB (toks l)) = (toks l).map foldT := by
    intro n
    induction n with
    | zero => intro l h; obtain rfl : l = [] := List.eq_nil_of_length_eq_zero (by omega); rfl
    | succ n ih =>
      intro l h
      cases l with
      | nil => rfl
      | cons x l =>
        have hn := dec_n (x :: l)
        have hle := dec_le x l
        have hi := ih ((x :: l).drop (dec (x :: l)).2) (by simp at h ⊢; omega)
        have hp := pre_fold ((x :: l).drop (dec (x :: l)).2)
        rw [toks_cons, foldB_cons, List.map_cons]
        by_cases hs : smallP (dec (x :: l)).1 = (dec (x :: l)).1
        · have e : foldT ((dec (x :: l)).1, (x :: l).take (dec (x :: l)).2) = ((dec (x :: l)).1, (x :: l).take (dec (x :: l)).2) := by unfold foldT; rw [if_pos hs]
          rw [e]
          obtain ⟨m, hm⟩ : ∃ m, (dec (x :: l)).2 = m + 1 := ⟨(dec (x :: l)).2 - 1, by omega⟩
          have ht : (x :: l).take (dec (x :: l)).2 = x :: l.take m := by rw [hm]; rfl
          have hdp : (x :: l).drop (dec (x :: l)).2 = l.drop m := by rw [hm]; rfl
          have hd : dec (x :: (l.take m ++ foldB (toks (l.drop m)))) = dec (x :: l) := by
            rw [hdp] at hp
            refine dec_pre x _ _ ?_
            rw [pre_congr hp, List.take_append_drop]
          rw [hdp] at hi
          rw [ht, hdp]
          simp only [List.cons_append]
          rw [toks_cons, hd, hm]
          have hlm : (l.take m).length = m := by rw [List.length_take]; omega
          simp only [List.take_succ_cons, List.drop_succ_cons]
          rw [List.take_append_of_le_length (by omega), List.take_of_length_le (by omega), List.drop_append_of_le_length (by omega), List.drop_of_length_le (by omega), List.nil_append, hi]
        · have hsl := small_lt _ hs
          have e : foldT ((dec (x :: l)).1, (x :: l).take (dec (x :: l)).2) = (smallP (dec (x :: l)).1, enc (smallP (dec (x :: l)).1)) := by unfold foldT; rw [if_neg hs]
          rw [e]
          have hd := dec_small (smallP (dec (x :: l)).1) hsl (foldB (toks ((x :: l).drop (dec (x :: l)).2)))
          rw [toks_step _ (by intro e2; have := congrArg List.length e2; simp [enc] at this; split at this <;> simp at this), hd]
          simp only
          rw [List.take_left, List.drop_left, hi]
  exact this _ l (Nat.le_refl _)
theorem foldT_foldT (t : Tok) : foldT (foldT t) = foldT t := by
  by_cases h : smallP t.1 = t.1
  · have e : foldT t = t := by unfold foldT; rw [if_pos h]
    rw [e, e]
  · have e : foldT t = (smallP t.1, enc (smallP t.1)) := by unfold foldT; rw [if_neg h]
    rw [e]; unfold foldT; rw [if_pos (small_small _)]
/-- folded twice is folded once -/
theorem fold_fold (l : List Nat) : foldB (toks (foldB (toks l))) = foldB (toks l) := by
  rw [toks_fold]
  unfold foldB
  rw [List.map_map]
  congr 1
  apply List.map_congr_left
  intro t _
  exact foldT_foldT t
/-- is a token one of a name, behind n others -/
def okT (n : Nat) (r : Nat) : Bool := letterP r || (decide (0 < n) && (decide (r = 45) || decide (48 ≤ r ∧ r ≤ 57)))
def isT : Nat → List Tok → Bool
  | n, [] => decide (1 ≤ n ∧ n ≤ 8)
  | n, t :: T => okT n t.1 && isT (n + 1) T
theorem okT_small {n r : Nat} (h : okT n r = true) : smallP r = r ∧ r ≠ 65533 := by
  unfold okT letterP at h
  simp at h
  unfold smallP
  rw [if_neg (by omega)]
  exact ⟨rfl, by omega⟩
theorem isT_small : ∀ (T : List Tok) (n : Nat), isT n T = true → ∀ t ∈ T, smallP t.1 = t.1 ∧ t.1 ≠ 65533
  | [], _, _, _, h => by cases h
  | u :: T, n, h, t, ht => by
    simp only [isT, Bool.and_eq_true] at h
    cases ht with
    | head => exact okT_small h.1
    | tail _ ht => exact isT_small T (n + 1) h.2 t ht
/-- a name is folded -/
theorem is_fold (l : List Nat) (h : isT 0 (toks l) = true) : foldB (toks l) = l := by
  have : (toks l).map foldT = toks l := by
    conv => rhs; rw [← List.map_id (toks l)]
    apply List.map_congr_left
    intro t ht
    unfold foldT
    rw [if_pos (isT_small _ _ h t ht).1]
    rfl
  unfold foldB
  rw [this, cat_toks]
end Go.Proofs.YtbgbpibfmdkndaaDoor.NM
