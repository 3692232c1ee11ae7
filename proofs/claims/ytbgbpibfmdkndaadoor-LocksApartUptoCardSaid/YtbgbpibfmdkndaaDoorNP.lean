/- Texts as runes, in plain numbers: the tokens of a text; folding; words. -/
import Derived.Test.YtbgbpibfmdkndaaDoorNA
set_option linter.unusedVariables false
set_option linter.unusedSimpArgs false
namespace Go.Proofs.YtbgbpibfmdkndaaDoor.NM
/-- the rune at the head of four bytes (0: there is none) -/
def dec4 (a b c d : Nat) : Nat × Nat :=
  if long a = 1 then (a, 1)
  else if long a = 2 then if cont b && second a b then (a % 32 * 64 + b % 64, 2) else (65533, 1)
  else if long a = 3 then if cont b && second a b && cont c then ((a % 16 * 64 + b % 64) * 64 + c % 64, 3) else (65533, 1)
  else if long a = 4 then if cont b && second a b && cont c && cont d then (((a % 8 * 64 + b % 64) * 64 + c % 64) * 64 + d % 64, 4) else (65533, 1)
  else (65533, 1)
theorem long_cases (a : Nat) : long a = 0 ∨ long a = 1 ∨ long a = 2 ∨ long a = 3 ∨ long a = 4 := by
  unfold long; repeat' split
  all_goals simp
theorem cont0 : cont 0 = false := by decide
theorem dec4_next (a b c d left : Nat) (h1 : 1 ≤ left) (hb : left < 2 → b = 0) (hc : left < 3 → c = 0) (hd : left < 4 → d = 0) : ((nextN a b c d left).1, (nextN a b c d left).2.1) = dec4 a b c d := by
  unfold nextN dec4
  rcases long_cases a with h | h | h | h | h
  · rw [if_pos (.inl h)]; simp [h]
  · rw [if_neg (by omega), if_pos h, if_pos h]
  · by_cases hl : left < 2
    · rw [if_pos (.inr (by omega)), hb hl, cont0]; simp [h]
    · rw [if_neg (by omega)]; simp only [h, Nat.reduceEqDiff, reduceIte]; split <;> rfl
  · by_cases hl : left < 3
    · rw [if_pos (.inr (by omega)), hc hl, cont0]; simp [h]
    · rw [if_neg (by omega)]; simp only [h, Nat.reduceEqDiff, reduceIte]; split <;> rfl
  · by_cases hl : left < 4
    · rw [if_pos (.inr (by omega)), hd hl, cont0]; simp [h]
    · rw [if_neg (by omega)]; simp only [h, Nat.reduceEqDiff, reduceIte]; split <;> rfl
def dec (l : List Nat) : Nat × Nat := dec4 (l.getD 0 0) (l.getD 1 0) (l.getD 2 0) (l.getD 3 0)
/-- the continuing bytes with which a list begins -/
def pre (l : List Nat) : List Nat := l.takeWhile cont
theorem dec4_n (a b c d : Nat) : 1 ≤ (dec4 a b c d).2 ∧ (dec4 a b c d).2 ≤ 4 := by
  unfold dec4; repeat' split
  all_goals simp
theorem dec_n (l : List Nat) : 1 ≤ (dec l).2 := (dec4_n _ _ _ _).1
/-- the decoding hangs on the first byte and on the continuing bytes behind it alone -/
theorem dec4_pre (a b c d b' c' d' : Nat) (h1 : cont b = cont b' ∧ (cont b = true → b = b' ∧ cont c = cont c' ∧ (cont c = true → c = c' ∧ cont d = cont d' ∧ (cont d = true → d = d')))) : dec4 a b c d = dec4 a b' c' d' := by
  unfold dec4
  obtain ⟨hb, h1⟩ := h1
  cases hcb : cont b with
  | false =>
    rw [hcb] at hb
    simp only [← hb, Bool.false_and, Bool.false_eq_true, if_false]
  | true =>
    obtain ⟨rfl, hc, h1⟩ := h1 hcb
    cases hcc : cont c with
    | false =>
      rw [hcc] at hc
      simp only [hcb, ← hc, Bool.and_false, Bool.false_and, Bool.false_eq_true, if_false]
    | true =>
      obtain ⟨rfl, hd, h1⟩ := h1 hcc
      cases hcd : cont d with
      | false =>
        rw [hcd] at hd
        simp only [hcb, hcc, ← hd, Bool.and_false, Bool.false_eq_true, if_false]
      | true =>
        obtain rfl := h1 hcd
        simp only [hcb, hcc, hcd]
theorem getD_pre (l : List Nat) : ∀ m, pre l = pre m → cont (l.getD 0 0) = cont (m.getD 0 0) ∧ (cont (l.getD 0 0) = true → l.getD 0 0 = m.getD 0 0 ∧ pre (l.drop 1) = pre (m.drop 1)) := by
  intro m h
  cases l with
  | nil =>
    cases m with
    | nil => exact ⟨rfl, fun h => by simp [cont0] at h⟩
    | cons y m =>
      by_cases hy : cont y = true
      · simp [pre, List.takeWhile_cons, hy] at h
      · exact ⟨by simp [cont0] at hy ⊢; simpa using hy, fun h => by simp [cont0] at h⟩
  | cons x l =>
    by_cases hx : cont x = true
    · cases m with
      | nil => simp [pre, List.takeWhile_cons, hx] at h
      | cons y m =>
        by_cases hy : cont y = true
        · simp [pre, List.takeWhile_cons, hx, hy] at h
          obtain ⟨rfl, h⟩ := h
          exact ⟨rfl, fun _ => ⟨rfl, by simpa [pre] using h⟩⟩
        · simp [pre, List.takeWhile_cons, hx, hy] at h
    · have hx' : cont x = false := by simpa using hx
      cases m with
      | nil => exact ⟨by simp [hx', cont0], fun h => by simp [hx'] at h⟩
      | cons y m =>
        by_cases hy : cont y = true
        · simp [pre, List.takeWhile_cons, hx', hy] at h
        · have hy' : cont y = false := by simpa using hy
          exact ⟨by simp [hx', hy'], fun h => by simp [hx'] at h⟩
theorem dec_pre (x : Nat) (l m : List Nat) (h : pre l = pre m) : dec (x :: l) = dec (x :: m) := by
  unfold dec
  obtain ⟨h1, h2⟩ := getD_pre l m h
  have e : ∀ (l : List Nat) (i : Nat), (x :: l).getD (i + 1) 0 = l.getD i 0 := fun l i => by simp [List.getD]
  have e2 : ∀ (l : List Nat) (i j : Nat), (l.drop i).getD j 0 = l.getD (i + j) 0 := fun l i j => by simp [List.getD, List.getElem?_drop]
  refine dec4_pre _ _ _ _ _ _ _ ⟨by simpa [e] using h1, fun hb => ?_⟩
  obtain ⟨h3, h4⟩ := h2 (by simpa [e] using hb)
  obtain ⟨h5, h6⟩ := getD_pre _ _ h4
  refine ⟨by simpa [e] using h3, by simpa [e, e2] using h5, fun hc => ?_⟩
  obtain ⟨h7, h8⟩ := h6 (by simpa [e, e2] using hc)
  obtain ⟨h9, h10⟩ := getD_pre _ _ h8
  refine ⟨by simpa [e, e2] using h7, by simpa [e, e2, List.drop_drop] using h9, fun hd => ?_⟩
  have := (h10 (by simpa [e, e2, List.drop_drop] using hd)).1
  simpa [e, e2, List.drop_drop] using this
/-- a rune and its bytes -/
abbrev Tok := Nat × List Nat
def toksF : Nat → List Nat → List Tok
  | 0, _ => []
  | _ + 1, [] => []
  | f + 1, x :: l => ((dec (x :: l)).1, (x :: l).take (dec (x :: l)).2) :: toksF f ((x :: l).drop (dec (x :: l)).2)
theorem toksF_mono (f : Nat) : ∀ (l : List Nat), l.length ≤ f → ∀ g, l.length ≤ g → toksF f l = toksF g l := by
  induction f with
  | zero =>
    intro l h g _
    obtain rfl : l = [] := List.eq_nil_of_length_eq_zero (by omega)
    cases g <;> rfl
  | succ f ih =>
    intro l h g hg
    cases l with
    | nil => cases g <;> rfl
    | cons x l =>
      cases g with
      | zero => simp at hg
      | succ g =>
        simp only [toksF]
        have hn := dec_n (x :: l)
        have hd : ((x :: l).drop (dec (x :: l)).2).length ≤ l.length := by simp; omega
        simp only [List.length_cons] at h hg
        rw [ih _ (by omega) g (by omega)]
def toks (l : List Nat) : List Tok := toksF l.length l
theorem toks_nil : toks [] = [] := rfl
theorem toks_cons (x : Nat) (l : List Nat) : toks (x :: l) = ((dec (x :: l)).1, (x :: l).take (dec (x :: l)).2) :: toks ((x :: l).drop (dec (x :: l)).2) := by
  unfold toks
  simp only [List.length_cons, toksF]
  have hn := dec_n (x :: l)
  rw [toksF_mono _ _ (by simp; omega) _ (Nat.le_refl _)]
theorem toks_step (l : List Nat) (h : l ≠ []) : toks l = ((dec l).1, l.take (dec l).2) :: toks (l.drop (dec l).2) := by
  cases l with
  | nil => exact absurd rfl h
  | cons x l => exact toks_cons x l
/-- the bytes of some tokens -/
def cat (T : List Tok) : List Nat := (T.map (·.2)).flatten
theorem cat_nil : cat [] = [] := rfl
theorem cat_cons (t : Tok) (T : List Tok) : cat (t :: T) = t.2 ++ cat T := by simp [cat]
theorem cat_append (T U : List Tok) : cat (T ++ U) = cat T ++ cat U := by simp [cat]
theorem cat_toks (l : List Nat) : cat (toks l) = l := by
  have : ∀ n (l : List Nat), l.length ≤ n → cat (toks l) = l := by
    intro n
    induction n with
    | zero => intro l h; obtain rfl : l = [] := List.eq_nil_of_length_eq_zero (by omega); rfl
    | succ n ih =>
      intro l h
      cases l with
      | nil => rfl
      | cons x l =>
        have hn := dec_n (x :: l)
        rw [toks_cons, cat_cons, ih _ (by simp at h ⊢; omega)]
        exact List.take_append_drop _ _
  exact this _ l (Nat.le_refl _)
/-- does a list begin with a byte that does not continue (or is it empty) -/
def fresh (l : List Nat) : Prop := cont (l.getD 0 0) = false
theorem pre_fresh {l : List Nat} (h : fresh l) : pre l = [] := by
  cases l with
  | nil => rfl
  | cons x l => unfold fresh at h; simp at h; simp [pre, List.takeWhile_cons, h]
theorem pre_append (a : List Nat) {c : List Nat} (h : fresh c) : pre (a ++ c) = pre a := by
  induction a with
  | nil => simpa [pre] using pre_fresh h
  | cons x a ih =>
    unfold pre at ih ⊢
    rw [List.cons_append, List.takeWhile_cons, List.takeWhile_cons, ih]
theorem dec4_len (a b c d : Nat) : (2 ≤ (dec4 a b c d).2 → cont b = true) ∧ (3 ≤ (dec4 a b c d).2 → cont c = true) ∧ (4 ≤ (dec4 a b c d).2 → cont d = true) := by
  unfold dec4
  repeat' split
  all_goals simp_all
/-- a rune is no longer than its list -/
theorem dec_le (x : Nat) (l : List Nat) : (dec (x :: l)).2 ≤ l.length + 1 := by
  have h := dec4_len x (l.getD 0 0) (l.getD 1 0) (l.getD 2 0)
  have e : dec (x :: l) = dec4 x (l.getD 0 0) (l.getD 1 0) (l.getD 2 0) := by simp [dec, List.getD]
  rw [← e] at h
  have h4 : (dec (x :: l)).2 ≤ 4 := (dec4_n _ _ _ _).2
  obtain ⟨h1, h2, h3⟩ := h
  have z : ∀ i, l.length ≤ i → cont (l.getD i 0) = false := fun i hi => by simp [List.getD, List.getElem?_eq_none hi, cont0]
  by_cases g1 : (dec (x :: l)).2 ≤ 1
  · omega
  · by_cases l0 : l.length ≤ 0
    · have := h1 (by omega); rw [z 0 l0] at this; cases this
    · by_cases g2 : (dec (x :: l)).2 ≤ 2
      · omega
      · by_cases l1 : l.length ≤ 1
        · have := h2 (by omega); rw [z 1 l1] at this; cases this
        · by_cases g3 : (dec (x :: l)).2 ≤ 3
          · omega
          · by_cases l2 : l.length ≤ 2
            · have := h3 (by omega); rw [z 2 l2] at this; cases this
            · omega
/-- tokens of two texts put together -/
theorem toks_append (c : List Nat) (h : fresh c) : ∀ a, toks (a ++ c) = toks a ++ toks c := by
  have : ∀ n (a : List Nat), a.length ≤ n → toks (a ++ c) = toks a ++ toks c := by
    intro n
    induction n with
    | zero => intro a ha; obtain rfl : a = [] := List.eq_nil_of_length_eq_zero (by omega); rfl
    | succ n ih =>
      intro a ha
      cases a with
      | nil => rfl
      | cons x a =>
        have hn := dec_n (x :: a)
        have hle := dec_le x a
        have e : dec (x :: (a ++ c)) = dec (x :: a) := dec_pre x _ _ (pre_append a h)
        rw [List.cons_append, toks_cons, e, toks_cons, List.cons_append]
        have e1 : (x :: (a ++ c)).take (dec (x :: a)).2 = (x :: a).take (dec (x :: a)).2 := by
          rw [← List.cons_append, List.take_append_of_le_length (by simp; omega)]
        have e2 : (x :: (a ++ c)).drop (dec (x :: a)).2 = (x :: a).drop (dec (x :: a)).2 ++ c := by
          rw [← List.cons_append, List.drop_append_of_le_length (by simp; omega)]
        rw [e1, e2, ih _ (by simp at ha ⊢; omega)]
  exact fun a => this _ a (Nat.le_refl _)
end Go.Proofs.YtbgbpibfmdkndaaDoor.NM
