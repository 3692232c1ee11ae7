/- Texts as runes, in plain numbers: words; the order. -/
import Derived.Test.YtbgbpibfmdkndaaDoorNQ
set_option linter.unusedVariables false
set_option linter.unusedSimpArgs false
namespace Go.Proofs.YtbgbpibfmdkndaaDoor.NM
/-- groups of tokens between blanks -/
def wordsT : List Tok → List Tok → List (List Tok)
  | cur, [] => if cur = [] then [] else [cur]
  | cur, t :: T => if blankP t.1 then (if cur = [] then wordsT [] T else cur :: wordsT [] T) else wordsT (cur ++ [t]) T
theorem wordsT_nil (cur : List Tok) : wordsT cur [] = if cur = [] then [] else [cur] := by rw [wordsT]
theorem wordsT_cons (cur : List Tok) (t : Tok) (T : List Tok) : wordsT cur (t :: T) = if blankP t.1 then (if cur = [] then wordsT [] T else cur :: wordsT [] T) else wordsT (cur ++ [t]) T := by rw [wordsT]
def words (l : List Nat) : List (List Nat) := (wordsT [] (toks l)).map cat
theorem wordsT_blank (t : Tok) (h : blankP t.1 = true) (B : List Tok) : ∀ (A cur : List Tok), wordsT cur (A ++ t :: B) = wordsT cur A ++ wordsT [] B := by
  intro A
  induction A with
  | nil =>
    intro cur
    rw [List.nil_append, wordsT_cons, if_pos h, wordsT_nil]
    by_cases hc : cur = []
    · rw [if_pos hc, if_pos hc]; rfl
    · rw [if_neg hc, if_neg hc]; rfl
  | cons a A ih =>
    intro cur
    rw [List.cons_append, wordsT_cons, wordsT_cons, ih, ih]
    by_cases ha : blankP a.1 = true
    · rw [if_pos ha, if_pos ha]
      by_cases hc : cur = []
      · rw [if_pos hc, if_pos hc]
      · rw [if_neg hc, if_neg hc]; rfl
    · rw [if_neg ha, if_neg ha]
theorem toks_32 (b : List Nat) : toks (32 :: b) = (32, [32]) :: toks b := by
  have : dec (32 :: b) = (32, 1) := by simp [dec, dec4, long_1]
  rw [toks_cons, this]; rfl
theorem toks_apart (a b : List Nat) : toks (a ++ 32 :: b) = toks a ++ (32, [32]) :: toks b := by
  rw [toks_append (32 :: b) (show cont 32 = false by decide) a, toks_32]
/-- the words of two lines with a blank between -/
theorem words_apart (a b : List Nat) : words (a ++ 32 :: b) = words a ++ words b := by
  unfold words
  rw [toks_apart, wordsT_blank _ (by decide), List.map_append]
/-- what stands at the end of a text's tokens is what is read there -/
theorem toks_suffix : ∀ (A : List Tok) (l : List Nat) (B : List Tok), toks l = A ++ B → toks (cat B) = B := by
  intro A
  induction A with
  | nil => intro l B h; rw [List.nil_append] at h; rw [← h, cat_toks]
  | cons a A ih =>
    intro l B h
    cases l with
    | nil => cases h
    | cons x l =>
      rw [toks_cons, List.cons_append] at h
      injection h with _ h
      exact ih _ B h
theorem blank_small (r : Nat) : blankP (smallP r) = blankP r := by
  unfold smallP
  split
  · rename_i h
    unfold blankP
    rw [decide_eq_decide]
    omega
  · rfl
theorem blank_fresh (l : List Nat) (t : Tok) (T : List Tok) (h : toks l = t :: T) (hb : blankP t.1 = true) : fresh l := by
  cases l with
  | nil => cases h
  | cons x l =>
    have he := toks_enc (x :: l) t (by rw [h]; exact .head _)
    rw [toks_cons] at h
    injection h with h1 h2
    have hr : t.1 = 9 ∨ t.1 = 32 ∨ t.1 = 160 ∨ t.1 = 8195 := by unfold blankP at hb; simpa using hb
    have hx := he.2 (by omega)
    have hl : (x :: l).take (dec (x :: l)).2 = enc t.1 := by rw [← h1] at hx ⊢; exact hx
    have hn := dec_n (x :: l)
    obtain ⟨m, hm⟩ : ∃ m, (dec (x :: l)).2 = m + 1 := ⟨(dec (x :: l)).2 - 1, by omega⟩
    rw [hm, List.take_succ_cons] at hl
    have hx2 : x = (enc t.1).getD 0 0 := by rw [← hl]; rfl
    unfold fresh
    show cont x = false
    rw [hx2]
    rcases hr with e | e | e | e <;> rw [e] <;> decide
/-- each group is what is read in its bytes; none is empty, none has a blank -/
theorem wordsT_good : ∀ (T cur : List Tok) (l : List Nat) (A : List Tok), toks l = A ++ (cur ++ T) → (∀ t ∈ cur, blankP t.1 = false) → ∀ g ∈ wordsT cur T, toks (cat g) = g ∧ g ≠ [] ∧ ∀ t ∈ g, blankP t.1 = false := by
  intro T
  induction T with
  | nil =>
    intro cur l A h hn g hg
    rw [wordsT_nil] at hg
    by_cases hc : cur = []
    · rw [if_pos hc] at hg; cases hg
    · rw [if_neg hc, List.mem_singleton] at hg
      subst hg
      rw [List.append_nil] at h
      exact ⟨toks_suffix A l _ h, hc, hn⟩
  | cons t T ih =>
    intro cur l A h hn g hg
    rw [wordsT_cons] at hg
    by_cases hb : blankP t.1 = true
    · rw [if_pos hb] at hg
      have h2 : toks l = (A ++ cur ++ [t]) ++ ([] ++ T) := by rw [h]; simp
      have hs := toks_suffix (A ++ cur) l (t :: T) (by rw [h]; simp)
      have hw := toks_suffix A l (cur ++ t :: T) h
      rw [cat_append, toks_append _ (blank_fresh _ t T hs hb), hs] at hw
      have hcur : toks (cat cur) = cur := List.append_cancel_right hw
      by_cases hc : cur = []
      · rw [if_pos hc] at hg
        exact ih [] l _ h2 (by simp) g hg
      · rw [if_neg hc] at hg
        cases hg with
        | head => exact ⟨hcur, hc, hn⟩
        | tail _ hg => exact ih [] l _ h2 (by simp) g hg
    · rw [if_neg hb] at hg
      have hb' : blankP t.1 = false := by simpa using hb
      refine ih (cur ++ [t]) l A (by rw [h]; simp) ?_ g hg
      intro u hu
      rw [List.mem_append, List.mem_singleton] at hu
      rcases hu with hu | rfl
      · exact hn u hu
      · exact hb'
theorem wordsT_none : ∀ (T cur : List Tok), (∀ t ∈ T, blankP t.1 = false) → wordsT cur T = if cur ++ T = [] then [] else [cur ++ T] := by
  intro T
  induction T with
  | nil => intro cur _; rw [wordsT_nil, List.append_nil]
  | cons t T ih =>
    intro cur h
    rw [wordsT_cons, if_neg (by rw [h t (.head _)]; simp), ih _ (fun u hu => h u (.tail _ hu))]
    simp
/-- a word's words: itself -/
theorem words_word (l : List Nat) : ∀ w ∈ words l, w ≠ [] ∧ words w = [w] := by
  intro w hw
  obtain ⟨g, hg, rfl⟩ := List.mem_map.1 hw
  obtain ⟨h1, h2, h3⟩ := wordsT_good (toks l) [] l [] rfl (by simp) g hg
  refine ⟨fun e => h2 (by rw [← h1, e]; rfl), ?_⟩
  unfold words
  rw [h1, wordsT_none g [] h3]
  simp [h2]
theorem wordsT_fold : ∀ (T cur : List Tok), wordsT (cur.map foldT) (T.map foldT) = (wordsT cur T).map (·.map foldT) := by
  have hb : ∀ t : Tok, blankP (foldT t).1 = blankP t.1 := by
    intro t
    unfold foldT
    split
    · rfl
    · exact blank_small t.1
  intro T
  induction T with
  | nil => intro cur; rw [List.map_nil, wordsT_nil, wordsT_nil]; by_cases hc : cur = [] <;> simp [hc]
  | cons t T ih =>
    intro cur
    rw [List.map_cons, wordsT_cons, wordsT_cons, hb]
    have i1 := ih []
    rw [List.map_nil] at i1
    have i2 := ih (cur ++ [t])
    rw [List.map_append, List.map_singleton] at i2
    rw [i1, i2]
    by_cases h : blankP t.1 = true
    · rw [if_pos h, if_pos h]
      by_cases hc : cur = []
      · simp [hc]
      · rw [if_neg hc, if_neg (by simpa using hc), List.map_cons]
    · rw [if_neg h, if_neg h]
/-- the words of a folded line -/
theorem words_fold (l : List Nat) : words (foldB (toks l)) = (words l).map fun w => foldB (toks w) := by
  unfold words
  rw [toks_fold, List.map_map]
  have := wordsT_fold (toks l) []
  rw [List.map_nil] at this
  rw [this, List.map_map]
  apply List.map_congr_left
  intro g hg
  obtain ⟨h1, _, _⟩ := wordsT_good (toks l) [] l [] rfl (by simp) g hg
  show cat (g.map foldT) = foldB (toks (cat g))
  rw [h1]
  rfl
/-- the order, rune by rune -/
def cmpT : List Tok → List Tok → Int
  | [], [] => 0
  | [], _ :: _ => -1
  | _ :: _, [] => 1
  | a :: A, b :: B => if a.1 < b.1 then -1 else if b.1 < a.1 then 1 else cmpT A B
theorem cmpT_range : ∀ A B : List Tok, cmpT A B = -1 ∨ cmpT A B = 0 ∨ cmpT A B = 1
  | [], [] => by simp [cmpT]
  | [], _ :: _ => by simp [cmpT]
  | _ :: _, [] => by simp [cmpT]
  | a :: A, b :: B => by
    rw [cmpT]
    split
    · simp
    · split
      · simp
      · exact cmpT_range A B
theorem cmpT_back : ∀ A B : List Tok, cmpT B A = -cmpT A B
  | [], [] => by simp [cmpT]
  | [], _ :: _ => by simp [cmpT]
  | _ :: _, [] => by simp [cmpT]
  | a :: A, b :: B => by
    rw [cmpT, cmpT]
    by_cases h : a.1 < b.1
    · rw [if_neg (by omega), if_pos h, if_pos h]; rfl
    · by_cases h2 : b.1 < a.1
      · rw [if_pos h2, if_neg h, if_pos h2]
      · rw [if_neg h2, if_neg h, if_neg h, if_neg h2]; exact cmpT_back A B
theorem cmpT_zero : ∀ A B : List Tok, cmpT A B = 0 → A.map (·.1) = B.map (·.1)
  | [], [], _ => rfl
  | [], _ :: _, h => by simp [cmpT] at h
  | _ :: _, [], h => by simp [cmpT] at h
  | a :: A, b :: B, h => by
    rw [cmpT] at h
    split at h
    · cases h
    · split at h
      · cases h
      · rw [List.map_cons, List.map_cons, cmpT_zero A B h, show a.1 = b.1 by omega]
theorem cmpT_self : ∀ A B : List Tok, A.map (·.1) = B.map (·.1) → cmpT A B = 0
  | [], [], _ => rfl
  | [], _ :: _, h => by simp at h
  | _ :: _, [], h => by simp at h
  | a :: A, b :: B, h => by
    simp only [List.map_cons, List.cons.injEq] at h
    rw [cmpT, if_neg (by omega), if_neg (by omega)]
    exact cmpT_self A B h.2
theorem cmpT_congr : ∀ A B C : List Tok, A.map (·.1) = B.map (·.1) → cmpT A C = cmpT B C
  | [], [], _, _ => rfl
  | [], _ :: _, _, h => by simp at h
  | _ :: _, [], _, h => by simp at h
  | a :: A, b :: B, [], _ => rfl
  | a :: A, b :: B, c :: C, h => by
    simp only [List.map_cons, List.cons.injEq] at h
    rw [cmpT, cmpT, h.1, cmpT_congr A B C h.2]
theorem cmpT_less : ∀ A B C : List Tok, cmpT A B = -1 → cmpT B C = -1 → cmpT A C = -1
  | [], [], _, h, _ => by simp [cmpT] at h
  | [], _ :: _, [], _, h => by simp [cmpT] at h
  | [], _ :: _, _ :: _, _, _ => rfl
  | _ :: _, [], _, h, _ => by simp [cmpT] at h
  | _ :: _, _ :: _, [], _, h => by simp [cmpT] at h
  | a :: A, b :: B, c :: C, h, k => by
    rw [cmpT] at h k ⊢
    split at h
    · split at k
      · rw [if_pos (by omega)]
      · split at k
        · cases k
        · rw [if_pos (by omega)]
    · split at h
      · cases h
      · split at k
        · rw [if_pos (by omega)]
        · split at k
          · cases k
          · rw [if_neg (by omega), if_neg (by omega)]; exact cmpT_less A B C h k
/-- the order goes on -/
theorem cmpT_on (A B C : List Tok) (h : cmpT A B = cmpT B C) : cmpT A C = cmpT A B := by
  rcases cmpT_range A B with e | e | e
  · rw [e]; exact cmpT_less A B C e (by omega)
  · rw [cmpT_congr A B C (cmpT_zero A B e)]; omega
  · have h1 := cmpT_back A B
    have h2 := cmpT_back B C
    have h3 := cmpT_back A C
    have := cmpT_less C B A (by omega) (by omega)
    omega
/-- two names of the same runes are the same -/
theorem name_eq (a b : List Nat) (ha : isT 0 (toks a) = true) (hb : isT 0 (toks b) = true) (h : (toks a).map (·.1) = (toks b).map (·.1)) : a = b := by
  have key : ∀ (A B : List Tok), (∀ t ∈ A, t.2 = enc t.1) → (∀ t ∈ B, t.2 = enc t.1) → A.map (·.1) = B.map (·.1) → A = B := by
    intro A
    induction A with
    | nil => intro B _ _ h; cases B with | nil => rfl | cons => cases h
    | cons x A ih =>
      intro B h1 h2 h
      cases B with
      | nil => cases h
      | cons y B =>
        simp only [List.map_cons, List.cons.injEq] at h
        rw [ih B (fun t ht => h1 t (.tail _ ht)) (fun t ht => h2 t (.tail _ ht)) h.2]
        have e1 := h1 x (.head _)
        have e2 := h2 y (.head _)
        rw [h.1, ← e2] at e1
        rw [Prod.ext h.1 e1]
  have := key (toks a) (toks b) (fun t ht => (toks_enc a t ht).2 (isT_small _ _ ha t ht).2) (fun t ht => (toks_enc b t ht).2 (isT_small _ _ hb t ht).2) h
  rw [← cat_toks a, this, cat_toks]
end Go.Proofs.YtbgbpibfmdkndaaDoor.NM
