/- Words: what holds of them, in plain Lean. -/
import Derived.Test.YtipbjcchhgbabaaDoorOF
set_option linter.unusedVariables false
set_option linter.unusedSimpArgs false
namespace Go.Proofs.YtipbjcchhgbabaaDoor
open Go.RowKit Go.ChangeShapes Go.WideShapes Go.ChangeAt
theorem wordsT_mem : ∀ (T cur : List NM.Tok), ∀ g ∈ NM.wordsT cur T, ∀ t ∈ g, t ∈ cur ∨ t ∈ T := by
  intro T
  induction T with
  | nil =>
    intro cur g hg t ht
    rw [NM.wordsT_nil] at hg
    by_cases hc : cur = []
    · rw [if_pos hc] at hg; cases hg
    · rw [if_neg hc, List.mem_singleton] at hg; subst hg; exact .inl ht
  | cons u T ih =>
    intro cur g hg t ht
    rw [NM.wordsT_cons] at hg
    by_cases hb : NM.blankP u.1 = true
    · rw [if_pos hb] at hg
      by_cases hc : cur = []
      · rw [if_pos hc] at hg
        rcases ih [] g hg t ht with h | h
        · cases h
        · exact .inr (.tail _ h)
      · rw [if_neg hc] at hg
        rcases List.mem_cons.1 hg with rfl | hg
        · exact .inl ht
        · rcases ih [] g hg t ht with h | h
          · cases h
          · exact .inr (.tail _ h)
    · rw [if_neg hb] at hg
      rcases ih _ g hg t ht with h | h
      · rcases List.mem_append.1 h with h | h
        · exact .inl h
        · rw [List.mem_singleton] at h; subst h; exact .inr (.head _)
      · exact .inr (.tail _ h)
theorem words_lt (s : ByteArray) : ∀ w ∈ NM.words (bs s), ∀ x ∈ w, x < 256 := by
  intro w hw x hx
  obtain ⟨g, hg, rfl⟩ := List.mem_map.1 hw
  obtain ⟨t, ht, hxt⟩ := cat_mem hx
  rcases wordsT_mem _ _ g hg t ht with h | h
  · cases h
  · refine bs_lt s x ?_
    rw [← NM.cat_toks (bs s)]
    exact mem_cat h hxt
theorem word_of {s b : ByteArray} (h : b ∈ wordsS s) : bs b ∈ NM.words (bs s) := by
  obtain ⟨w, hw, rfl⟩ := List.mem_map.1 h
  rw [bs_strOf w (words_lt s w hw)]; exact hw
theorem wordsS_word {s b : ByteArray} (h : b ∈ wordsS s) : wordsS b = [b] := by
  have := (NM.words_word (bs s) _ (word_of h)).2
  unfold wordsS
  rw [this, List.map_cons, List.map_nil, strOf_bs]
theorem word_ne {s b : ByteArray} (h : b ∈ wordsS s) : b.size ≠ 0 := by
  have := (NM.words_word (bs s) _ (word_of h)).1
  intro e
  rw [← bs_len] at e
  exact this (List.eq_nil_of_length_eq_zero e)
theorem wordsS_apart (a b : ByteArray) : wordsS (a ++ ⟨#[32]⟩ ++ b) = wordsS a ++ wordsS b := by
  unfold wordsS
  rw [bs_append, bs_append, show bs ⟨#[32]⟩ = [32] by rfl, List.append_assoc, List.singleton_append, NM.words_apart, List.map_append]
theorem wordsS_fold (s : ByteArray) : wordsS (foldS s) = (wordsS s).map foldS := by
  unfold wordsS
  rw [bs_foldS, NM.words_fold, List.map_map, List.map_map]
  apply List.map_congr_left
  intro w hw
  simp only [Function.comp]
  unfold foldS
  rw [tk_zero, bs_strOf w (words_lt s w hw)]
def Sz (M : List ByteArray) : Nat := (M.map fun b => b.size + 1).sum
theorem Sz_append (M N : List ByteArray) : Sz (M ++ N) = Sz M + Sz N := by simp [Sz]
theorem Sz_len (M : List ByteArray) : M.length ≤ Sz M := by
  induction M with
  | nil => simp [Sz]
  | cons b M ih => simp [Sz] at ih ⊢; omega
theorem Sz_take (M : List ByteArray) (k : Nat) : Sz (M.take k) ≤ Sz M := by
  conv => rhs; rw [← List.take_append_drop k M, Sz_append]
  omega
theorem wordsT_sz : ∀ (T cur : List NM.Tok), ((NM.wordsT cur T).map fun g => (NM.cat g).length + 1).sum ≤ (NM.cat cur).length + 1 + (NM.cat T).length + T.length := by
  intro T
  induction T with
  | nil =>
    intro cur
    rw [NM.wordsT_nil]
    by_cases hc : cur = []
    · rw [if_pos hc]; simp
    · rw [if_neg hc]; simp
  | cons t T ih =>
    intro cur
    rw [NM.wordsT_cons, NM.cat_cons, List.length_append, List.length_cons]
    have h0 := ih []
    rw [show (NM.cat []).length = 0 from rfl] at h0
    by_cases hb : NM.blankP t.1 = true
    · rw [if_pos hb]
      by_cases hc : cur = []
      · rw [if_pos hc]; omega
      · rw [if_neg hc, List.map_cons, List.sum_cons]; omega
    · rw [if_neg hb]
      have h1 := ih (cur ++ [t])
      rw [NM.cat_append, List.length_append, show (NM.cat [t]).length = t.2.length by simp [NM.cat]] at h1
      omega
theorem wordsS_sz (s : ByteArray) : Sz (wordsS s) ≤ 2 * s.size + 1 := by
  have h := wordsT_sz (NM.toks (bs s)) []
  rw [show (NM.cat []).length = 0 from rfl, NM.cat_toks, bs_len] at h
  have h2 := tk_len s
  rw [tk_zero] at h2
  have e : Sz (wordsS s) = ((NM.wordsT [] (NM.toks (bs s))).map fun g => (NM.cat g).length + 1).sum := by
    unfold Sz wordsS NM.words
    rw [List.map_map, List.map_map]
    congr 1
    apply List.map_congr_left
    intro g _
    simp [strOf_size]
  omega
theorem wordsS_len (s : ByteArray) : (wordsS s).length ≤ 2 * s.size + 1 := Nat.le_trans (Sz_len _) (wordsS_sz s)
theorem wordsS_empty : wordsS ⟨#[]⟩ = [] := by rfl
/-- a text whose words are the first k: with one more -/
theorem join_first {s t : ByteArray} {k : Nat} (hk : k < (wordsS s).length) (ht : wordsS t = (wordsS s).take k) : wordsS (t ++ ⟨#[32]⟩ ++ (wordsS s)[k]) = (wordsS s).take (k + 1) := by
  rw [wordsS_apart, ht, wordsS_word (List.getElem_mem hk), ← List.take_succ_eq_append_getElem hk]
theorem map_set_fold (M : List ByteArray) (k : Nat) (h : k < M.length) : ((M.take k).map foldS ++ M.drop k).set k (foldS M[k]) = (M.take (k + 1)).map foldS ++ M.drop (k + 1) := by
  rw [List.set_append_right _ _ (by simp; omega), ← List.getElem_cons_drop (h := h)]
  simp only [List.length_map, List.length_take, Nat.min_eq_left (Nat.le_of_lt h), Nat.sub_self, List.set_cons_zero]
  rw [List.take_succ_eq_append_getElem h, List.map_append, List.append_assoc]
  rfl
end Go.Proofs.YtipbjcchhgbabaaDoor
