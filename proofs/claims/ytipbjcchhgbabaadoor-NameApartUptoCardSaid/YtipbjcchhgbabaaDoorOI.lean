/- The laws of words apart: the walks. -/
import Derived.Test.YtipbjcchhgbabaaDoorOH
set_option linter.unusedVariables false
set_option linter.unusedSimpArgs false
namespace Go.Proofs.YtipbjcchhgbabaaDoor
open Go.RowKit Go.ChangeShapes Go.WideShapes Go.ChangeAt
set_option maxRecDepth 100000
set_option maxHeartbeats 1600000
theorem wv_append (M N : List ByteArray) : wv M ++ wv N = wv (M ++ N) := by simp [wv]
theorem words_as (s : ByteArray) (X : List ByteArray) (hx : wordsS s = X) (w0 w : World) (F : List HP) (hS : Sat w0 w F) (hs : s.size ≤ 4194304) :
    Calls Tryd.prog 22 #[.string s] w fun e w' => ∃ A c, e = .returned (.slice A X.length c) ∧ Sat w0 w' (Row 9 1 A X.length c (wv X) :: F) := by
  subst hx
  exact words_any s w0 w F hS hs
theorem nameApart_walk (a b : ByteArray) (w : World) (hT : Lib.Utf8Tabs 0 1 w) (w0 : a.size ≤ 1048576) (w1 : b.size ≤ 1048576) : Calls Tryd.prog 11 #[.string a, .string b] w fun e w' => e = .returned (.bool true) ∧ Below w.heap.size w w' := by
  obtain ⟨i, hi, hz, hsz, hby⟩ := info_parts info9
  have HT := Lib.hid hT
  clear hT
  have hla := wordsS_len a
  have hlb := wordsS_len b
  have hap := wordsS_apart a b
  obtain ⟨M, hM⟩ : ∃ M, wordsS a = M := ⟨_, rfl⟩
  obtain ⟨N, hN⟩ : ∃ M, wordsS b = M := ⟨_, rfl⟩
  rw [hM] at hla hap
  rw [hN] at hlb hap
  have HM := Lib.hid hM
  have HN := Lib.hid hN
  have HAP := Lib.hid hap
  clear hM hN hap
  have h4 : M.length + N.length ≤ maxLen := by unfold maxLen; omega
  have h5 : (M.length + N.length) * 16 ≤ 140737488355328 := by omega
  have hl2 : (M ++ N).length ≤ 140737488355328 := by rw [List.length_append]; omega
  have hc1 : ¬ (a.size + (⟨#[32]⟩ : ByteArray).size > 9223372036854775807) := by show ¬ (a.size + 1 > _); omega
  have hsz2 : (a ++ ⟨#[32]⟩ ++ b).size ≤ 4194304 := by rw [ByteArray.size_append, ByteArray.size_append]; show a.size + 1 + b.size ≤ _; omega
  have hc2 : ¬ ((a ++ ⟨#[32]⟩).size + b.size > 9223372036854775807) := by rw [ByteArray.size_append]; show ¬ (a.size + 1 + b.size > _); omega
  have hS := Sat.start w
  go_enter Tryd.func11, Tryd.ntmps11
  go_wp2_with fail
  refine (words_any a w _ _ hS (by omega)).mono ?_
  rintro e w1 ⟨A, c, rfl, hS1⟩
  rw [HM.out] at hS1 ⊢
  clear hS
  go_wp2_with fail
  refine (words_any b w _ _ hS1 (by omega)).mono ?_
  rintro e w2 ⟨B, d, rfl, hS2⟩
  rw [HN.out] at hS2 ⊢
  clear hS1
  go_wp2_with (at_builtin; refine wpList_appS rfl (.tmp 12) (.tmp 13) 28 rfl 9 i (.string ⟨#[]⟩) 1 16 Tryd.underlying28 hi hz hsz hby rfl (by decide) rfl hS2.r2 (by rfl) hS2.rd (wv_one N) h4 h5 ?_; intro A' c' w' hS3)
  obtain ⟨X, hX⟩ : ∃ X, M ++ N = X := ⟨_, rfl⟩
  have hXl : M.length + N.length = X.length := by rw [← hX, List.length_append]
  rw [wv_append, hX, hXl] at hS3
  rw [hX] at HAP hl2
  rw [hXl]
  clear hX hXl h4 h5 hS2
  refine (words_as _ X ?_ w _ _ hS3 ?_).mono ?_
  · exact HAP.out
  · exact hsz2
  rintro e w4 ⟨A2, c2, rfl, hS4⟩
  clear hS3
  go_wp2_with fail
  refine (same_any w w4 X X A2 A' c2 c' _ _ hS4 hS4.r2 hl2 hl2).mono ?_
  rintro e w5 ⟨rfl, m2, rfl⟩
  rw [decide_same]
  have hS5 := hS4.drewN m2
  clear hS4
  go_wp2_with fail
  refine (live_any _ (tabs_keep HT.out (hS5.old (by simp)))).mono ?_
  rintro e w6 ⟨rfl, hb⟩
  have hS6 := hS5.below hb
  go_wp2_with fail
  go_ret
  exact ⟨rfl, hS6.old (by simp)⟩
end Go.Proofs.YtipbjcchhgbabaaDoor
