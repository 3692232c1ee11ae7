/- The laws of words put together again, and of folded words: the walks. -/
import Derived.Test.YtipbjcchhgbabaaDoorOH
set_option linter.unusedVariables false
set_option linter.unusedSimpArgs false
namespace Go.Proofs.YtipbjcchhgbabaaDoor
open Go.RowKit Go.ChangeShapes Go.WideShapes Go.ChangeAt
set_option maxRecDepth 100000
set_option maxHeartbeats 1600000
def FWRel (w : World) (A : Option Addr) (M : List ByteArray) (c : Nat) (i : Value) (wr : World) : Prop :=
  ∃ k : Nat, k ≤ M.length ∧ i = .int .i64 k ∧ Sat w wr [Row 9 1 A M.length c (wv ((M.take k).map foldS ++ M.drop k)), Old w]
theorem wv_set (M : List ByteArray) (k : Nat) (b : ByteArray) : (wv M).set k (.string b) = wv (M.set k b) := by simp [wv, List.map_set]
theorem mid_get (M : List ByteArray) (k : Nat) (h : k < M.length) : (wv ((M.take k).map foldS ++ M.drop k))[k]? = some (.string M[k]) := by
  have h2 : k < ((M.take k).map foldS ++ M.drop k).length := by simp; omega
  rw [wv_get _ k h2, List.getElem_append_right (by simp; omega)]
  simp [Nat.min_eq_left (Nat.le_of_lt h)]
theorem mid_len (M : List ByteArray) (k : Nat) (h : k ≤ M.length) : (wv ((M.take k).map foldS ++ M.drop k)).length = M.length := by simp [wv]; omega
theorem nameFoldedWords_walk (s : ByteArray) (w : World) (hT : Lib.Utf8Tabs 0 1 w) (w0 : s.size ≤ 1048576) : Calls Tryd.prog 12 #[.string s] w fun e w' => e = .returned (.bool true) ∧ Below w.heap.size w w' := by
  have HT := Lib.hid hT
  clear hT
  have hlen := wordsS_len s
  have hwf := wordsS_fold s
  have hfs := foldS_size s
  have hsz := wordsS_sz s
  obtain ⟨M, hM⟩ : ∃ M, wordsS s = M := ⟨_, rfl⟩
  rw [hM] at hlen hwf hsz
  have HM := Lib.hid hM
  have HWF := Lib.hid hwf
  have HSZ := Lib.hid hsz
  clear hM hwf hsz
  have hl2 : M.length ≤ 140737488355328 := by omega
  have hl3 : (M.map foldS).length ≤ 140737488355328 := by rw [List.length_map]; omega
  have hf2 : (foldS s).size ≤ 4194304 := by omega
  clear hfs
  have hS := Sat.start w
  go_enter Tryd.func12, Tryd.ntmps12
  go_wp2_with fail
  refine (words_any s w _ _ hS (by omega)).mono ?_
  rintro e w1 ⟨A, c, rfl, hS1⟩
  rw [HM.out] at hS1 ⊢
  clear hS
  go_wp2_with fail
  go_loopw [4] (FWRel w A M c) (fun i _ => M.length - (intOf i).toNat)
  case atStart => exact ⟨0, Nat.zero_le _, rfl, by simpa using hS1⟩
  case round =>
    obtain ⟨k, hk, rfl, hU⟩ := hrel
    clear hS1
    by_cases hlt : k < M.length
    · obtain ⟨g, rfl, hc, hf⟩ := hU.rowCell (by intro e; have := congrArg List.length e; rw [mid_len M k hk, List.length_nil] at this; omega)
      have d1 := hc k (by rw [mid_len M k hk]; exact hlt)
      rw [mid_get M k hlt] at d1
      have hms := map_set_fold M k hlt
      have hsk : M[k].size ≤ 140737488351232 := by
        have h1 := Sz_take M (k + 1)
        rw [List.take_succ_eq_append_getElem hlt, Sz_append] at h1
        have h2 : Sz [M[k]] = M[k].size + 1 := by simp [Sz]
        have h3 := HSZ.out
        omega
      obtain ⟨x, hx⟩ : ∃ x, M[k] = x := ⟨_, rfl⟩
      rw [hx] at d1 hms hsk
      have HMS := Lib.hid hms
      clear hc hf hx hms
      go_wp2_with (go_at_call 16; refine (fold_any x _ (tabs_keep HT.out (hU.old (by simp))) hsk).mono ?_; rintro e w2 ⟨rfl, hb⟩; have hU2 := hU.below hb; clear hb; obtain ⟨g', e', hc2, hf2'⟩ := hU2.rowCell (by intro e; have := congrArg List.length e; rw [mid_len M k hk, List.length_nil] at this; omega); cases e'; have d2 := hc2 k (by rw [mid_len M k hk]; exact hlt); rw [mid_get M k hlt] at d2; have f2 := hf2' k; clear hc2 hf2')
      have hU3 := hU2.rowSet k (.string (foldS x))
      rw [wv_set, HMS.out] at hU3
      go_roundw
      case rel => exact ⟨k + 1, by omega, by go_num, hU3⟩
      case measure => simp [intOf]; omega
    · have hkm : k = M.length := by omega
      subst hkm
      rw [List.take_length, List.drop_length, List.append_nil] at hU
      clear hk hlt
      go_wp2_with fail
      refine (fold_any s _ (tabs_keep HT.out (hU.old (by simp))) (by omega)).mono ?_
      rintro e w2 ⟨rfl, hb⟩
      have hU2 := hU.below hb
      clear hb hU
      go_wp2_with fail
      refine (words_any (foldS s) w _ _ hU2 hf2).mono ?_
      rintro e w4 ⟨A2, c2, rfl, hU3⟩
      rw [HWF.out] at hU3 ⊢
      obtain ⟨X, hX⟩ : ∃ X, M.map foldS = X := ⟨_, rfl⟩
      have hXl : M.length = X.length := by rw [← hX, List.length_map]
      rw [hX, hXl] at hU3
      rw [hX] at hl3 ⊢
      rw [hXl]
      clear hU2 hlen hl2
      go_wp2_with fail
      refine (same_any w w4 X X A A2 c c2 _ _ hU3.r2 hU3 hl3 hl3).mono ?_
      rintro e w5 ⟨rfl, m2, rfl⟩
      rw [decide_same]
      have hU4 := hU3.drewN m2
      clear hU3
      go_wp2_with fail
      refine (live_any _ (tabs_keep HT.out (hU4.old (by simp)))).mono ?_
      rintro e w6 ⟨rfl, hb⟩
      have hU5 := hU4.below hb
      go_wp2_with fail
      go_ret
      exact ⟨rfl, hU5.old (by simp)⟩
end Go.Proofs.YtipbjcchhgbabaaDoor
