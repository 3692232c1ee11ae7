/- The law of words put together again: the walk. -/
import Derived.Test.YtipbjcchhgbabaaDoorOJ
set_option linter.unusedVariables false
set_option linter.unusedSimpArgs false
namespace Go.Proofs.YtipbjcchhgbabaaDoor
open Go.RowKit Go.ChangeShapes Go.WideShapes Go.ChangeAt
set_option maxRecDepth 100000
set_option maxHeartbeats 1600000
def RJRel (w : World) (A : Option Addr) (M : List ByteArray) (c : Nat) (t i : Value) (wr : World) : Prop :=
  ∃ (k : Nat) (tb : ByteArray), k ≤ M.length ∧ t = .string tb ∧ i = .int .i64 k ∧ Hid (wordsS tb = M.take k) ∧ tb.size ≤ Sz (M.take k) ∧ (k = 0 → tb = ⟨#[]⟩) ∧ Sat w wr [Row 9 1 A M.length c (wv M), Old w]
theorem empty_app (x : ByteArray) : (⟨#[]⟩ : ByteArray) ++ x = x := by
  apply ByteArray.ext
  simp
theorem take_zero_step (M : List ByteArray) (h : 0 < M.length) (hw : wordsS M[0] = [M[0]]) : wordsS M[0] = M.take 1 := by
  rw [hw]
  cases M with
  | nil => cases h
  | cons x M => rfl
theorem nameRejoined_walk (s : ByteArray) (w : World) (hT : Lib.Utf8Tabs 0 1 w) (w0 : s.size ≤ 1048576) : Calls Tryd.prog 10 #[.string s] w fun e w' => e = .returned (.bool true) ∧ Below w.heap.size w w' := by
  have HT := Lib.hid hT
  clear hT
  have hlen := wordsS_len s
  have hsz := wordsS_sz s
  have hgood : ∀ b ∈ wordsS s, wordsS b = [b] ∧ b.size ≠ 0 := fun b hb => ⟨wordsS_word hb, word_ne hb⟩
  obtain ⟨M, hM⟩ : ∃ M, wordsS s = M := ⟨_, rfl⟩
  rw [hM] at hlen hsz hgood
  have HM := Lib.hid hM
  have HSZ := Lib.hid hsz
  have HG := Lib.hid hgood
  clear hM hsz hgood
  have hl2 : M.length ≤ 140737488355328 := by omega
  have hS := Sat.start w
  go_enter Tryd.func10, Tryd.ntmps10
  go_wp2_with fail
  refine (words_any s w _ _ hS (by omega)).mono ?_
  rintro e w1 ⟨A, c, rfl, hS1⟩
  rw [HM.out] at hS1 ⊢
  clear hS
  go_wp2_with fail
  go_loopw [4, 5] (RJRel w A M c) (fun _ i _ => M.length - (intOf i).toNat)
  case atStart => exact ⟨0, ⟨#[]⟩, Nat.zero_le _, rfl, rfl, by show _ = _; rw [wordsS_empty]; simp, Nat.zero_le _, fun _ => rfl, hS1⟩
  case round =>
    obtain ⟨k, tb, hk, rfl, rfl, HW, htb, hz, hU⟩ := hrel
    clear hS1
    have hst := Sz_take M k
    have hs3 := HSZ.out
    by_cases hlt : k < M.length
    · obtain ⟨g, rfl, hc, _⟩ := hU.rowCell (by intro e; have := congrArg List.length e; rw [wv_len, List.length_nil] at this; omega)
      have d1 := hc k (by rw [wv_len]; exact hlt)
      rw [wv_get M k hlt] at d1
      obtain ⟨hw1, hne⟩ := HG.out _ (List.getElem_mem hlt)
      have hsx : Sz (M.take (k + 1)) = Sz (M.take k) + (M[k].size + 1) := by
        rw [List.take_succ_eq_append_getElem hlt, Sz_append]; simp [Sz]
      have hst2 := Sz_take M (k + 1)
      have HJ : Hid (wordsS (tb ++ ⟨#[32]⟩ ++ M[k]) = M.take (k + 1)) := by
        show _ = _
        rw [wordsS_apart, HW.out, hw1, ← List.take_succ_eq_append_getElem hlt]
      have HJ0 : Hid (k = 0 → wordsS M[k] = M.take (k + 1)) := by
        show _ → _
        intro e; subst e
        exact take_zero_step M hlt hw1
      obtain ⟨x, hx⟩ : ∃ x, M[k] = x := ⟨_, rfl⟩
      rw [hx] at d1 hw1 hne hsx HJ HJ0
      have HW1 := Lib.hid hw1
      have s1 := str_yes x
      have s2 := empty_no x hne
      have hxs : x.size ≤ 4194304 := by omega
      clear hc hx hw1 hne
      go_wp2_with fail
      refine (words_any x w _ _ hU hxs).mono ?_
      rintro e w2 ⟨A2, c2, rfl, hU2⟩
      rw [HW1.out] at hU2 ⊢
      rw [show ([x] : List ByteArray).length = 1 from rfl] at hU2 ⊢
      obtain ⟨g2, rfl, hc2, _⟩ := hU2.rowCell (by simp [wv])
      have d2 := hc2 0 (by simp [wv])
      rw [wv_get [x] 0 (by simp)] at d2
      simp only [List.getElem_cons_zero] at d2
      have hU3 := hU2.tail
      obtain ⟨g', e', hc3, _⟩ := hU3.rowCell (by intro e; have := congrArg List.length e; rw [wv_len, List.length_nil] at this; omega)
      cases e'
      have d3 : w2.cell? ⟨g, k, none⟩ = some (.string x) := by
        rw [hc3 k (by rw [wv_len]; exact hlt)]
        have := hU.rowCell (by intro e; have := congrArg List.length e; rw [wv_len, List.length_nil] at this; omega)
        obtain ⟨g'', e'', hc4, _⟩ := this
        cases e''
        rw [← hc4 k (by rw [wv_len]; exact hlt)]
        exact d1
      clear hc2 hc3 hU2 d1
      by_cases h0 : k = 0
      · have hz0 := hz h0
        subst hz0
        have HJ1 := Lib.hid (HJ0.out h0)
        clear HJ HJ0 HW hz
        subst h0
        have hsx1 : x.size ≤ Sz (M.take 1) := by rw [show M.take 1 = M.take (0 + 1) from rfl]; omega
        clear hsx hst2 hst htb
        go_wp2_with fail
        go_quiet (fail)
        go_wp2_with fail
        go_roundw
        case rel => exact ⟨1, x, by omega, by first | rfl | exact congrArg Value.string (empty_app x), by first | rfl | go_num, HJ1, hsx1, fun e => absurd e (by decide), by first | exact hU3 | exact hU3.drewN _⟩
        case measure => simp [intOf]; omega
      · have hk0 : 0 < k := by omega
        have hc1 : ¬ (tb.size + (⟨#[32]⟩ : ByteArray).size > 9223372036854775807) := by show ¬ (tb.size + 1 > _); omega
        have hsz2 : (tb ++ ⟨#[32]⟩ ++ x).size = tb.size + 1 + x.size := by rw [ByteArray.size_append, ByteArray.size_append]; rfl
        have hc2 : ¬ ((tb ++ ⟨#[32]⟩).size + x.size > 9223372036854775807) := by rw [ByteArray.size_append]; show ¬ (tb.size + 1 + x.size > _); omega
        have HSX : Hid ((tb ++ ⟨#[32]⟩ ++ x).size ≤ Sz (M.take (k + 1))) := by show _ ≤ _; omega
        clear HJ0 HW hz hsz2 hsx h0
        go_wp2_with fail
        go_quiet (fail)
        go_wp2_with fail
        go_roundw
        case rel => exact ⟨k + 1, _, by omega, rfl, by go_num, HJ, HSX.out, by intro e; omega, by first | exact hU3 | exact hU3.drewN _⟩
        case measure => simp [intOf]; omega
    · have hkm : k = M.length := by omega
      subst hkm
      have HW2 : Hid (wordsS tb = M) := by show _ = _; rw [HW.out, List.take_length]
      have htb2 : tb.size ≤ 4194304 := by omega
      clear hk hlt HW htb hz
      go_wp2_with fail
      refine (words_any tb w _ _ hU htb2).mono ?_
      rintro e w4 ⟨A2, c2, rfl, hU3⟩
      rw [HW2.out] at hU3 ⊢
      clear hU
      go_wp2_with fail
      refine (same_any w w4 M M A2 A c2 c _ _ hU3 hU3.r2 hl2 hl2).mono ?_
      rintro e w5 ⟨rfl, m2, rfl⟩
      rw [decide_same]
      have hU4 := hU3.drewN m2
      clear hU3
      go_wp2_with fail
      refine (live_any _ (tabs_keep HT.out (hU4.old (by simp)))).mono ?_
      rintro e w6 ⟨rfl, hb⟩
      have hU5 := hU4.below hb
      go_wp2_with fail
      go_ret
      exact ⟨rfl, hU5.old (by simp)⟩
end Go.Proofs.YtipbjcchhgbabaaDoor
