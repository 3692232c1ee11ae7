/- Two lists the same; some answers that the document gives. -/
import Derived.Test.YtipbjcchhgbabaaDoorOD
set_option linter.unusedVariables false
set_option linter.unusedSimpArgs false
namespace Go.Proofs.YtipbjcchhgbabaaDoor
open Go.RowKit Go.ChangeShapes Go.WideShapes Go.ChangeAt
theorem str_yes (a : ByteArray) : (a.toList == a.toList) = true := by simp
theorem str_no {a b : ByteArray} (h : a ≠ b) : (a.toList == b.toList) = false := by
  rw [beq_eq_false_iff_ne]
  intro e
  rw [ByteArray.toList_eq, ByteArray.toList_eq] at e
  exact h (ByteArray.ext (Array.toList_inj.1 e))
theorem take_succ_eq {M N : List ByteArray} {k : Nat} (h1 : k < M.length) (h2 : k < N.length) (h : M.take k = N.take k) (e : M[k] = N[k]) : M.take (k + 1) = N.take (k + 1) := by
  rw [List.take_succ_eq_append_getElem h1, List.take_succ_eq_append_getElem h2, h, e]
theorem wv_get (M : List ByteArray) (k : Nat) (h : k < M.length) : (wv M)[k]? = some (.string M[k]) := by simp [wv, h]
def SameRel (w : World) (M N : List ByteArray) (i : Value) (wr : World) : Prop := ∃ k : Nat, k ≤ M.length ∧ i = .int .i64 k ∧ Hid (M.take k = N.take k) ∧ ∃ m, wr = w.drewN m
set_option maxRecDepth 100000 in
set_option maxHeartbeats 1600000 in
theorem same_any (w0 w : World) (M N : List ByteArray) (A B : Option Addr) (c d : Nat) (L1 L2 : List HP) (hS1 : Sat w0 w (Row 9 1 A M.length c (wv M) :: L1)) (hS2 : Sat w0 w (Row 9 1 B N.length d (wv N) :: L2)) (hm : M.length ≤ 140737488355328) (hn : N.length ≤ 140737488355328) :
    Calls Tryd.prog 24 #[.slice A M.length c, .slice B N.length d] w fun e w' => e = .returned (.bool (decide (M = N))) ∧ ∃ m, w' = w.drewN m := by
  by_cases hl : M.length = N.length
  · have t0 : ((M.length : Int) != (M.length : Int)) = false := by simp
    rw [← hl] at hS2 ⊢
    have HL := Lib.hid hl
    clear hl hn
    go_enter Tryd.func24, Tryd.ntmps24
    go_wp2_with fail
    go_loopw [5] (SameRel w M N) (fun i _ => M.length - (intOf i).toNat)
    case atStart => exact ⟨0, Nat.zero_le _, rfl, rfl, 0, rfl⟩
    case round =>
      obtain ⟨k, hk, rfl, HT, m, rfl⟩ := hrel
      by_cases hlt : k < M.length
      · have hlt2 : k < N.length := by rw [← HL.out]; exact hlt
        obtain ⟨g, rfl, hc, _⟩ := hS1.rowCell (by intro e; have := congrArg List.length e; rw [wv_len, List.length_nil] at this; omega)
        obtain ⟨g2, rfl, hc2, _⟩ := hS2.rowCell (by intro e; have := congrArg List.length e; rw [wv_len, List.length_nil] at this; omega)
        have d1 := hc k (by rw [wv_len]; exact hlt)
        have d2 := hc2 k (by rw [wv_len]; exact hlt2)
        rw [wv_get M k hlt] at d1
        rw [wv_get N k hlt2] at d2
        have HK : Hid (M[k] = N[k] → M.take (k + 1) = N.take (k + 1)) := fun e => take_succ_eq hlt hlt2 HT.out e
        have HN : Hid (M[k] ≠ N[k] → M ≠ N) := by show _ → _; intro h e; subst e; exact h rfl
        obtain ⟨x, hx⟩ : ∃ x, M[k] = x := ⟨_, rfl⟩
        obtain ⟨y, hy⟩ : ∃ x, N[k] = x := ⟨_, rfl⟩
        rw [hx] at d1
        rw [hy] at d2
        rw [hx, hy] at HK HN
        clear hc hc2 hx hy hlt2
        by_cases he : x = y
        · subst he
          have HT2 := Lib.hid (HK.out rfl)
          have s1 := str_yes x
          go_wp2_with fail
          go_quiet (fail)
          go_wp2_with fail
          go_roundw
          case rel => exact ⟨k + 1, by omega, by go_num, HT2, _, by first | rfl | exact World.drewN_drewN ..⟩
          case measure => simp [intOf]; omega
        · have s1 := str_no he
          have HF := Lib.hid (decide_eq_false (HN.out he))
          go_wp2_with fail
          go_quiet (fail)
          go_wp2_with fail
          go_ret
          exact ⟨by rw [HF.out]; rfl, _, by first | rfl | exact World.drewN_drewN ..⟩
      · have hkm : k = M.length := by omega
        have HF : Hid (decide (M = N) = true) := by
          show _ = _
          apply decide_eq_true
          have := HT.out
          rw [List.take_of_length_le (by omega), List.take_of_length_le (by rw [← HL.out]; omega)] at this
          exact this
        go_wp2_with fail
        go_ret
        exact ⟨by rw [HF.out]; rfl, _, by first | rfl | exact World.drewN_drewN ..⟩
  · have t0 : ((M.length : Int) != (N.length : Int)) = true := by rw [bne_iff_ne]; omega
    have HF : Hid (decide (M = N) = false) := by show _ = _; apply decide_eq_false; intro e; exact hl (congrArg List.length e)
    clear hl
    go_enter Tryd.func24, Tryd.ntmps24
    go_wp2_with fail
    go_ret
    exact ⟨by rw [HF.out]; rfl, 0, rfl⟩
theorem live_words : wordsS ⟨#[32, 100, 111, 32, 32, 114, 111, 111, 109]⟩ = [⟨#[100, 111]⟩, ⟨#[114, 111, 111, 109]⟩] := by kernel_rfl
theorem live_is : NM.isT 0 (tk ⟨#[122, 117, 103, 45, 49]⟩ 0) = true := by kernel_rfl
theorem live_fold : foldS ⟨#[65, 98]⟩ = ⟨#[97, 98]⟩ := by kernel_rfl
theorem live_cmp : NM.cmpT (tk ⟨#[97]⟩ 0) (tk ⟨#[97, 98]⟩ 0) = -1 := by kernel_rfl
theorem live_own : sumT (tk ⟨#[114, 111, 111, 109]⟩ 0) % 4 = 1 := by kernel_rfl
set_option maxRecDepth 100000 in
set_option maxHeartbeats 1600000 in
theorem live_any (w : World) (hT : Lib.Utf8Tabs 0 1 w) : Calls Tryd.prog 15 #[] w fun e w' => e = .returned (.bool true) ∧ Below w.heap.size w w' := by
  have HT := Lib.hid hT
  clear hT
  go_enter Tryd.func15, Tryd.ntmps15
  go_wp2_with fail
  refine (words_any ⟨#[32, 100, 111, 32, 32, 114, 111, 111, 109]⟩ w _ _ (Sat.start w) (by decide)).mono ?_
  rintro e w1 ⟨A, c, rfl, hS⟩
  rw [live_words] at hS ⊢
  obtain ⟨g, rfl, _, _⟩ := hS.rowCell (by simp [wv])
  have k1 := str_yes ⟨#[97, 98]⟩
  have k2 := str_yes ⟨#[100, 111]⟩
  have k3 := str_yes ⟨#[114, 111, 111, 109]⟩
  go_wp2_with (first
    | (go_at_call 13; refine (is_any ⟨#[122, 117, 103, 45, 49]⟩ _ (by decide)).mono ?_; rintro e w2 ⟨rfl, hb⟩; rw [live_is]; have hS2 := hS.below hb; clear hb)
    | (go_at_call 16; refine (fold_any ⟨#[65, 98]⟩ _ (tabs_keep HT.out (hS2.old (by simp))) (by decide)).mono ?_; rintro e w3 ⟨rfl, hb⟩; rw [live_fold]; have hS3 := hS2.below hb; clear hb)
    | (go_at_call 18; refine (compare_any ⟨#[97]⟩ ⟨#[97, 98]⟩ _ (tabs_keep HT.out (hS3.old (by simp))) (by decide) (by decide)).mono ?_; rintro e w4 ⟨rfl, hb⟩; rw [live_cmp]; have hS4 := hS3.below hb; clear hb)
    | (go_at_call 20; refine (owner_any ⟨#[114, 111, 111, 109]⟩ _ (by decide)).mono ?_; rintro e w5 ⟨rfl, hb⟩; rw [live_own]; have hS5 := hS4.below hb; clear hb; obtain ⟨g', e', hc, _⟩ := hS5.rowCell (by simp [wv]); cases e'; have c0 := hc 0 (by simp [wv]); have c1 := hc 1 (by simp [wv]); clear hc; simp only [wv, List.map_cons, List.map_nil, List.getElem?_cons_zero, List.getElem?_cons_succ] at c0 c1))
  go_ret
  exact ⟨rfl, hS5.old (by simp)⟩
end Go.Proofs.YtipbjcchhgbabaaDoor
