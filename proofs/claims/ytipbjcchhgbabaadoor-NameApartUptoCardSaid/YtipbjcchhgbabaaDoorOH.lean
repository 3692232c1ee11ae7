/- The laws of the order and of the words: the walks. -/
import Derived.Test.YtipbjcchhgbabaaDoorOG
set_option linter.unusedVariables false
set_option linter.unusedSimpArgs false
namespace Go.Proofs.YtipbjcchhgbabaaDoor
open Go.RowKit Go.ChangeShapes Go.WideShapes Go.ChangeAt
set_option maxRecDepth 100000
set_option maxHeartbeats 3200000
theorem nameOrdered_walk (a b c : ByteArray) (w : World) (hT : Lib.Utf8Tabs 0 1 w) (w0 : a.size ≤ 140737488351232) (w1 : b.size ≤ 140737488351232) (w2 : c.size ≤ 140737488351232) :
    Calls Tryd.prog 9 #[.string a, .string b, .string c] w fun e w' => e = .returned (.bool true) ∧ Below w.heap.size w w' := by
  have HT := Lib.hid hT
  clear hT
  have hbk := NM.cmpT_back (tk a 0) (tk b 0)
  have hrg := NM.cmpT_range (tk a 0) (tk b 0)
  have h0 : NM.cmpT (tk a 0) (tk b 0) = 0 → NM.cmpT (tk a 0) (tk c 0) = NM.cmpT (tk b 0) (tk c 0) := fun h => NM.cmpT_congr _ _ _ (NM.cmpT_zero _ _ h)
  have h1 := NM.cmpT_on (tk a 0) (tk b 0) (tk c 0)
  have hpq := cmp_eq a b
  obtain ⟨x, hx⟩ : ∃ z, NM.cmpT (tk a 0) (tk b 0) = z := ⟨_, rfl⟩
  obtain ⟨y, hy⟩ : ∃ z, NM.cmpT (tk b 0) (tk c 0) = z := ⟨_, rfl⟩
  obtain ⟨z, hz⟩ : ∃ z, NM.cmpT (tk a 0) (tk c 0) = z := ⟨_, rfl⟩
  obtain ⟨p, hp⟩ : ∃ z, NM.isT 0 (tk a 0) = z := ⟨_, rfl⟩
  obtain ⟨q, hq⟩ : ∃ z, NM.isT 0 (tk b 0) = z := ⟨_, rfl⟩
  rw [hx] at hbk hrg h0 h1 hpq
  rw [hy] at h0 h1
  rw [hz] at h0 h1
  rw [hp, hq] at hpq
  have HX := Lib.hid hx
  have HY := Lib.hid hy
  have HZ := Lib.hid hz
  have HP := Lib.hid hp
  have HQ := Lib.hid hq
  have HK := Lib.hid hbk
  clear hx hy hz hp hq hbk
  have swx : IntKind.i64.wrap (-x) = -x := IntWalk.i64_in _ (by omega)
  have t1 : decide (x < -1) = false := decide_eq_false (by omega)
  have t2 : decide (1 < x) = false := decide_eq_false (by omega)
  have t3 : (-x != -x) = false := by simp
  obtain ⟨b0, t4⟩ : ∃ v, (x == 0) = v := ⟨_, rfl⟩
  obtain ⟨b1, t6⟩ : ∃ v, (x == y) = v := ⟨_, rfl⟩
  obtain ⟨k, k1⟩ : ∃ v, (a.toList == b.toList) = v := ⟨_, rfl⟩
  have t5 : b0 = true → (z != y) = false := by
    intro e; subst e
    rw [beq_iff_eq] at t4
    simp [h0 t4]
  have t7 : b1 = true → (z != x) = false := by
    intro e; subst e
    rw [beq_iff_eq] at t6
    simp [h1 t6]
  have t8 : p = true → q = true → b0 = k := by
    intro e1 e2
    have h := hpq e1 e2
    cases b0 with
    | true =>
      rw [beq_iff_eq] at t4
      have := h.1 t4
      subst this
      rw [← k1]; simp
    | false =>
      rw [beq_eq_false_iff_ne] at t4
      have : a ≠ b := fun e => t4 (h.2 e)
      rw [← k1, str_no this]
  clear h0 h1 hpq hrg
  have hS := Sat.start w
  cases b0 <;> cases b1 <;> cases p <;> cases q
  all_goals
    try have t5 := t5 rfl
    try have t7 := t7 rfl
    try obtain rfl := t8 rfl rfl
    try clear t8
    go_enter Tryd.func9, Tryd.ntmps9
    go_wp2_with fail
    refine (compare_any a b _ (tabs_keep HT.out (hS.old (by simp))) w0 w1).mono ?_
    rintro e w9 ⟨rfl, hb9⟩
    rw [HX.out]
    replace hS := hS.below hb9
    clear hb9
    go_wp2_with fail
    refine (compare_any b c _ (tabs_keep HT.out (hS.old (by simp))) w1 w2).mono ?_
    rintro e w9 ⟨rfl, hb9⟩
    rw [HY.out]
    replace hS := hS.below hb9
    clear hb9
    go_wp2_with fail
    refine (compare_any a c _ (tabs_keep HT.out (hS.old (by simp))) w0 w2).mono ?_
    rintro e w9 ⟨rfl, hb9⟩
    rw [HZ.out]
    replace hS := hS.below hb9
    clear hb9
    go_wp2_with fail
    refine (compare_any b a _ (tabs_keep HT.out (hS.old (by simp))) w1 w0).mono ?_
    rintro e w9 ⟨rfl, hb9⟩
    rw [HK.out]
    replace hS := hS.below hb9
    clear hb9
    go_wp2_with fail
    refine (is_any a _ w0).mono ?_
    rintro e w9 ⟨rfl, hb9⟩
    rw [HP.out]
    replace hS := hS.below hb9
    clear hb9
    go_wp2_with fail
    refine (is_any b _ w1).mono ?_
    rintro e w9 ⟨rfl, hb9⟩
    rw [HQ.out]
    replace hS := hS.below hb9
    clear hb9
    go_wp2_with fail
    refine (live_any _ (tabs_keep HT.out (hS.old (by simp)))).mono ?_
    rintro e w9 ⟨rfl, hb9⟩
    replace hS := hS.below hb9
    clear hb9
    go_wp2_with fail
    go_ret
    exact ⟨rfl, hS.old (by simp)⟩
def NWRel (w : World) (A : Option Addr) (n c : Nat) (L : List HP) (i : Value) (wr : World) : Prop :=
  ∃ (k : Nat) (xs : List Value), k ≤ n ∧ i = .int .i64 k ∧ xs.length = n ∧ Sat w wr (Row 9 1 A n c xs :: L)
theorem decide_same (M : List ByteArray) : decide (M = M) = true := decide_eq_true rfl
theorem nameWords_walk (s : ByteArray) (w : World) (hT : Lib.Utf8Tabs 0 1 w) (w0 : s.size ≤ 1048576) : Calls Tryd.prog 7 #[.string s] w fun e w' => e = .returned (.bool true) ∧ Below w.heap.size w w' := by
  have HT := Lib.hid hT
  clear hT
  have hlen := wordsS_len s
  obtain ⟨M, hM⟩ : ∃ M, wordsS s = M := ⟨_, rfl⟩
  rw [hM] at hlen
  have HM := Lib.hid hM
  clear hM
  have hl2 : M.length ≤ 140737488355328 := by omega
  have hS := Sat.start w
  go_enter Tryd.func7, Tryd.ntmps7
  go_wp2_with fail
  refine (words_any s w _ _ hS (by omega)).mono ?_
  rintro e w1 ⟨A, c, rfl, hS1⟩
  rw [HM.out] at hS1 ⊢
  clear hS
  go_wp2_with fail
  refine (rwords_any s w _ _ hS1 (by omega)).mono ?_
  rintro e w2 ⟨B, d, rfl, hS2⟩
  rw [HM.out] at hS2 ⊢
  clear hS1
  go_wp2_with fail
  refine (same_any w w2 M M A B c d _ _ hS2.r2 hS2 hl2 hl2).mono ?_
  rintro e w3 ⟨rfl, m, rfl⟩
  rw [decide_same]
  have hS3 := (hS2.drewN m).r2
  clear hS2
  obtain ⟨n, hn⟩ : ∃ n, M.length = n := ⟨_, rfl⟩
  have hwl : (wv M).length = n := by rw [wv_len, hn]
  rw [hn] at hS3 hlen
  simp only [hn]
  have HN := Lib.hid hn
  clear hn
  go_wp2_with fail
  go_loopw [5] (NWRel w A n c [Row 9 1 B n d (wv M), Old w]) (fun i _ => n - (intOf i).toNat)
  case atStart => exact ⟨0, wv M, Nat.zero_le _, rfl, hwl, hS3⟩
  case round =>
    obtain ⟨k, xs, hk, rfl, hx, hU⟩ := hrel
    clear hS3
    by_cases hlt : k < n
    · obtain ⟨g, rfl, hc, hf⟩ := hU.rowCell (by intro e; subst e; simp at hx; omega)
      have d1 := hc k (by omega)
      rw [List.getElem?_eq_getElem (show k < xs.length by omega)] at d1
      have f1 := hf k
      have hU2 := hU.rowSet k (.string ⟨#[120]⟩)
      obtain ⟨v, hv⟩ : ∃ v, xs[k]'(by omega) = v := ⟨_, rfl⟩
      rw [hv] at d1
      clear hc hf hv
      go_wp2_with fail
      go_roundw
      case rel => exact ⟨k + 1, xs.set k (.string ⟨#[120]⟩), by omega, by go_num, by simpa using hx, hU2⟩
      case measure => simp [intOf]; omega
    · go_wp2_with fail
      refine (words_any s w _ _ hU (by omega)).mono ?_
      rintro e w4 ⟨A2, c2, rfl, hU2⟩
      rw [HM.out] at hU2 ⊢
      go_wp2_with fail
      rw [← HN.out] at hU2 ⊢
      refine (same_any w w4 M M A2 B c2 d _ _ hU2 hU2.r3 hl2 hl2).mono ?_
      rintro e w5 ⟨rfl, m2, rfl⟩
      rw [decide_same]
      have hU3 := hU2.drewN m2
      go_wp2_with fail
      refine (live_any _ (tabs_keep HT.out (hU3.old (by simp)))).mono ?_
      rintro e w6 ⟨rfl, hb⟩
      have hU4 := hU3.below hb
      go_wp2_with fail
      go_ret
      exact ⟨rfl, hU4.old (by simp)⟩
end Go.Proofs.YtipbjcchhgbabaaDoor
