/- The document's Next: the walk. -/
import Derived.Test.YtbgbpibfmdkndaaDoorND
set_option linter.unusedVariables false
set_option linter.unusedSimpArgs false
namespace Go.Proofs.YtbgbpibfmdkndaaDoor
open Go.RowKit Go.ChangeShapes Go.WideShapes Go.ChangeAt
def bad : Nat × Nat × Bool := (65533, 1, false)
theorem next_zero {s : ByteArray} {a : Nat} (h : NM.long (NM.byteAt s a) = 0) : NM.next s a = bad := by
  unfold NM.next; simp only [Nat.add_zero]; rw [if_pos (Or.inl h)]; rfl
theorem next_short {s : ByteArray} {a : Nat} (h : s.size - a < NM.long (NM.byteAt s a)) : NM.next s a = bad := by
  unfold NM.next; simp only [Nat.add_zero]; rw [if_pos (Or.inr h)]; rfl
theorem next_one {s : ByteArray} {a : Nat} (h : NM.long (NM.byteAt s a) = 1) (hl : ¬ s.size - a < 1) : NM.next s a = (NM.byteAt s a, 1, true) := by
  unfold NM.next; simp only [Nat.add_zero, h]; rw [if_neg (by omega)]; simp
set_option maxRecDepth 100000 in
set_option maxHeartbeats 3200000 in
theorem next_any (s : ByteArray) (a : Nat) (w : World) (h : a < s.size) (hs : s.size ≤ 140737488351232) :
    Calls Tryd.prog 36 #[.string s, .int .i64 a] w fun e w' => e = .returned (nextV (NM.next s a)) ∧ w' = w := by
  have b0 := byte_of s a h
  have l0 := NM.byte_lt s a
  obtain ⟨f, hf⟩ : ∃ f, NM.byteAt s a = f := ⟨_, rfl⟩
  have sw0 : IntKind.i64.wrap ((s.size : Int) - (a : Int)) = ((s.size - a : Nat) : Int) := by rw [IntWalk.i64_in _ (by omega)]; omega
  by_cases h0 : NM.long f = 0
  · have HX := Lib.hid (next_zero (s := s) (a := a) (by rw [hf]; exact h0))
    rw [hf] at b0 l0
    clear hf
    rw [HX.out]
    go_enter Tryd.func36, Tryd.ntmps36
    go_wp2_with fail
    refine (long_any f _ l0).mono ?_
    rintro e w1 ⟨rfl, rfl⟩
    rw [h0]
    go_wp2_with fail
    go_ret3
    exact ⟨rfl, rfl⟩
  by_cases hsh : s.size - a < NM.long f
  · have HX := Lib.hid (next_short (s := s) (a := a) (by rw [hf]; exact hsh))
    rw [hf] at b0 l0
    clear hf
    rw [HX.out]
    obtain ⟨n, hn⟩ : ∃ n, NM.long f = n := ⟨_, rfl⟩
    rw [hn] at h0 hsh
    have t0 : ((n : Int) == 0) = false := by rw [beq_eq_false_iff_ne]; omega
    go_enter Tryd.func36, Tryd.ntmps36
    go_wp2_with fail
    refine (long_any f _ l0).mono ?_
    rintro e w1 ⟨rfl, rfl⟩
    rw [hn]
    clear hn
    go_wp2_with fail
    go_ret3
    exact ⟨rfl, rfl⟩
  by_cases h1 : NM.long f = 1
  · have HX := Lib.hid (next_one (s := s) (a := a) (by rw [hf]; exact h1) (by omega))
    rw [hf] at b0 l0 HX
    clear hf
    rw [HX.out]
    have g1 : ¬ s.size - a < 1 := by omega
    go_enter Tryd.func36, Tryd.ntmps36
    go_wp2_with fail
    refine (long_any f _ l0).mono ?_
    rintro e w1 ⟨rfl, rfl⟩
    rw [h1]
    clear h0 hsh h1
    go_wp2_with fail
    go_ret3
    exact ⟨rfl, rfl⟩
  have hn : NM.long f = 2 ∨ NM.long f = 3 ∨ NM.long f = 4 := by
    unfold NM.long at h0 h1 ⊢
    repeat' split
    all_goals simp_all
  rcases hn with h2 | h2 | h2
  · rw [h2] at hsh
    have hb1 : a + 1 < s.size := by clear h0 h1; omega
    have b1 := byte_of s (a + 1) hb1
    have l1 := NM.byte_lt s (a + 1)
    rw [hf] at b0 l0
    obtain ⟨X, hX⟩ : ∃ X, NM.next s a = X := ⟨_, rfl⟩
    rw [hX]
    have HX := Lib.hid hX
    have HF := Lib.hid hf
    clear hX hf h0 h1
    go_enter Tryd.func36, Tryd.ntmps36
    go_wp2_with fail
    refine (long_any f _ l0).mono ?_
    rintro e w1 ⟨rfl, rfl⟩
    rw [h2]
    have H2F : Hid (NM.long f = 2) := h2
    clear h2
    go_wp2_with fail
    obtain ⟨c1, hc1⟩ : ∃ c, NM.byteAt s (a + 1) = c := ⟨_, rfl⟩
    rw [hc1] at b1 l1
    have HC1 := Lib.hid hc1
    clear hc1
    go_loopw [9, 10, 11] (fun r i _ wr => ((r = .int .i64 ((f % 32 : Nat) : Int) ∧ i = .int .i64 1) ∨ ((NM.cont c1 && NM.second f c1) = true ∧ r = .int .i64 ((f % 32 * 64 + c1 % 64 : Nat) : Int) ∧ i = .int .i64 2)) ∧ wr = w1) (fun _ i _ _ => 2 - (intOf i).toNat)
    case atStart => exact ⟨.inl ⟨rfl, rfl⟩, rfl⟩
    case round =>
      have HBAD : Hid ((NM.cont c1 && NM.second f c1) = false → X = bad) := by
        show _ → _
        intro hb
        rw [← HX.out]
        unfold NM.next
        simp only [Nat.add_zero, HF.out, HC1.out, H2F.out, hb]
        rw [if_neg (by omega)]
        rfl
      obtain ⟨⟨rfl, rfl⟩ | ⟨hg1, rfl, rfl⟩, rfl⟩ := hrel
      · have sw1 : IntKind.i64.wrap ((a : Int) + 1) = ((a + 1 : Nat) : Int) := by rw [IntWalk.i64_in _ (by omega)]; omega
        by_cases g1 : 128 ≤ c1
        · by_cases g2 : c1 ≤ 191
          · have HCT : Hid (NM.cont c1 = true) := decide_eq_true (show 128 ≤ c1 ∧ c1 ≤ 191 from ⟨g1, g2⟩)
            go_wp2_with fail
            refine (second_any f c1 _ l0 l1).mono ?_
            rintro e w2 ⟨rfl, rfl⟩
            obtain ⟨z, hz⟩ : ∃ z, NM.second f c1 = z := ⟨_, rfl⟩
            rw [hz]
            cases z with
            | true =>
              have HG1 : Hid ((NM.cont c1 && NM.second f c1) = true) := by show _ = _; rw [HCT.out, hz]; rfl
              have sw2 : IntKind.i64.wrap (((f % 32 : Nat) : Int) * 64 + (c1 : Int) % 64) = ((f % 32 * 64 + c1 % 64 : Nat) : Int) := by rw [IntWalk.i64_in _ (by omega)]; omega
              clear hz
              go_wp2_with fail
              go_roundw
              case rel => exact ⟨.inr (⟨HG1.out, by go_num, by go_num⟩), by first | rfl | trivial⟩
              case measure => simp [intOf]
            | false =>
              have HY := Lib.hid (HBAD.out (by rw [hz]; simp))
              go_wp2_with fail
              go_ret3
              rw [HY.out]
              exact ⟨rfl, rfl⟩
          · have HCF : Hid (NM.cont c1 = false) := decide_eq_false (fun h => g2 h.2)
            have HY := Lib.hid (HBAD.out (by rw [HCF.out]; simp))
            go_wp2_with fail
            go_ret3
            rw [HY.out]
            exact ⟨rfl, rfl⟩
        · have HCF : Hid (NM.cont c1 = false) := decide_eq_false (fun h => g1 h.1)
          have HY := Lib.hid (HBAD.out (by rw [HCF.out]; simp))
          go_wp2_with fail
          go_ret3
          rw [HY.out]
          exact ⟨rfl, rfl⟩
      · have HY : Hid (X = (f % 32 * 64 + c1 % 64, 2, true)) := by
          show _ = _
          rw [← HX.out]
          unfold NM.next
          simp only [Nat.add_zero, HF.out, HC1.out, H2F.out, hg1]
          rw [if_neg (by omega)]
          rfl
        go_wp2_with fail
        go_ret3
        rw [HY.out]
        exact ⟨rfl, rfl⟩
  · rw [h2] at hsh
    have hb1 : a + 1 < s.size := by clear h0 h1; omega
    have b1 := byte_of s (a + 1) hb1
    have l1 := NM.byte_lt s (a + 1)
    have hb2 : a + 2 < s.size := by clear h0 h1; omega
    have b2 := byte_of s (a + 2) hb2
    have l2 := NM.byte_lt s (a + 2)
    rw [hf] at b0 l0
    obtain ⟨X, hX⟩ : ∃ X, NM.next s a = X := ⟨_, rfl⟩
    rw [hX]
    have HX := Lib.hid hX
    have HF := Lib.hid hf
    clear hX hf h0 h1
    go_enter Tryd.func36, Tryd.ntmps36
    go_wp2_with fail
    refine (long_any f _ l0).mono ?_
    rintro e w1 ⟨rfl, rfl⟩
    rw [h2]
    have H2F : Hid (NM.long f = 3) := h2
    clear h2
    go_wp2_with fail
    obtain ⟨c1, hc1⟩ : ∃ c, NM.byteAt s (a + 1) = c := ⟨_, rfl⟩
    rw [hc1] at b1 l1
    have HC1 := Lib.hid hc1
    clear hc1
    obtain ⟨c2, hc2⟩ : ∃ c, NM.byteAt s (a + 2) = c := ⟨_, rfl⟩
    rw [hc2] at b2 l2
    have HC2 := Lib.hid hc2
    clear hc2
    go_loopw [9, 10, 11] (fun r i _ wr => ((r = .int .i64 ((f % 16 : Nat) : Int) ∧ i = .int .i64 1) ∨ ((NM.cont c1 && NM.second f c1) = true ∧ r = .int .i64 ((f % 16 * 64 + c1 % 64 : Nat) : Int) ∧ i = .int .i64 2) ∨ ((NM.cont c1 && NM.second f c1) = true ∧ NM.cont c2 = true ∧ r = .int .i64 (((f % 16 * 64 + c1 % 64) * 64 + c2 % 64 : Nat) : Int) ∧ i = .int .i64 3)) ∧ wr = w1) (fun _ i _ _ => 3 - (intOf i).toNat)
    case atStart => exact ⟨.inl ⟨rfl, rfl⟩, rfl⟩
    case round =>
      have HBAD : Hid ((NM.cont c1 && NM.second f c1 && NM.cont c2) = false → X = bad) := by
        show _ → _
        intro hb
        rw [← HX.out]
        unfold NM.next
        simp only [Nat.add_zero, HF.out, HC1.out, HC2.out, H2F.out, hb]
        rw [if_neg (by omega)]
        rfl
      obtain ⟨⟨rfl, rfl⟩ | ⟨hg1, rfl, rfl⟩ | ⟨hg1, hg2, rfl, rfl⟩, rfl⟩ := hrel
      · have sw1 : IntKind.i64.wrap ((a : Int) + 1) = ((a + 1 : Nat) : Int) := by rw [IntWalk.i64_in _ (by omega)]; omega
        by_cases g1 : 128 ≤ c1
        · by_cases g2 : c1 ≤ 191
          · have HCT : Hid (NM.cont c1 = true) := decide_eq_true (show 128 ≤ c1 ∧ c1 ≤ 191 from ⟨g1, g2⟩)
            go_wp2_with fail
            refine (second_any f c1 _ l0 l1).mono ?_
            rintro e w2 ⟨rfl, rfl⟩
            obtain ⟨z, hz⟩ : ∃ z, NM.second f c1 = z := ⟨_, rfl⟩
            rw [hz]
            cases z with
            | true =>
              have HG1 : Hid ((NM.cont c1 && NM.second f c1) = true) := by show _ = _; rw [HCT.out, hz]; rfl
              have sw2 : IntKind.i64.wrap (((f % 16 : Nat) : Int) * 64 + (c1 : Int) % 64) = ((f % 16 * 64 + c1 % 64 : Nat) : Int) := by rw [IntWalk.i64_in _ (by omega)]; omega
              clear hz
              go_wp2_with fail
              go_roundw
              case rel => exact ⟨.inr (.inl ⟨HG1.out, by go_num, by go_num⟩), by first | rfl | trivial⟩
              case measure => simp [intOf]
            | false =>
              have HY := Lib.hid (HBAD.out (by rw [hz]; simp))
              go_wp2_with fail
              go_ret3
              rw [HY.out]
              exact ⟨rfl, rfl⟩
          · have HCF : Hid (NM.cont c1 = false) := decide_eq_false (fun h => g2 h.2)
            have HY := Lib.hid (HBAD.out (by rw [HCF.out]; simp))
            go_wp2_with fail
            go_ret3
            rw [HY.out]
            exact ⟨rfl, rfl⟩
        · have HCF : Hid (NM.cont c1 = false) := decide_eq_false (fun h => g1 h.1)
          have HY := Lib.hid (HBAD.out (by rw [HCF.out]; simp))
          go_wp2_with fail
          go_ret3
          rw [HY.out]
          exact ⟨rfl, rfl⟩
      · have sw1 : IntKind.i64.wrap ((a : Int) + 2) = ((a + 2 : Nat) : Int) := by rw [IntWalk.i64_in _ (by omega)]; omega
        have HG1 := Lib.hid hg1
        clear hg1
        by_cases g1 : 128 ≤ c2
        · by_cases g2 : c2 ≤ 191
          · have HCT : Hid (NM.cont c2 = true) := decide_eq_true (show 128 ≤ c2 ∧ c2 ≤ 191 from ⟨g1, g2⟩)
            have sw2 : IntKind.i64.wrap (((f % 16 * 64 + c1 % 64 : Nat) : Int) * 64 + (c2 : Int) % 64) = (((f % 16 * 64 + c1 % 64) * 64 + c2 % 64 : Nat) : Int) := by rw [IntWalk.i64_in _ (by omega)]; omega
            go_wp2_with fail
            go_roundw
            case rel => exact ⟨.inr (.inr (⟨HG1.out, HCT.out, by go_num, by go_num⟩)), by first | rfl | trivial⟩
            case measure => simp [intOf]
          · have HCF : Hid (NM.cont c2 = false) := decide_eq_false (fun h => g2 h.2)
            have HY := Lib.hid (HBAD.out (by rw [HCF.out]; simp))
            go_wp2_with fail
            go_ret3
            rw [HY.out]
            exact ⟨rfl, rfl⟩
        · have HCF : Hid (NM.cont c2 = false) := decide_eq_false (fun h => g1 h.1)
          have HY := Lib.hid (HBAD.out (by rw [HCF.out]; simp))
          go_wp2_with fail
          go_ret3
          rw [HY.out]
          exact ⟨rfl, rfl⟩
      · have HY : Hid (X = ((f % 16 * 64 + c1 % 64) * 64 + c2 % 64, 3, true)) := by
          show _ = _
          rw [← HX.out]
          unfold NM.next
          simp only [Nat.add_zero, HF.out, HC1.out, HC2.out, H2F.out, hg1, hg2]
          rw [if_neg (by omega)]
          rfl
        go_wp2_with fail
        go_ret3
        rw [HY.out]
        exact ⟨rfl, rfl⟩
  · rw [h2] at hsh
    have hb1 : a + 1 < s.size := by clear h0 h1; omega
    have b1 := byte_of s (a + 1) hb1
    have l1 := NM.byte_lt s (a + 1)
    have hb2 : a + 2 < s.size := by clear h0 h1; omega
    have b2 := byte_of s (a + 2) hb2
    have l2 := NM.byte_lt s (a + 2)
    have hb3 : a + 3 < s.size := by clear h0 h1; omega
    have b3 := byte_of s (a + 3) hb3
    have l3 := NM.byte_lt s (a + 3)
    rw [hf] at b0 l0
    obtain ⟨X, hX⟩ : ∃ X, NM.next s a = X := ⟨_, rfl⟩
    rw [hX]
    have HX := Lib.hid hX
    have HF := Lib.hid hf
    clear hX hf h0 h1
    go_enter Tryd.func36, Tryd.ntmps36
    go_wp2_with fail
    refine (long_any f _ l0).mono ?_
    rintro e w1 ⟨rfl, rfl⟩
    rw [h2]
    have H2F : Hid (NM.long f = 4) := h2
    clear h2
    go_wp2_with fail
    obtain ⟨c1, hc1⟩ : ∃ c, NM.byteAt s (a + 1) = c := ⟨_, rfl⟩
    rw [hc1] at b1 l1
    have HC1 := Lib.hid hc1
    clear hc1
    obtain ⟨c2, hc2⟩ : ∃ c, NM.byteAt s (a + 2) = c := ⟨_, rfl⟩
    rw [hc2] at b2 l2
    have HC2 := Lib.hid hc2
    clear hc2
    obtain ⟨c3, hc3⟩ : ∃ c, NM.byteAt s (a + 3) = c := ⟨_, rfl⟩
    rw [hc3] at b3 l3
    have HC3 := Lib.hid hc3
    clear hc3
    go_loopw [9, 10, 11] (fun r i _ wr => ((r = .int .i64 ((f % 8 : Nat) : Int) ∧ i = .int .i64 1) ∨ ((NM.cont c1 && NM.second f c1) = true ∧ r = .int .i64 ((f % 8 * 64 + c1 % 64 : Nat) : Int) ∧ i = .int .i64 2) ∨ ((NM.cont c1 && NM.second f c1) = true ∧ NM.cont c2 = true ∧ r = .int .i64 (((f % 8 * 64 + c1 % 64) * 64 + c2 % 64 : Nat) : Int) ∧ i = .int .i64 3) ∨ ((NM.cont c1 && NM.second f c1) = true ∧ NM.cont c2 = true ∧ NM.cont c3 = true ∧ r = .int .i64 ((((f % 8 * 64 + c1 % 64) * 64 + c2 % 64) * 64 + c3 % 64 : Nat) : Int) ∧ i = .int .i64 4)) ∧ wr = w1) (fun _ i _ _ => 4 - (intOf i).toNat)
    case atStart => exact ⟨.inl ⟨rfl, rfl⟩, rfl⟩
    case round =>
      have HBAD : Hid ((NM.cont c1 && NM.second f c1 && NM.cont c2 && NM.cont c3) = false → X = bad) := by
        show _ → _
        intro hb
        rw [← HX.out]
        unfold NM.next
        simp only [Nat.add_zero, HF.out, HC1.out, HC2.out, HC3.out, H2F.out, hb]
        rw [if_neg (by omega)]
        rfl
      obtain ⟨⟨rfl, rfl⟩ | ⟨hg1, rfl, rfl⟩ | ⟨hg1, hg2, rfl, rfl⟩ | ⟨hg1, hg2, hg3, rfl, rfl⟩, rfl⟩ := hrel
      · have sw1 : IntKind.i64.wrap ((a : Int) + 1) = ((a + 1 : Nat) : Int) := by rw [IntWalk.i64_in _ (by omega)]; omega
        by_cases g1 : 128 ≤ c1
        · by_cases g2 : c1 ≤ 191
          · have HCT : Hid (NM.cont c1 = true) := decide_eq_true (show 128 ≤ c1 ∧ c1 ≤ 191 from ⟨g1, g2⟩)
            go_wp2_with fail
            refine (second_any f c1 _ l0 l1).mono ?_
            rintro e w2 ⟨rfl, rfl⟩
            obtain ⟨z, hz⟩ : ∃ z, NM.second f c1 = z := ⟨_, rfl⟩
            rw [hz]
            cases z with
            | true =>
              have HG1 : Hid ((NM.cont c1 && NM.second f c1) = true) := by show _ = _; rw [HCT.out, hz]; rfl
              have sw2 : IntKind.i64.wrap (((f % 8 : Nat) : Int) * 64 + (c1 : Int) % 64) = ((f % 8 * 64 + c1 % 64 : Nat) : Int) := by rw [IntWalk.i64_in _ (by omega)]; omega
              clear hz
              go_wp2_with fail
              go_roundw
              case rel => exact ⟨.inr (.inl ⟨HG1.out, by go_num, by go_num⟩), by first | rfl | trivial⟩
              case measure => simp [intOf]
            | false =>
              have HY := Lib.hid (HBAD.out (by rw [hz]; simp))
              go_wp2_with fail
              go_ret3
              rw [HY.out]
              exact ⟨rfl, rfl⟩
          · have HCF : Hid (NM.cont c1 = false) := decide_eq_false (fun h => g2 h.2)
            have HY := Lib.hid (HBAD.out (by rw [HCF.out]; simp))
            go_wp2_with fail
            go_ret3
            rw [HY.out]
            exact ⟨rfl, rfl⟩
        · have HCF : Hid (NM.cont c1 = false) := decide_eq_false (fun h => g1 h.1)
          have HY := Lib.hid (HBAD.out (by rw [HCF.out]; simp))
          go_wp2_with fail
          go_ret3
          rw [HY.out]
          exact ⟨rfl, rfl⟩
      · have sw1 : IntKind.i64.wrap ((a : Int) + 2) = ((a + 2 : Nat) : Int) := by rw [IntWalk.i64_in _ (by omega)]; omega
        have HG1 := Lib.hid hg1
        clear hg1
        by_cases g1 : 128 ≤ c2
        · by_cases g2 : c2 ≤ 191
          · have HCT : Hid (NM.cont c2 = true) := decide_eq_true (show 128 ≤ c2 ∧ c2 ≤ 191 from ⟨g1, g2⟩)
            have sw2 : IntKind.i64.wrap (((f % 8 * 64 + c1 % 64 : Nat) : Int) * 64 + (c2 : Int) % 64) = (((f % 8 * 64 + c1 % 64) * 64 + c2 % 64 : Nat) : Int) := by rw [IntWalk.i64_in _ (by omega)]; omega
            go_wp2_with fail
            go_roundw
            case rel => exact ⟨.inr (.inr (.inl ⟨HG1.out, HCT.out, by go_num, by go_num⟩)), by first | rfl | trivial⟩
            case measure => simp [intOf]
          · have HCF : Hid (NM.cont c2 = false) := decide_eq_false (fun h => g2 h.2)
            have HY := Lib.hid (HBAD.out (by rw [HCF.out]; simp))
            go_wp2_with fail
            go_ret3
            rw [HY.out]
            exact ⟨rfl, rfl⟩
        · have HCF : Hid (NM.cont c2 = false) := decide_eq_false (fun h => g1 h.1)
          have HY := Lib.hid (HBAD.out (by rw [HCF.out]; simp))
          go_wp2_with fail
          go_ret3
          rw [HY.out]
          exact ⟨rfl, rfl⟩
      · have sw1 : IntKind.i64.wrap ((a : Int) + 3) = ((a + 3 : Nat) : Int) := by rw [IntWalk.i64_in _ (by omega)]; omega
        have HG1 := Lib.hid hg1
        have HG2 := Lib.hid hg2
        clear hg1 hg2
        by_cases g1 : 128 ≤ c3
        · by_cases g2 : c3 ≤ 191
          · have HCT : Hid (NM.cont c3 = true) := decide_eq_true (show 128 ≤ c3 ∧ c3 ≤ 191 from ⟨g1, g2⟩)
            have sw2 : IntKind.i64.wrap ((((f % 8 * 64 + c1 % 64) * 64 + c2 % 64 : Nat) : Int) * 64 + (c3 : Int) % 64) = ((((f % 8 * 64 + c1 % 64) * 64 + c2 % 64) * 64 + c3 % 64 : Nat) : Int) := by rw [IntWalk.i64_in _ (by omega)]; omega
            go_wp2_with fail
            go_roundw
            case rel => exact ⟨.inr (.inr (.inr (⟨HG1.out, HG2.out, HCT.out, by go_num, by go_num⟩))), by first | rfl | trivial⟩
            case measure => simp [intOf]
          · have HCF : Hid (NM.cont c3 = false) := decide_eq_false (fun h => g2 h.2)
            have HY := Lib.hid (HBAD.out (by rw [HCF.out]; simp))
            go_wp2_with fail
            go_ret3
            rw [HY.out]
            exact ⟨rfl, rfl⟩
        · have HCF : Hid (NM.cont c3 = false) := decide_eq_false (fun h => g1 h.1)
          have HY := Lib.hid (HBAD.out (by rw [HCF.out]; simp))
          go_wp2_with fail
          go_ret3
          rw [HY.out]
          exact ⟨rfl, rfl⟩
      · have HY : Hid (X = (((f % 8 * 64 + c1 % 64) * 64 + c2 % 64) * 64 + c3 % 64, 4, true)) := by
          show _ = _
          rw [← HX.out]
          unfold NM.next
          simp only [Nat.add_zero, HF.out, HC1.out, HC2.out, HC3.out, H2F.out, hg1, hg2, hg3]
          rw [if_neg (by omega)]
          rfl
        go_wp2_with fail
        go_ret3
        rw [HY.out]
        exact ⟨rfl, rfl⟩
end Go.Proofs.YtbgbpibfmdkndaaDoor
