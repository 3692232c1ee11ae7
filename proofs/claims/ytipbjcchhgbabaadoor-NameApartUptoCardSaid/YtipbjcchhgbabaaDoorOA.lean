/- Words: the document's. -/
import Derived.Test.YtipbjcchhgbabaaDoorNZ
set_option linter.unusedVariables false
set_option linter.unusedSimpArgs false
namespace Go.Proofs.YtipbjcchhgbabaaDoor
open Go.RowKit Go.ChangeShapes Go.WideShapes Go.ChangeAt
def RWRel (w0 : World) (F : List HP) (s : ByteArray) (out from_ at_ : Value) (wr : World) : Prop :=
  ∃ (p f : Nat) (D : List ByteArray) (A : Option Addr) (c : Nat), p ≤ s.size ∧ D.length ≤ p ∧ WAt s D f p ∧ from_ = .int .i64 f ∧ at_ = .int .i64 p ∧ out = .slice A D.length c ∧ Sat w0 wr (Row 9 1 A D.length c (wv D) :: F)
theorem blank_cases (r : Nat) : (NM.blankP r = true ∧ r = 9) ∨ (NM.blankP r = true ∧ r ≠ 9 ∧ r = 32) ∨ (NM.blankP r = true ∧ r ≠ 9 ∧ r ≠ 32 ∧ r = 160) ∨ (NM.blankP r = true ∧ r ≠ 9 ∧ r ≠ 32 ∧ r ≠ 160 ∧ r = 8195) ∨ (NM.blankP r = false ∧ r ≠ 9 ∧ r ≠ 32 ∧ r ≠ 160 ∧ r ≠ 8195) := by
  by_cases h1 : r = 9
  · left; subst h1; exact ⟨by decide, rfl⟩
  by_cases h2 : r = 32
  · right; left; subst h2; exact ⟨by decide, h1, rfl⟩
  by_cases h3 : r = 160
  · right; right; left; subst h3; exact ⟨by decide, h1, h2, rfl⟩
  by_cases h4 : r = 8195
  · right; right; right; left; subst h4; exact ⟨by decide, h1, h2, h3, rfl⟩
  · right; right; right; right; exact ⟨by unfold NM.blankP; apply decide_eq_false; omega, h1, h2, h3, h4⟩
set_option maxRecDepth 100000 in
set_option maxHeartbeats 3200000 in
theorem rwords_any (s : ByteArray) (w0 w : World) (F : List HP) (hS : Sat w0 w F) (hs : s.size ≤ 4194304) :
    Calls Tryd.prog 23 #[.string s] w fun e w' => ∃ A c, e = .returned (.slice A (wordsS s).length c) ∧ Sat w0 w' (Row 9 1 A (wordsS s).length c (wv (wordsS s)) :: F) := by
  obtain ⟨i, hi, hz, hsz, hby⟩ := info_parts info9
  have hS0 := hS.nilRow 9 1
  go_enter Tryd.func23, Tryd.ntmps23
  go_wp2_with fail
  go_loopw [3, 4, 5] (RWRel w0 F s) (fun _ _ a _ => s.size - (intOf a).toNat)
  case atStart => exact ⟨0, 0, [], none, 0, Nat.zero_le _, Nat.le_refl _, WAt.start s, rfl, rfl, rfl, hS0⟩
  case round =>
    obtain ⟨p, f, D, A, c, hp, hDp, hW, rfl, rfl, rfl, hT⟩ := hrel
    clear hS0 hS
    have hfp := hW.le
    by_cases hlt : p < s.size
    · have hst := tk_next s p hlt
      obtain ⟨hn1, hn2⟩ := next_n s p hlt
      have hr := next_lt s p hlt
      obtain ⟨⟨r, n, ok⟩, hX⟩ : ∃ X, NM.next s p = X := ⟨_, rfl⟩
      rw [hX] at hst hn1 hn2 hr
      simp only at hst hn1 hn2 hr
      have HX := Lib.hid hX
      have HST := Lib.hid hst
      clear hst hX
      have swn : IntKind.i64.wrap ((p : Int) + (n : Int)) = ((p + n : Nat) : Int) := by rw [IntWalk.i64_in _ (by omega)]; omega
      have kn : s.size - (p + n) < s.size - p := by omega
      rcases blank_cases r with ⟨hb, q1⟩ | ⟨hb, q1, q2⟩ | ⟨hb, q1, q2, q3⟩ | ⟨hb, q1, q2, q3, q4⟩ | ⟨hb, q1, q2, q3, q4⟩
      · skip
        have e1 : ((r : Int) == 9) = true := by rw [beq_iff_eq]; omega
        clear q1
        by_cases hf : f = p
        · have HW := hW.blank0 HST.out hb hf
          have t1 : ¬ f < p := by omega
          clear hf
          go_wp2_with (go_at_call 26; refine (next_at s p r n _ _ hlt (by omega) HX.out).mono ?_; rintro e w1 ⟨rfl, rfl⟩)
          go_roundw
          case rel => exact ⟨p + n, p + n, D, A, c, by omega, by omega, HW, by first | rfl | go_num, by first | rfl | go_num, rfl, hT⟩
          case measure => simp [intOf]; omega
        · have t1 : f < p := by omega
          have HW := hW.blank1 HST.out hb t1
          have h4 : D.length + 1 ≤ maxLen := by unfold maxLen; omega
          have h5 : (D.length + 1) * 16 ≤ 140737488355328 := by omega
          have hps : p ≤ s.size := hp
          go_wp2_with (first
            | (go_at_call 26; refine (next_at s p r n _ _ hlt (by omega) HX.out).mono ?_; rintro e w1 ⟨rfl, rfl⟩)
            | (at_builtin; refine wpList_app1 rfl (.tmp 37) (.tmp 42) 28 rfl 9 i (.string ⟨#[]⟩) 1 16 Tryd.underlying28 hi hz hsz hby rfl (by decide) rfl (hT.new #[.string (s.extract f p)] 9) (by rfl) rfl (wv_one [s.extract f p]) h4 h5 ?_; intro A' c' w' hT3))
          go_roundw
          case rel => exact ⟨p + n, p + n, D ++ [s.extract f p], A', c', by omega, by simp; omega, HW, by first | rfl | go_num, by first | rfl | go_num, by simp, by simpa [wv] using hT3⟩
          case measure => simp [intOf]; omega
      · skip
        have e1 : ((r : Int) == 9) = false := by rw [beq_eq_false_iff_ne]; omega
        have e2 : ((r : Int) == 32) = true := by rw [beq_iff_eq]; omega
        clear q1 q2
        by_cases hf : f = p
        · have HW := hW.blank0 HST.out hb hf
          have t1 : ¬ f < p := by omega
          clear hf
          go_wp2_with (go_at_call 26; refine (next_at s p r n _ _ hlt (by omega) HX.out).mono ?_; rintro e w1 ⟨rfl, rfl⟩)
          go_roundw
          case rel => exact ⟨p + n, p + n, D, A, c, by omega, by omega, HW, by first | rfl | go_num, by first | rfl | go_num, rfl, hT⟩
          case measure => simp [intOf]; omega
        · have t1 : f < p := by omega
          have HW := hW.blank1 HST.out hb t1
          have h4 : D.length + 1 ≤ maxLen := by unfold maxLen; omega
          have h5 : (D.length + 1) * 16 ≤ 140737488355328 := by omega
          have hps : p ≤ s.size := hp
          go_wp2_with (first
            | (go_at_call 26; refine (next_at s p r n _ _ hlt (by omega) HX.out).mono ?_; rintro e w1 ⟨rfl, rfl⟩)
            | (at_builtin; refine wpList_app1 rfl (.tmp 37) (.tmp 42) 28 rfl 9 i (.string ⟨#[]⟩) 1 16 Tryd.underlying28 hi hz hsz hby rfl (by decide) rfl (hT.new #[.string (s.extract f p)] 9) (by rfl) rfl (wv_one [s.extract f p]) h4 h5 ?_; intro A' c' w' hT3))
          go_roundw
          case rel => exact ⟨p + n, p + n, D ++ [s.extract f p], A', c', by omega, by simp; omega, HW, by first | rfl | go_num, by first | rfl | go_num, by simp, by simpa [wv] using hT3⟩
          case measure => simp [intOf]; omega
      · skip
        have e1 : ((r : Int) == 9) = false := by rw [beq_eq_false_iff_ne]; omega
        have e2 : ((r : Int) == 32) = false := by rw [beq_eq_false_iff_ne]; omega
        have e3 : ((r : Int) == 160) = true := by rw [beq_iff_eq]; omega
        clear q1 q2 q3
        by_cases hf : f = p
        · have HW := hW.blank0 HST.out hb hf
          have t1 : ¬ f < p := by omega
          clear hf
          go_wp2_with (go_at_call 26; refine (next_at s p r n _ _ hlt (by omega) HX.out).mono ?_; rintro e w1 ⟨rfl, rfl⟩)
          go_roundw
          case rel => exact ⟨p + n, p + n, D, A, c, by omega, by omega, HW, by first | rfl | go_num, by first | rfl | go_num, rfl, hT⟩
          case measure => simp [intOf]; omega
        · have t1 : f < p := by omega
          have HW := hW.blank1 HST.out hb t1
          have h4 : D.length + 1 ≤ maxLen := by unfold maxLen; omega
          have h5 : (D.length + 1) * 16 ≤ 140737488355328 := by omega
          have hps : p ≤ s.size := hp
          go_wp2_with (first
            | (go_at_call 26; refine (next_at s p r n _ _ hlt (by omega) HX.out).mono ?_; rintro e w1 ⟨rfl, rfl⟩)
            | (at_builtin; refine wpList_app1 rfl (.tmp 37) (.tmp 42) 28 rfl 9 i (.string ⟨#[]⟩) 1 16 Tryd.underlying28 hi hz hsz hby rfl (by decide) rfl (hT.new #[.string (s.extract f p)] 9) (by rfl) rfl (wv_one [s.extract f p]) h4 h5 ?_; intro A' c' w' hT3))
          go_roundw
          case rel => exact ⟨p + n, p + n, D ++ [s.extract f p], A', c', by omega, by simp; omega, HW, by first | rfl | go_num, by first | rfl | go_num, by simp, by simpa [wv] using hT3⟩
          case measure => simp [intOf]; omega
      · skip
        have e1 : ((r : Int) == 9) = false := by rw [beq_eq_false_iff_ne]; omega
        have e2 : ((r : Int) == 32) = false := by rw [beq_eq_false_iff_ne]; omega
        have e3 : ((r : Int) == 160) = false := by rw [beq_eq_false_iff_ne]; omega
        have e4 : ((r : Int) == 8195) = true := by rw [beq_iff_eq]; omega
        clear q1 q2 q3 q4
        by_cases hf : f = p
        · have HW := hW.blank0 HST.out hb hf
          have t1 : ¬ f < p := by omega
          clear hf
          go_wp2_with (go_at_call 26; refine (next_at s p r n _ _ hlt (by omega) HX.out).mono ?_; rintro e w1 ⟨rfl, rfl⟩)
          go_roundw
          case rel => exact ⟨p + n, p + n, D, A, c, by omega, by omega, HW, by first | rfl | go_num, by first | rfl | go_num, rfl, hT⟩
          case measure => simp [intOf]; omega
        · have t1 : f < p := by omega
          have HW := hW.blank1 HST.out hb t1
          have h4 : D.length + 1 ≤ maxLen := by unfold maxLen; omega
          have h5 : (D.length + 1) * 16 ≤ 140737488355328 := by omega
          have hps : p ≤ s.size := hp
          go_wp2_with (first
            | (go_at_call 26; refine (next_at s p r n _ _ hlt (by omega) HX.out).mono ?_; rintro e w1 ⟨rfl, rfl⟩)
            | (at_builtin; refine wpList_app1 rfl (.tmp 37) (.tmp 42) 28 rfl 9 i (.string ⟨#[]⟩) 1 16 Tryd.underlying28 hi hz hsz hby rfl (by decide) rfl (hT.new #[.string (s.extract f p)] 9) (by rfl) rfl (wv_one [s.extract f p]) h4 h5 ?_; intro A' c' w' hT3))
          go_roundw
          case rel => exact ⟨p + n, p + n, D ++ [s.extract f p], A', c', by omega, by simp; omega, HW, by first | rfl | go_num, by first | rfl | go_num, by simp, by simpa [wv] using hT3⟩
          case measure => simp [intOf]; omega
      · skip
        have e1 : ((r : Int) == 9) = false := by rw [beq_eq_false_iff_ne]; omega
        have e2 : ((r : Int) == 32) = false := by rw [beq_eq_false_iff_ne]; omega
        have e3 : ((r : Int) == 160) = false := by rw [beq_eq_false_iff_ne]; omega
        have e4 : ((r : Int) == 8195) = false := by rw [beq_eq_false_iff_ne]; omega
        clear q1 q2 q3 q4
        have HW := hW.plain HST.out hn1 hb
        go_wp2_with (go_at_call 26; refine (next_at s p r n _ _ hlt (by omega) HX.out).mono ?_; rintro e w1 ⟨rfl, rfl⟩)
        go_roundw
        case rel => exact ⟨p + n, f, D, A, c, by omega, by omega, HW, rfl, by first | rfl | go_num, rfl, hT⟩
        case measure => simp [intOf]; omega
    · by_cases hf : f = p
      · have HW := Lib.hid (hW.end0 (by omega) hf)
        have t1 : ¬ f < s.size := by omega
        clear hf hW
        go_wp2_with fail
        go_ret
        exact ⟨A, c, by rw [HW.out]; rfl, by rw [HW.out]; exact hT⟩
      · have hps : p = s.size := by omega
        have HW := Lib.hid (hps ▸ hW.end1 (by omega) (by omega) : wordsS s = D ++ [s.extract f s.size])
        have t1 : f < s.size := by omega
        have h4 : D.length + 1 ≤ maxLen := by unfold maxLen; omega
        have h5 : (D.length + 1) * 16 ≤ 140737488355328 := by omega
        clear hf hW
        go_wp2_with (at_builtin; refine wpList_app1 rfl (.tmp 54) (.tmp 58) 28 rfl 9 i (.string ⟨#[]⟩) 1 16 Tryd.underlying28 hi hz hsz hby rfl (by decide) rfl (hT.new #[.string (s.extract f s.size)] 9) (by rfl) rfl (wv_one [s.extract f s.size]) h4 h5 ?_; intro A' c' w' hT3)
        go_ret
        refine ⟨A', c', ?_, ?_⟩
        · rw [HW.out, List.length_append]; rfl
        · rw [HW.out, List.length_append]; simpa [wv] using hT3
end Go.Proofs.YtipbjcchhgbabaaDoor
