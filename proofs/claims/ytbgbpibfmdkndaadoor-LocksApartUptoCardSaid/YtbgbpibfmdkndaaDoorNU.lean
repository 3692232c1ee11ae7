/- Is: the document's. -/
import Derived.Test.YtbgbpibfmdkndaaDoorNT
set_option linter.unusedVariables false
set_option linter.unusedSimpArgs false
namespace Go.Proofs.YtbgbpibfmdkndaaDoor
open Go.RowKit Go.ChangeShapes Go.WideShapes Go.ChangeAt
theorem next_at (s : ByteArray) (p r n : Nat) (ok : Bool) (w : World) (h : p < s.size) (hs : s.size ≤ 140737488351232) (hX : NM.next s p = (r, n, ok)) :
    Calls Tryd.prog 36 #[.string s, .int .i64 p] w fun e w' => e = .returned (.tuple #[.int .i64 r, .int .i64 n, .bool ok]) ∧ w' = w := by
  have := next_any s p w h hs
  rw [hX] at this
  exact this
theorem ret_bool {a b : Bool} (h : a = b) : Ending.returned (.bool a) = .returned (.bool b) := by rw [h]
def RIsRel (s : ByteArray) (n at_ : Value) : Prop :=
  ∃ p k : Nat, p ≤ s.size ∧ k ≤ p ∧ n = .int .i64 k ∧ at_ = .int .i64 p ∧ NM.isT 0 (tk s 0) = NM.isT k (tk s p)
set_option maxRecDepth 100000 in
set_option maxHeartbeats 1600000 in
theorem ris_any (s : ByteArray) (w : World) (hs : s.size ≤ 140737488351232) :
    Calls Tryd.prog 29 #[.string s] w fun e w' => e = .returned (.bool (NM.isT 0 (tk s 0))) ∧ w' = w := by
  go_enter Tryd.func29, Tryd.ntmps29
  go_wp2_with fail
  go_loop [3, 4] (RIsRel s) (fun _ a => s.size - (intOf a).toNat)
  case atStart => exact ⟨0, 0, Nat.zero_le _, Nat.le_refl _, rfl, rfl, rfl⟩
  case round =>
    obtain ⟨p, k, hp, hkp, rfl, rfl, hI⟩ := hrel
    by_cases hlt : p < s.size
    · have hI2 : NM.isT k (tk s p) = (NM.okT k (NM.next s p).1 && NM.isT (k + 1) (tk s (p + (NM.next s p).2.1))) := by rw [tk_next s p hlt]; rfl
      obtain ⟨hn1, hn2⟩ := next_n s p hlt
      have hr := next_lt s p hlt
      have hbad : (NM.next s p).2.2 = false → (NM.next s p).1 = 65533 := next_bad s p
      obtain ⟨⟨r, n, ok⟩, hX⟩ : ∃ X, NM.next s p = X := ⟨_, rfl⟩
      rw [hX] at hI2 hn1 hn2 hr hbad
      simp only at hI2 hn1 hn2 hr hbad
      have HX := Lib.hid hX
      have hI3 := Lib.hid (hI.trans hI2)
      have HB := Lib.hid hbad
      clear hI hI2 hX hbad
      have swn : IntKind.i64.wrap ((p : Int) + (n : Int)) = ((p + n : Nat) : Int) := by rw [IntWalk.i64_in _ (by omega)]; omega
      cases ok with
      | false =>
        have HO : Hid (NM.okT k r = false) := by
          show _ = _
          rw [HB.out rfl]
          rcases okT_cases k 65533 with ⟨h, _⟩ | ⟨_, _, h⟩ | ⟨_, _, h, _⟩ | ⟨_, _, _, _, h⟩ | ⟨_, _, _, _, _, h⟩ | ⟨_, _, _, _, h, _⟩
          · exact absurd h (by decide)
          · exact h
          · omega
          · exact h
          · exact h
          · omega
        go_wp2_with (first
          | (go_at_call 36; refine (next_at s p r n _ _ hlt hs HX.out).mono ?_; rintro e w1 ⟨rfl, rfl⟩)
          | (go_at_call 37; refine (rletter_any r _ hr).mono ?_; rintro e w3 ⟨rfl, rfl⟩))
        go_ret
        exact ⟨by rw [hI3.out, HO.out]; rfl, rfl⟩
      | true =>
        rcases okT_cases k r with ⟨hl, ho⟩ | ⟨hl, h0, ho⟩ | ⟨hl, h0, h1, ho⟩ | ⟨hl, h0, h1, h2, ho⟩ | ⟨hl, h0, h1, h2, h3, ho⟩ | ⟨hl, h0, h1, h2, h3, ho⟩
        · have HO := Lib.hid ho
          clear ho
          go_wp2_with (first
            | (go_at_call 36; refine (next_at s p r n _ _ hlt hs HX.out).mono ?_; rintro e w1 ⟨rfl, rfl⟩)
            | (go_at_call 37; refine (rletter_any r _ hr).mono ?_; rintro e w3 ⟨rfl, rfl⟩; rw [hl]))
          go_round
          case rel => exact ⟨p + n, k + 1, by omega, by omega, by first | rfl | go_num, by first | rfl | go_num, hI3.out.trans (by rw [HO.out]; simp)⟩
          case measure => simp [intOf]; omega
        · subst h0
          have HO := Lib.hid ho
          clear ho
          go_wp2_with (first
            | (go_at_call 36; refine (next_at s p r n _ _ hlt hs HX.out).mono ?_; rintro e w1 ⟨rfl, rfl⟩)
            | (go_at_call 37; refine (rletter_any r _ hr).mono ?_; rintro e w3 ⟨rfl, rfl⟩; rw [hl]))
          go_ret
          exact ⟨by rw [hI3.out, HO.out]; rfl, rfl⟩
        · have HO := Lib.hid ho
          clear ho
          have t0 : decide (0 < k) = true := decide_eq_true h0
          have t1 : ((r : Int) == 45) = true := by simp [h1]
          clear h0 h1
          go_wp2_with (first
            | (go_at_call 36; refine (next_at s p r n _ _ hlt hs HX.out).mono ?_; rintro e w1 ⟨rfl, rfl⟩)
            | (go_at_call 37; refine (rletter_any r _ hr).mono ?_; rintro e w3 ⟨rfl, rfl⟩; rw [hl]))
          go_round
          case rel => exact ⟨p + n, k + 1, by omega, by omega, by first | rfl | go_num, by first | rfl | go_num, hI3.out.trans (by rw [HO.out]; simp)⟩
          case measure => simp [intOf]; omega
        · have HO := Lib.hid ho
          clear ho
          have t0 : decide (0 < k) = true := decide_eq_true h0
          have t1 : ((r : Int) == 45) = false := by rw [beq_eq_false_iff_ne]; omega
          have t2 : decide ((48 : Int) ≤ (r : Int)) = false := decide_eq_false (by omega)
          clear h0 h1 h2
          go_wp2_with (first
            | (go_at_call 36; refine (next_at s p r n _ _ hlt hs HX.out).mono ?_; rintro e w1 ⟨rfl, rfl⟩)
            | (go_at_call 37; refine (rletter_any r _ hr).mono ?_; rintro e w3 ⟨rfl, rfl⟩; rw [hl]))
          go_ret
          exact ⟨by rw [hI3.out, HO.out]; rfl, rfl⟩
        · have HO := Lib.hid ho
          clear ho
          have t0 : decide (0 < k) = true := decide_eq_true h0
          have t1 : ((r : Int) == 45) = false := by rw [beq_eq_false_iff_ne]; omega
          have t2 : decide ((48 : Int) ≤ (r : Int)) = true := decide_eq_true (by omega)
          have t3 : decide ((r : Int) ≤ 57) = false := decide_eq_false (by omega)
          clear h0 h1 h2 h3
          go_wp2_with (first
            | (go_at_call 36; refine (next_at s p r n _ _ hlt hs HX.out).mono ?_; rintro e w1 ⟨rfl, rfl⟩)
            | (go_at_call 37; refine (rletter_any r _ hr).mono ?_; rintro e w3 ⟨rfl, rfl⟩; rw [hl]))
          go_ret
          exact ⟨by rw [hI3.out, HO.out]; rfl, rfl⟩
        · have HO := Lib.hid ho
          clear ho
          have t0 : decide (0 < k) = true := decide_eq_true h0
          have t1 : ((r : Int) == 45) = false := by rw [beq_eq_false_iff_ne]; omega
          have t2 : decide ((48 : Int) ≤ (r : Int)) = true := decide_eq_true (by omega)
          have t3 : decide ((r : Int) ≤ 57) = true := decide_eq_true (by omega)
          clear h0 h1 h2 h3
          go_wp2_with (first
            | (go_at_call 36; refine (next_at s p r n _ _ hlt hs HX.out).mono ?_; rintro e w1 ⟨rfl, rfl⟩)
            | (go_at_call 37; refine (rletter_any r _ hr).mono ?_; rintro e w3 ⟨rfl, rfl⟩; rw [hl]))
          go_round
          case rel => exact ⟨p + n, k + 1, by omega, by omega, by first | rfl | go_num, by first | rfl | go_num, hI3.out.trans (by rw [HO.out]; simp)⟩
          case measure => simp [intOf]; omega
    · have HE : Hid (NM.isT k (tk s p) = decide (1 ≤ k ∧ k ≤ 8)) := by show _ = _; rw [tk_end s p (by omega)]; rfl
      have HI := Lib.hid hI
      clear hI
      by_cases h0 : k = 0
      · subst h0
        go_wp2
        go_ret
        exact ⟨by rw [HI.out, HE.out]; rfl, rfl⟩
      · have p0 : 1 ≤ k := by omega
        clear h0
        go_wp2
        go_ret
        exact ⟨by rw [HI.out, HE.out]; exact ret_bool (by rw [decide_eq_decide]; omega), rfl⟩
end Go.Proofs.YtbgbpibfmdkndaaDoor
