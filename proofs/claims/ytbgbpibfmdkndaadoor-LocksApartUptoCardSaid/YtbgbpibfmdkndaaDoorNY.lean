/- Compare: the document's. -/
import Derived.Test.YtbgbpibfmdkndaaDoorNW
set_option linter.unusedVariables false
set_option linter.unusedSimpArgs false
namespace Go.Proofs.YtbgbpibfmdkndaaDoor
open Go.RowKit Go.ChangeShapes Go.WideShapes Go.ChangeAt
theorem tk_len (s : ByteArray) : (tk s 0).length ≤ s.size := by
  have : ∀ n p, s.size - p ≤ n → (tk s p).length ≤ s.size - p := by
    intro n
    induction n with
    | zero => intro p h; rw [tk_end s p (by omega)]; simp
    | succ n ih =>
      intro p h
      by_cases hl : p < s.size
      · rw [tk_step s p hl, List.length_cons]
        have h1 := decode_n s p hl
        have := ih (p + (Utf8.decode s p).2) (by omega)
        omega
      · rw [tk_end s p (by omega)]; simp
  exact this s.size 0 (by omega)
theorem cmp_step (T U : List NM.Tok) (k : Nat) (h1 : k < T.length) (h2 : k < U.length) : NM.cmpT (T.drop k) (U.drop k) = if (T[k]).1 < (U[k]).1 then -1 else if (U[k]).1 < (T[k]).1 then 1 else NM.cmpT (T.drop (k + 1)) (U.drop (k + 1)) := by
  rw [← List.getElem_cons_drop (h := h1), ← List.getElem_cons_drop (h := h2), NM.cmpT]
theorem cmp_end1 (T U : List NM.Tok) (k : Nat) (h1 : T.length = k) (h2 : k < U.length) : NM.cmpT (T.drop k) (U.drop k) = -1 := by
  rw [List.drop_of_length_le (by omega), ← List.getElem_cons_drop (h := h2)]; rfl
theorem cmp_end2 (T U : List NM.Tok) (k : Nat) (h1 : k < T.length) (h2 : U.length = k) : NM.cmpT (T.drop k) (U.drop k) = 1 := by
  rw [List.drop_of_length_le (l := U) (by omega), ← List.getElem_cons_drop (h := h1)]; rfl
theorem cmp_end3 (T U : List NM.Tok) (k : Nat) (h1 : T.length = k) (h2 : U.length = k) : NM.cmpT (T.drop k) (U.drop k) = 0 := by
  rw [List.drop_of_length_le (by omega), List.drop_of_length_le (by omega)]; rfl
set_option maxRecDepth 100000 in
set_option maxHeartbeats 1600000 in
theorem rcompare_any (a b : ByteArray) (w : World) (ha : a.size ≤ 4194304) (hb : b.size ≤ 4194304) :
    Calls Tryd.prog 30 #[.string a, .string b] w fun e w' => e = .returned (.int .i64 (NM.cmpT (tk a 0) (tk b 0))) ∧ Below w.heap.size w w' := by
  have hla := tk_len a
  have hlb := tk_len b
  go_enter Tryd.func30, Tryd.ntmps30
  go_wp2_with fail
  refine (runes_any a w _ _ (Sat.start w) ha).mono ?_
  rintro e w1 ⟨A, c, rfl, hU⟩
  go_wp2_with fail
  refine (runes_any b w _ _ hU hb).mono ?_
  rintro e w2 ⟨A2, c2, rfl, hU2⟩
  obtain ⟨T, hT⟩ : ∃ T, tk a 0 = T := ⟨_, rfl⟩
  obtain ⟨U, hUU⟩ : ∃ U, tk b 0 = U := ⟨_, rfl⟩
  rw [hT] at hU2 hla ⊢
  rw [hUU] at hU2 hlb ⊢
  have HT := Lib.hid hT
  have HU := Lib.hid hUU
  clear hT hUU hU
  go_wp2_with fail
  go_loopw [7] (fun i wr => ∃ k : Nat, k ≤ T.length ∧ k ≤ U.length ∧ i = .int .i64 k ∧ Hid (NM.cmpT T U = NM.cmpT (T.drop k) (U.drop k)) ∧ ∃ m, wr = w2.drewN m) (fun i _ => T.length - (intOf i).toNat)
  case atStart => exact ⟨0, Nat.zero_le _, Nat.zero_le _, rfl, rfl, 0, rfl⟩
  case round =>
    obtain ⟨k, hk1, hk2, rfl, HI, m, rfl⟩ := hrel
    by_cases hlt : k < T.length
    · by_cases hlt2 : k < U.length
      · obtain ⟨g, rfl, hc, _⟩ := hU2.r2.rowCell (by intro e; have := congrArg List.length e; rw [rv_len, List.length_nil] at this; omega)
        obtain ⟨g2, rfl, hc2, _⟩ := hU2.rowCell (by intro e; have := congrArg List.length e; rw [rv_len, List.length_nil] at this; omega)
        have d1 := hc k (by rw [rv_len]; exact hlt)
        have d2 := hc2 k (by rw [rv_len]; exact hlt2)
        rw [rv_get T k hlt] at d1
        rw [rv_get U k hlt2] at d2
        have HS := Lib.hid (cmp_step T U k hlt hlt2)
        obtain ⟨x, hx⟩ : ∃ x, (T[k]).1 = x := ⟨_, rfl⟩
        obtain ⟨y, hy⟩ : ∃ x, (U[k]).1 = x := ⟨_, rfl⟩
        rw [hx] at d1
        rw [hy] at d2
        have HC : Hid (NM.cmpT T U = if x < y then -1 else if y < x then 1 else NM.cmpT (T.drop (k + 1)) (U.drop (k + 1))) := by show _ = _; rw [HI.out, HS.out, hx, hy]
        clear hc hc2 hx hy HS
        by_cases h1 : x < y
        · have HC2 : Hid (NM.cmpT T U = -1) := by show _ = _; rw [HC.out, if_pos h1]
          have t1 : decide (x < y) = true := decide_eq_true h1
          go_wp2_with fail
          go_quiet (fail)
          go_wp2_with fail
          go_ret
          exact ⟨by rw [HT.out, HU.out, HC2.out]; rfl, ((hU2.drewN _).drewN _).old (by simp)⟩
        · have t1 : decide (x < y) = false := decide_eq_false h1
          by_cases h2 : y < x
          · have HC2 : Hid (NM.cmpT T U = 1) := by show _ = _; rw [HC.out, if_neg h1, if_pos h2]
            have t2 : decide (y < x) = true := decide_eq_true h2
            go_wp2_with fail
            go_quiet (fail)
            go_wp2_with fail
            go_quiet (fail)
            go_wp2_with fail
            go_ret
            exact ⟨by rw [HT.out, HU.out, HC2.out]; rfl, (((hU2.drewN _).drewN _).drewN _).old (by simp)⟩
          · have HC2 : Hid (NM.cmpT T U = NM.cmpT (T.drop (k + 1)) (U.drop (k + 1))) := by show _ = _; rw [HC.out, if_neg h1, if_neg h2]
            have t2 : decide (y < x) = false := decide_eq_false h2
            go_wp2_with fail
            go_quiet (fail)
            go_wp2_with fail
            go_quiet (fail)
            go_wp2_with fail
            go_roundw
            case rel => exact ⟨k + 1, by omega, by omega, by go_num, HC2, _, rfl⟩
            case measure => simp [intOf]; omega
      · have HC : Hid (NM.cmpT T U = 1) := by show _ = _; rw [HI.out, cmp_end2 T U k hlt (by omega)]
        have q1 : ¬ T.length < U.length := by omega
        have q2 : U.length < T.length := by omega
        go_wp2_with fail
        go_ret
        exact ⟨by rw [HT.out, HU.out, HC.out]; rfl, (hU2.drewN _).old (by simp)⟩
    · by_cases hlt2 : k < U.length
      · have HC : Hid (NM.cmpT T U = -1) := by show _ = _; rw [HI.out, cmp_end1 T U k (by omega) hlt2]
        have q1 : T.length < U.length := by omega
        go_wp2_with fail
        go_ret
        exact ⟨by rw [HT.out, HU.out, HC.out]; rfl, (hU2.drewN _).old (by simp)⟩
      · have HC : Hid (NM.cmpT T U = 0) := by show _ = _; rw [HI.out, cmp_end3 T U k (by omega) (by omega)]
        have q1 : ¬ T.length < U.length := by omega
        have q2 : ¬ U.length < T.length := by omega
        go_wp2_with fail
        go_ret
        exact ⟨by rw [HT.out, HU.out, HC.out]; rfl, (hU2.drewN _).old (by simp)⟩
end Go.Proofs.YtbgbpibfmdkndaaDoor
