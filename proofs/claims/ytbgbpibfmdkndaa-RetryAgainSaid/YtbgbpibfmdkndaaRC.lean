/- The document's May; Delay (both); tick (both); the closures; pick, same, has, filled. -/
import Derived.Test.YtbgbpibfmdkndaaRB
set_option linter.unusedVariables false
set_option linter.unusedSimpArgs false
set_option linter.unnecessarySimpa false
set_option maxRecDepth 100000
namespace Go.Proofs.Ytbgbpibfmdkndaa
open Go.RowKit Go.ChangeShapes Go.WideShapes Go.ChangeAt
def wf64 (n : Int) : Prop := -9223372036854775808 ≤ n ∧ n ≤ 9223372036854775807
theorem wf64_of {n : Int} (h : (Lit.int .i64 n).wf = true) : wf64 n := by
  have hh := i64_of h
  unfold wf64
  exact ⟨hh.1, hh.2⟩
section
variable {w : World} {A : Option Addr} {c : Nat} {t : List Int}
def RmRel (w : World) (t : List Int) (i : Value) (wr : World) : Prop := ∃ k : Nat, k ≤ t.length ∧ i = .int .i64 k ∧ (∃ q, wr = w.drewN q) ∧ ∀ j, j < k → okAt t j
set_option maxHeartbeats 1600000 in
theorem rmay_any (hT : NsAt w A t) : Calls Try.prog 31 #[.slice A t.length c] w fun e w' => e = .returned (.bool (mayB t)) ∧ ∃ q, w' = w.drewN q := by
  by_cases hl : 1 ≤ t.length ∧ t.length ≤ 8
  · obtain ⟨h1, h8⟩ := hl
    have HYES : Hid ((∀ j, j < t.length → okAt t j) → mayB t = true) := fun h => may_yes h1 h8 h
    have HNO := Lib.hid (fun (j : Nat) (hj : j < t.length) (h : ¬ okAt t j) => may_no hj h)
    obtain ⟨b, o, rfl, hc⟩ := hT.resolve_left (by rintro rfl; simp at h1)
    have HC := Lib.hid hc
    obtain ⟨R, hR⟩ : ∃ R, mayB t = R := ⟨_, rfl⟩
    rw [hR] at HYES HNO ⊢
    obtain ⟨n, hn⟩ : ∃ n, t.length = n := ⟨_, rfl⟩
    have HN := Lib.hid hn
    rw [hn] at h1 h8 ⊢
    have g1 : ¬ (n : Int) < 1 := by omega
    have g8 : ¬ (8 : Int) < (n : Int) := by omega
    clear hc hT hR hn
    go_enter Try.func31, Try.ntmps31
    go_wp2_with fail
    go_loopw [3] (RmRel w t) (fun i _ => n - (intOf i).toNat)
    case atStart => exact ⟨0, Nat.zero_le _, rfl, ⟨0, rfl⟩, fun j hj => absurd hj (Nat.not_lt_zero _)⟩
    case round =>
      obtain ⟨k, hk, rfl, hq, hok⟩ := hrel
      have HQ := Lib.hid hq
      have HCW : Hid (∀ j, j < t.length → wr.cell? ⟨b, o + j, none⟩ = some (.int .i64 (t.getD j 0))) := by
        obtain ⟨q, rfl⟩ := hq
        exact HC.out
      have HQ2 : Hid (∀ nq, ∃ q, wr.drewN nq = w.drewN q) := fun nq => by
        obtain ⟨q, e⟩ := HQ.out
        exact ⟨q + nq, by rw [e]; exact World.drewN_drewN w q nq⟩
      clear hq
      have HOK := Lib.hid hok
      rw [HN.out] at hk
      clear hok
      by_cases hlt : k < n
      · have c1 := HCW.out k (by rw [HN.out]; exact hlt)
        have hoks : ∀ (P : okAt t k), ∀ j, j < k + 1 → okAt t j := fun P j hj => by
          by_cases hjk : j < k
          · exact HOK.out j hjk
          · obtain rfl : j = k := by omega
            exact P
        have HOKS := Lib.hid hoks
        have HBAD : Hid (¬ okAt t k → R = false) := HNO.out k (by rw [HN.out]; exact hlt)
        obtain ⟨x, hx⟩ : ∃ x, t.getD k 0 = x := ⟨_, rfl⟩
        rw [hx] at c1
        have HX := Lib.hid hx
        have gk0 : (0 : Int) ≤ (k : Int) := by omega
        have gk1 : (k : Int) < (n : Int) := by omega
        clear hoks hx
        by_cases hx1 : x < 1
        · have HF : Hid (R = false) := HBAD.out fun h => by have := h.1; rw [HX.out] at this; omega
          have t1 : decide (x < 1) = true := decide_eq_true hx1
          go_wp2_with fail
          go_quiet (fail)
          go_wp2_with fail
          go_ret
          exact ⟨by rw [HF.out]; rfl, HQ2.out nq⟩
        · have t1 : decide (x < 1) = false := decide_eq_false hx1
          by_cases hx2 : 1000 < x
          · have HF : Hid (R = false) := HBAD.out fun h => by have := h.2.1; rw [HX.out] at this; omega
            have t2 : decide (1000 < x) = true := decide_eq_true hx2
            go_wp2_with fail
            go_quiet (fail)
            go_wp2_with fail
            go_ret
            exact ⟨by rw [HF.out]; rfl, HQ2.out nq⟩
          · have t2 : decide (1000 < x) = false := decide_eq_false hx2
            cases k with
            | zero =>
              have HG := Lib.hid (HOKS.out ⟨by rw [HX.out]; omega, by rw [HX.out]; omega, fun h => absurd h (by omega)⟩)
              have t3 : decide ((0 : Int) < 0) = false := by decide
              have c1' : wr.cell? ⟨b, o, none⟩ = some (.int .i64 x) := c1
              have gn : (0 : Int) < (n : Int) := by omega
              rw [show ((0 : Nat) : Int) = 0 from rfl]
              clear c1 gk0 gk1
              go_wp2_with fail
              go_quiet (fail)
              go_wp2_with fail
              go_roundw
              case rel => exact ⟨1, by rw [HN.out]; omega, by first | rfl | go_num, HQ2.out nq, HG.out⟩
              case measure => simp [intOf] <;> omega
            | succ p =>
              have c2 := HCW.out p (by rw [HN.out]; omega)
              obtain ⟨y, hy⟩ : ∃ x, t.getD p 0 = x := ⟨_, rfl⟩
              rw [hy] at c2
              have HY := Lib.hid hy
              have t3 : decide ((0 : Int) < (p : Int) + 1) = true := decide_eq_true (by omega)
              have g8' : IntKind.i64.wrap (p : Int) = (p : Int) := IntWalk.i64_in _ (by omega)
              have g5 : IntKind.i64.wrap ((p : Int) + 1 - 1) = (p : Int) := by rw [IntWalk.i64_in _ (by omega)]; omega
              have gp0 : (0 : Int) ≤ (p : Int) := by omega
              have gp1 : (p : Int) < (n : Int) := by omega
              have gp2 : (p : Int) + 1 < (n : Int) := by omega
              clear hy
              by_cases hxy : x < y
              · have HF : Hid (R = false) := HBAD.out fun h => by
                  have := h.2.2 (by omega)
                  rw [show p + 1 - 1 = p by omega, HX.out, HY.out] at this
                  omega
                have t4 : decide (x < y) = true := decide_eq_true hxy
                go_wp2_with fail
                go_quiet (fail)
                go_wp2_with fail
                go_ret
                exact ⟨by rw [HF.out]; rfl, HQ2.out nq⟩
              · have HG := Lib.hid (HOKS.out ⟨by rw [HX.out]; omega, by rw [HX.out]; omega, fun h => by rw [show p + 1 - 1 = p by omega, HX.out, HY.out]; omega⟩)
                have t4 : decide (x < y) = false := decide_eq_false hxy
                go_wp2_with fail
                go_quiet (fail)
                go_wp2_with fail
                go_roundw
                case rel => exact ⟨p + 1 + 1, by rw [HN.out]; omega, by first | rfl | go_num, HQ2.out nq, HG.out⟩
                case measure => simp [intOf] <;> omega
      · obtain rfl : k = n := by omega
        have HT : Hid (R = true) := (HYES.out fun j hj => HOK.out j (by rw [← HN.out]; exact hj)).symm ▸ rfl
        clear hlt
        go_wp2_with fail
        go_ret
        exact ⟨by rw [HT.out]; rfl, HQ.out⟩
  · rw [may_no_len hl]
    obtain ⟨n, hn⟩ : ∃ n, t.length = n := ⟨_, rfl⟩
    rw [hn] at hl ⊢
    clear hn hT
    by_cases h1 : 1 ≤ n
    · have h8 : ¬ n ≤ 8 := fun h => hl ⟨h1, h⟩
      have g1 : ¬ (n : Int) < 1 := by omega
      have g8 : (8 : Int) < (n : Int) := by omega
      clear hl
      go_enter Try.func31, Try.ntmps31
      go_wp2_with fail
      go_ret
      exact ⟨rfl, 0, rfl⟩
    · obtain rfl : n = 0 := by omega
      clear hl h1
      go_enter Try.func31, Try.ntmps31
      go_wp2_with fail
      go_ret
      exact ⟨rfl, 0, rfl⟩
/-- how long to wait -/
def delayV (t : List Int) (tries : Int) : Int := t.getD (min tries.toNat (t.length - 1)) 0
def delE (t : List Int) (tries : Int) : Int × Int := if mayB t then (if tries < 0 then (0, 1) else (delayV t tries, 0)) else (0, 200)
theorem may_len {t : List Int} (h : mayB t = true) : 1 ≤ t.length ∧ t.length ≤ 8 ∧ ∀ j, j < t.length → okAt t j := of_decide_eq_true h
theorem delay_in {t : List Int} (h : mayB t = true) (k : Int) : 1 ≤ delayV t k ∧ delayV t k ≤ 1000 := by
  obtain ⟨h1, _, h3⟩ := may_len h
  have := h3 (min k.toNat (t.length - 1)) (by omega)
  exact ⟨this.1, this.2.1⟩
set_option maxHeartbeats 1600000 in
theorem delay_any {tries : Int} (hw : wf64 tries) (hT : NsAt w A t) : Calls Try.prog 11 #[.slice A t.length c, .int .i64 tries] w fun e w' => e = .returned (.tuple #[.int .i64 (delE t tries).1, .int .i64 (delE t tries).2]) ∧ ∃ q, w' = w.drewN q := by
  have HC := Lib.hid (may_any (c := c) hT)
  unfold wf64 at hw
  by_cases hm : mayB t = true
  · rw [hm] at HC
    by_cases ht : tries < 0
    · have HE : Hid (delE t tries = (0, 1)) := by show _ = _; unfold delE; rw [hm, if_pos rfl, if_pos ht]
      rw [HE.out]
      clear hm hT
      go_enter Try.func11, Try.ntmps11
      go_wp2_with fail
      refine HC.out.mono ?_
      rintro e w1 ⟨rfl, q, rfl⟩
      go_wp2_with fail
      go_ret2
      exact ⟨rfl, q, rfl⟩
    · have HE : Hid (delE t tries = (delayV t tries, 0)) := by show _ = _; unfold delE; rw [hm, if_pos rfl, if_neg ht]
      rw [HE.out]
      obtain ⟨h1, h8, _⟩ := may_len hm
      obtain ⟨b, o, rfl, hcell⟩ := hT.resolve_left (by rintro rfl; simp at h1)
      obtain ⟨m, hmm⟩ : ∃ m, t.length = m + 1 := ⟨t.length - 1, by omega⟩
      obtain ⟨k, rfl⟩ : ∃ k : Nat, tries = (k : Int) := ⟨tries.toNat, by omega⟩
      have HV : Hid (∀ j, min k m = j → delayV t k = t.getD j 0) := fun j hj => by unfold delayV; rw [Int.toNat_natCast, hmm, Nat.add_sub_cancel, hj]
      have HCL := Lib.hid hcell
      have HMM := Lib.hid hmm
      rw [hmm] at h8 HC ⊢
      have hm8 : m ≤ 7 := by omega
      clear hcell hmm hm hT h1 h8 ht HE
      rcases Nat.lt_trichotomy k m with h | h | h
      · have c1 := HCL.out k (by rw [HMM.out]; omega)
        rw [HV.out k (by omega)]
        obtain ⟨x, hx⟩ : ∃ x, t.getD k 0 = x := ⟨_, rfl⟩
        rw [hx] at c1 ⊢
        have D1 : Hid (∀ q, (w.drewN q).cell? ⟨b, o + k, none⟩ = some (.int .i64 x)) := fun q => c1
        have g1 : (k : Int) < (m : Int) := by omega
        have g2 : (k : Int) < (m : Int) + 1 := by omega
        clear hx c1
        go_enter Try.func11, Try.ntmps11
        go_wp2_with fail
        refine HC.out.mono ?_
        rintro e w1 ⟨rfl, q, rfl⟩
        have d1 := D1.out q
        go_wp2_with fail
        go_ret2
        exact ⟨rfl, q, rfl⟩
      · subst h
        have c1 := HCL.out k (by rw [HMM.out]; omega)
        rw [HV.out k (by omega)]
        obtain ⟨x, hx⟩ : ∃ x, t.getD k 0 = x := ⟨_, rfl⟩
        rw [hx] at c1 ⊢
        have D1 : Hid (∀ q, (w.drewN q).cell? ⟨b, o + k, none⟩ = some (.int .i64 x)) := fun q => c1
        clear hx c1
        go_enter Try.func11, Try.ntmps11
        go_wp2_with fail
        refine HC.out.mono ?_
        rintro e w1 ⟨rfl, q, rfl⟩
        have d1 := D1.out q
        go_wp2_with fail
        go_ret2
        exact ⟨rfl, q, rfl⟩
      · have c1 := HCL.out m (by rw [HMM.out]; omega)
        rw [HV.out m (by omega)]
        obtain ⟨x, hx⟩ : ∃ x, t.getD m 0 = x := ⟨_, rfl⟩
        rw [hx] at c1 ⊢
        have D1 : Hid (∀ q, (w.drewN q).cell? ⟨b, o + m, none⟩ = some (.int .i64 x)) := fun q => c1
        have g1 : (m : Int) < (k : Int) := by omega
        have g2 : ¬ (k : Int) < (m : Int) := by omega
        clear hx c1
        go_enter Try.func11, Try.ntmps11
        go_wp2_with fail
        refine HC.out.mono ?_
        rintro e w1 ⟨rfl, q, rfl⟩
        have d1 := D1.out q
        go_wp2_with fail
        go_ret2
        exact ⟨rfl, q, rfl⟩
  · have hm' : mayB t = false := by simpa using hm
    have HE : Hid (delE t tries = (0, 200)) := by show _ = _; unfold delE; rw [hm']; rfl
    rw [HE.out]
    rw [hm'] at HC
    clear hm hm' hT
    go_enter Try.func11, Try.ntmps11
    go_wp2_with fail
    refine HC.out.mono ?_
    rintro e w1 ⟨rfl, q, rfl⟩
    go_wp2_with fail
    go_ret2
    exact ⟨rfl, q, rfl⟩
set_option maxHeartbeats 1600000 in
theorem rdelay_any {tries : Int} (hw : wf64 tries) (hT : NsAt w A t) : Calls Try.prog 12 #[.slice A t.length c, .int .i64 tries] w fun e w' => e = .returned (.tuple #[.int .i64 (delE t tries).1, .int .i64 (delE t tries).2]) ∧ ∃ q, w' = w.drewN q := by
  have HC := Lib.hid (rmay_any (c := c) hT)
  unfold wf64 at hw
  by_cases hm : mayB t = true
  · rw [hm] at HC
    by_cases ht : tries < 0
    · have HE : Hid (delE t tries = (0, 1)) := by show _ = _; unfold delE; rw [hm, if_pos rfl, if_pos ht]
      rw [HE.out]
      clear hm hT
      go_enter Try.func12, Try.ntmps12
      go_wp2_with fail
      refine HC.out.mono ?_
      rintro e w1 ⟨rfl, q, rfl⟩
      go_wp2_with fail
      go_ret2
      exact ⟨rfl, q, rfl⟩
    · have HE : Hid (delE t tries = (delayV t tries, 0)) := by show _ = _; unfold delE; rw [hm, if_pos rfl, if_neg ht]
      rw [HE.out]
      obtain ⟨h1, h8, _⟩ := may_len hm
      obtain ⟨b, o, rfl, hcell⟩ := hT.resolve_left (by rintro rfl; simp at h1)
      obtain ⟨m, hmm⟩ : ∃ m, t.length = m + 1 := ⟨t.length - 1, by omega⟩
      obtain ⟨k, rfl⟩ : ∃ k : Nat, tries = (k : Int) := ⟨tries.toNat, by omega⟩
      have HV : Hid (∀ j, min k m = j → delayV t k = t.getD j 0) := fun j hj => by unfold delayV; rw [Int.toNat_natCast, hmm, Nat.add_sub_cancel, hj]
      have HCL := Lib.hid hcell
      have HMM := Lib.hid hmm
      rw [hmm] at h8 HC ⊢
      have hm8 : m ≤ 7 := by omega
      clear hcell hmm hm hT h1 h8 ht HE
      rcases Nat.lt_trichotomy k m with h | h | h
      · have c1 := HCL.out k (by rw [HMM.out]; omega)
        rw [HV.out k (by omega)]
        obtain ⟨x, hx⟩ : ∃ x, t.getD k 0 = x := ⟨_, rfl⟩
        rw [hx] at c1 ⊢
        have D1 : Hid (∀ q, (w.drewN q).cell? ⟨b, o + k, none⟩ = some (.int .i64 x)) := fun q => c1
        have g1 : (k : Int) < (m : Int) := by omega
        have g2 : (k : Int) < (m : Int) + 1 := by omega
        clear hx c1
        go_enter Try.func12, Try.ntmps12
        go_wp2_with fail
        refine HC.out.mono ?_
        rintro e w1 ⟨rfl, q, rfl⟩
        have d1 := D1.out q
        go_wp2_with fail
        go_ret2
        exact ⟨rfl, q, rfl⟩
      · subst h
        have c1 := HCL.out k (by rw [HMM.out]; omega)
        rw [HV.out k (by omega)]
        obtain ⟨x, hx⟩ : ∃ x, t.getD k 0 = x := ⟨_, rfl⟩
        rw [hx] at c1 ⊢
        have D1 : Hid (∀ q, (w.drewN q).cell? ⟨b, o + k, none⟩ = some (.int .i64 x)) := fun q => c1
        clear hx c1
        go_enter Try.func12, Try.ntmps12
        go_wp2_with fail
        refine HC.out.mono ?_
        rintro e w1 ⟨rfl, q, rfl⟩
        have d1 := D1.out q
        go_wp2_with fail
        go_ret2
        exact ⟨rfl, q, rfl⟩
      · have c1 := HCL.out m (by rw [HMM.out]; omega)
        rw [HV.out m (by omega)]
        obtain ⟨x, hx⟩ : ∃ x, t.getD m 0 = x := ⟨_, rfl⟩
        rw [hx] at c1 ⊢
        have D1 : Hid (∀ q, (w.drewN q).cell? ⟨b, o + m, none⟩ = some (.int .i64 x)) := fun q => c1
        have g1 : (m : Int) < (k : Int) := by omega
        have g2 : ¬ (k : Int) < (m : Int) := by omega
        clear hx c1
        go_enter Try.func12, Try.ntmps12
        go_wp2_with fail
        refine HC.out.mono ?_
        rintro e w1 ⟨rfl, q, rfl⟩
        have d1 := D1.out q
        go_wp2_with fail
        go_ret2
        exact ⟨rfl, q, rfl⟩
  · have hm' : mayB t = false := by simpa using hm
    have HE : Hid (delE t tries = (0, 200)) := by show _ = _; unfold delE; rw [hm']; rfl
    rw [HE.out]
    rw [hm'] at HC
    clear hm hm' hT
    go_enter Try.func12, Try.ntmps12
    go_wp2_with fail
    refine HC.out.mono ?_
    rintro e w1 ⟨rfl, q, rfl⟩
    go_wp2_with fail
    go_ret2
    exact ⟨rfl, q, rfl⟩
def tickB (now : Int) : Bool := decide (0 ≤ now ∧ now ≤ 1073741824)
theorem tick_any {now : Int} : Calls Try.prog 32 #[.int .i64 now] w fun e w' => e = .returned (.bool (tickB now)) ∧ w' = w := by
  by_cases h0 : 0 ≤ now
  · by_cases h1 : now ≤ 1073741824
    · have HT : Hid (tickB now = true) := decide_eq_true ⟨h0, h1⟩
      go_enter Try.func32, Try.ntmps32
      go_wp2_with fail
      go_ret
      exact ⟨by rw [HT.out]; simp_all, rfl⟩
    · have HT : Hid (tickB now = false) := decide_eq_false fun h => h1 h.2
      go_enter Try.func32, Try.ntmps32
      go_wp2_with fail
      go_ret
      exact ⟨by rw [HT.out]; simp_all, rfl⟩
  · have HT : Hid (tickB now = false) := decide_eq_false fun h => h0 h.1
    go_enter Try.func32, Try.ntmps32
    go_wp2_with fail
    go_ret
    exact ⟨by rw [HT.out]; simp_all, rfl⟩
theorem rtick_any {now : Int} : Calls Try.prog 38 #[.int .i64 now] w fun e w' => e = .returned (.bool (tickB now)) ∧ w' = w := by
  by_cases h0 : 0 ≤ now
  · by_cases h1 : now ≤ 1073741824
    · have HT : Hid (tickB now = true) := decide_eq_true ⟨h0, h1⟩
      go_enter Try.func38, Try.ntmps38
      go_wp2_with fail
      go_ret
      exact ⟨by rw [HT.out]; simp_all, rfl⟩
    · have HT : Hid (tickB now = false) := decide_eq_false fun h => h1 h.2
      go_enter Try.func38, Try.ntmps38
      go_wp2_with fail
      go_ret
      exact ⟨by rw [HT.out]; simp_all, rfl⟩
  · have HT : Hid (tickB now = false) := decide_eq_false fun h => h0 h.1
    go_enter Try.func38, Try.ntmps38
    go_wp2_with fail
    go_ret
    exact ⟨by rw [HT.out]; simp_all, rfl⟩
/-- the closure that tells the delay -/
theorem clDelay_any {tb : Nat} {tries : Int} (h0 : 0 ≤ tries) (hm : mayB t = true) (hT : NsAt w A t) (hc : w.cell? ⟨tb, 0, none⟩ = some (.slice A t.length c)) :
    Calls Try.prog 28 #[.int .i64 tries, .pointer (some ⟨tb, 0, none⟩)] w fun e w' => e = .returned (.int .i64 (delayV t tries)) ∧ w' = w := by
  obtain ⟨h1, h8, _⟩ := may_len hm
  obtain ⟨b, o, rfl, hcell⟩ := hT.resolve_left (by rintro rfl; simp at h1)
  obtain ⟨m, hmm⟩ : ∃ m, t.length = m + 1 := ⟨t.length - 1, by omega⟩
  obtain ⟨k, rfl⟩ : ∃ k : Nat, tries = (k : Int) := ⟨tries.toNat, by omega⟩
  have HV : Hid (∀ j, min k m = j → delayV t k = t.getD j 0) := fun j hj => by unfold delayV; rw [Int.toNat_natCast, hmm, Nat.add_sub_cancel, hj]
  have HC := Lib.hid hcell
  have HMM := Lib.hid hmm
  rw [hmm] at hc h8
  have hm8 : m ≤ 7 := by omega
  clear hcell hmm hm hT h1 h8 h0
  rcases Nat.lt_trichotomy k m with h | h | h
  · have c1 := HC.out k (by rw [HMM.out]; omega)
    rw [HV.out k (by omega)]
    obtain ⟨x, hx⟩ : ∃ x, t.getD k 0 = x := ⟨_, rfl⟩
    rw [hx] at c1 ⊢
    have g1 : (k : Int) < (m : Int) := by omega
    have g2 : (k : Int) < (m : Int) + 1 := by omega
    clear hx
    go_enter Try.func28, Try.ntmps28
    go_wp2_with fail
    go_ret
    exact ⟨rfl, rfl⟩
  · subst h
    have c1 := HC.out k (by rw [HMM.out]; omega)
    rw [HV.out k (by omega)]
    obtain ⟨x, hx⟩ : ∃ x, t.getD k 0 = x := ⟨_, rfl⟩
    rw [hx] at c1 ⊢
    clear hx
    go_enter Try.func28, Try.ntmps28
    go_wp2_with fail
    go_ret
    exact ⟨rfl, rfl⟩
  · have c1 := HC.out m (by rw [HMM.out]; omega)
    rw [HV.out m (by omega)]
    obtain ⟨x, hx⟩ : ∃ x, t.getD m 0 = x := ⟨_, rfl⟩
    rw [hx] at c1 ⊢
    have g1 : (m : Int) < (k : Int) := by omega
    have g2 : ¬ (k : Int) < (m : Int) := by omega
    clear hx
    go_enter Try.func28, Try.ntmps28
    go_wp2_with fail
    go_ret
    exact ⟨rfl, rfl⟩
/-- a time no later than the last one -/
def laterV (now d : Int) : Int := if now + d ≤ 1073741824 then now + d else 1073741824
theorem later_any {now d : Int} (h1 : 0 ≤ now ∧ now ≤ 1073741824) (h2 : 0 ≤ d ∧ d ≤ 1073741824) : Calls Try.prog 29 #[.int .i64 now, .int .i64 d] w fun e w' => e = .returned (.int .i64 (laterV now d)) ∧ w' = w := by
  obtain ⟨a1, a2⟩ := h1
  obtain ⟨a3, a4⟩ := h2
  rcases Int.lt_trichotomy (now + d) 1073741824 with h | h | h
  · have HV : Hid (laterV now d = now + d) := by show _ = _; unfold laterV; rw [if_pos (by omega)]
    go_enter Try.func29, Try.ntmps29
    go_wp2_with fail
    go_ret
    exact ⟨by rw [HV.out]; rfl, rfl⟩
  · have HV : Hid (laterV now d = 1073741824) := by show _ = _; unfold laterV; rw [if_pos (by omega), h]
    go_enter Try.func29, Try.ntmps29
    go_wp2_with fail
    go_ret
    exact ⟨by rw [HV.out]; rfl, rfl⟩
  · have HV : Hid (laterV now d = 1073741824) := by show _ = _; unfold laterV; rw [if_neg (by omega)]
    go_enter Try.func29, Try.ntmps29
    go_wp2_with fail
    go_ret
    exact ⟨by rw [HV.out]; rfl, rfl⟩
end
end Go.Proofs.Ytbgbpibfmdkndaa
