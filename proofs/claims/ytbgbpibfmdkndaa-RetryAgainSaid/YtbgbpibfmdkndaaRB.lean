/- Tables of delays: Max, IsSorted, may; the document's May; Delay; tick. -/
import Derived.Test.YtbgbpibfmdkndaaWH
import Derived.Test.YtbgbpibfmdkndaaWI
import Derived.Test.YtbgbpibfmdkndaaRA
import Derived.Deep.RegionHeld3
import Derived.BigQuiet
set_option linter.unusedVariables false
set_option linter.unusedSimpArgs false
set_option linter.unnecessarySimpa false
set_option maxRecDepth 100000
namespace Go.Proofs.Ytbgbpibfmdkndaa
open Go.RowKit Go.ChangeShapes Go.WideShapes Go.ChangeAt
def nums (L : List Int) : List Value := L.map fun x => .int .i64 x
theorem nums_len (L : List Int) : (nums L).length = L.length := by simp [nums]
theorem nums_one (l : List Int) : ∀ u ∈ nums l, u.oneCell' = true := by
  intro u hu
  unfold nums at hu
  obtain ⟨x, _, rfl⟩ := List.mem_map.1 hu
  rfl
/-- numbers that stand at an address -/
def NsAt (w : World) (A : Option Addr) (t : List Int) : Prop :=
  t = [] ∨ ∃ b o, A = some ⟨b, o, none⟩ ∧ ∀ j, j < t.length → w.cell? ⟨b, o + j, none⟩ = some (.int .i64 (t.getD j 0))
theorem NsAt.drewN {w : World} {A : Option Addr} {t : List Int} (h : NsAt w A t) (n : Nat) : NsAt (w.drewN n) A t := h
theorem NsAt.keep {w w' : World} {A : Option Addr} {t : List Int} (h : NsAt w A t) (hb : Below w.heap.size w w') : NsAt w' A t := by
  rcases h with h | ⟨b, o, h1, h2⟩
  · exact .inl h
  · exact .inr ⟨b, o, h1, fun j hj => old_cell hb (h2 j hj)⟩
theorem Sat.rowNs {w0 w : World} {F : List HP} {A : Option Addr} {n c : Nat} {l : List Int} (h : Sat w0 w (Row 3 1 A n c (nums l) :: F)) : NsAt w A l := by
  by_cases h0 : l = []
  · exact .inl h0
  · obtain ⟨g, rfl, hc, _⟩ := h.rowCell (by unfold nums; simpa using h0)
    refine .inr ⟨g, 0, rfl, fun j hj => ?_⟩
    rw [Nat.zero_add, hc j (by rw [nums_len]; exact hj)]
    simp [nums, hj]
theorem NsAt.rd {w : World} {A : Option Addr} {t : List Int} (h : NsAt w A t) : Rd w A t.length 1 (nums t) := by
  refine ⟨by rw [nums_len, Nat.mul_one], fun j u hu => ?_⟩
  obtain ⟨hj, e⟩ := List.getElem?_eq_some_iff.1 hu
  rw [nums_len] at hj
  obtain ⟨b, o, rfl, h2⟩ := h.resolve_left (by rintro rfl; simp at hj)
  refine ⟨_, rfl, ?_⟩
  rw [show (⟨b, o, none⟩ : Addr).add j = ⟨b, o + j, none⟩ by by_cases hj0 : j = 0 <;> simp [Addr.add, hj0], h2 j hj, ← e]
  simp [nums, hj]
def okAt (t : List Int) (j : Nat) : Prop := 1 ≤ t.getD j 0 ∧ t.getD j 0 ≤ 1000 ∧ (0 < j → t.getD (j - 1) 0 ≤ t.getD j 0)
instance (t : List Int) (j : Nat) : Decidable (okAt t j) := by unfold okAt; infer_instance
/-- may it be a table? -/
def mayB (t : List Int) : Bool := decide (1 ≤ t.length ∧ t.length ≤ 8 ∧ ∀ j, j < t.length → okAt t j)
theorem may_no_len {t : List Int} (h : ¬ (1 ≤ t.length ∧ t.length ≤ 8)) : mayB t = false := decide_eq_false fun g => h ⟨g.1, g.2.1⟩
theorem may_no {t : List Int} {j : Nat} (hj : j < t.length) (h : ¬ okAt t j) : mayB t = false := decide_eq_false fun g => h (g.2.2 j hj)
theorem may_yes {t : List Int} (h1 : 1 ≤ t.length) (h8 : t.length ≤ 8) (h : ∀ j, j < t.length → okAt t j) : mayB t = true := decide_eq_true ⟨h1, h8, h⟩
def sortedP (t : List Int) : Prop := ∀ j, j + 1 < t.length → t.getD j 0 ≤ t.getD (j + 1) 0
theorem sorted_first {t : List Int} (h : sortedP t) : ∀ j, j < t.length → t.getD 0 0 ≤ t.getD j 0
  | 0, _ => Int.le_refl _
  | j + 1, hj => Int.le_trans (sorted_first h j (by omega)) (h j hj)
theorem may_of {t : List Int} {m : Int} (h1 : 1 ≤ t.length) (h8 : t.length ≤ 8) (h0 : 1 ≤ t.getD 0 0) (hm : ∀ j, j < t.length → t.getD j 0 ≤ m) (hm2 : m ≤ 1000) (hs : sortedP t) : mayB t = true := by
  refine may_yes h1 h8 fun j hj => ⟨Int.le_trans h0 (sorted_first hs j hj), Int.le_trans (hm j hj) hm2, fun hp => ?_⟩
  obtain ⟨p, rfl⟩ : ∃ p, j = p + 1 := ⟨j - 1, by omega⟩
  exact hs p hj
section
variable {w : World} {A : Option Addr} {c : Nat} {t : List Int}
def MxRel (w : World) (t : List Int) (x i : Value) (wr : World) : Prop := ∃ (k : Nat) (m : Int), 1 ≤ k ∧ k ≤ t.length ∧ i = .int .i64 k ∧ x = .int .i64 m ∧ wr = w ∧ (∀ j, j < k → t.getD j 0 ≤ m) ∧ ∃ j, j < k ∧ t.getD j 0 = m
set_option maxHeartbeats 1600000 in
theorem max_any (hT : NsAt w A t) (h1 : 1 ≤ t.length) (h8 : t.length ≤ 8) :
    Calls Try.prog 40 #[.slice A t.length c] w fun e w' => ∃ m : Int, e = .returned (.int .i64 m) ∧ w' = w ∧ (∀ j, j < t.length → t.getD j 0 ≤ m) ∧ ∃ j, j < t.length ∧ t.getD j 0 = m := by
  obtain ⟨b, o, rfl, hc⟩ := hT.resolve_left (by rintro rfl; simp at h1)
  have HC := Lib.hid hc
  obtain ⟨n, hn⟩ : ∃ n, t.length = n := ⟨_, rfl⟩
  have HN := Lib.hid hn
  have c0 := hc 0 h1
  rw [Nat.add_zero] at c0
  rw [hn] at h1 h8 ⊢
  obtain ⟨x0, hx0⟩ : ∃ x, t.getD 0 0 = x := ⟨_, rfl⟩
  rw [hx0] at c0
  have HX0 := Lib.hid hx0
  clear hc hn hT hx0
  go_enter Try.func40, Try.ntmps40
  go_wp2_with fail
  go_loopw [3, 4] (MxRel w t) (fun _ i _ => n - (intOf i).toNat)
  case atStart =>
    refine ⟨1, x0, Nat.le_refl _, by rw [HN.out]; exact h1, rfl, rfl, rfl, fun j hj => ?_, 0, by decide, HX0.out⟩
    obtain rfl : j = 0 := by omega
    rw [HX0.out]
    exact Int.le_refl _
  case round =>
    obtain ⟨k, m, hk1, hk, rfl, rfl, rfl, hm, hm2⟩ := hrel
    rw [HN.out] at hk
    have HM := Lib.hid hm
    have HM2 := Lib.hid hm2
    clear hm hm2 c0
    by_cases hlt : k < n
    · have c1 := HC.out k (by rw [HN.out]; exact hlt)
      obtain ⟨x, hx⟩ : ∃ x, t.getD k 0 = x := ⟨_, rfl⟩
      rw [hx] at c1
      have HX := Lib.hid hx
      clear hx
      rcases Int.lt_trichotomy m x with h | h | h
      · have HB : Hid ((∀ j, j < k + 1 → t.getD j 0 ≤ x) ∧ ∃ j, j < k + 1 ∧ t.getD j 0 = x) := by
          refine ⟨fun j hj => ?_, k, by omega, HX.out⟩
          by_cases hjk : j < k
          · have := HM.out j hjk; omega
          · obtain rfl : j = k := by omega
            rw [HX.out]; exact Int.le_refl _
        go_wp2_with fail
        go_roundw
        case rel => exact ⟨k + 1, x, by omega, by rw [HN.out]; omega, by go_num, rfl, rfl, HB.out.1, HB.out.2⟩
        case measure => simp [intOf]; omega
      · subst h
        have HB : Hid ((∀ j, j < k + 1 → t.getD j 0 ≤ m) ∧ ∃ j, j < k + 1 ∧ t.getD j 0 = m) := by
          refine ⟨fun j hj => ?_, k, by omega, HX.out⟩
          by_cases hjk : j < k
          · exact HM.out j hjk
          · obtain rfl : j = k := by omega
            rw [HX.out]; exact Int.le_refl _
        go_wp2_with fail
        go_roundw
        case rel => exact ⟨k + 1, m, by omega, by rw [HN.out]; omega, by go_num, rfl, rfl, HB.out.1, HB.out.2⟩
        case measure => simp [intOf]; omega
      · have HB : Hid ((∀ j, j < k + 1 → t.getD j 0 ≤ m) ∧ ∃ j, j < k + 1 ∧ t.getD j 0 = m) := by
          obtain ⟨j0, h1, h2⟩ := HM2.out
          refine ⟨fun j hj => ?_, j0, by omega, h2⟩
          by_cases hjk : j < k
          · exact HM.out j hjk
          · obtain rfl : j = k := by omega
            rw [HX.out]; omega
        go_wp2_with fail
        go_roundw
        case rel => exact ⟨k + 1, m, by omega, by rw [HN.out]; omega, by go_num, rfl, rfl, HB.out.1, HB.out.2⟩
        case measure => simp [intOf]; omega
    · obtain rfl : k = n := by omega
      clear hlt
      go_wp2_with fail
      go_ret
      exact ⟨m, rfl, rfl, HM.out, HM2.out⟩
theorem less_any (a b : Int) (w : World) : Calls Try.prog 52 #[.int .i64 a, .int .i64 b] w fun e w' => e = .returned (.bool (decide (a < b))) ∧ w' = w := by
  have HN := Lib.hid (isNaN_any a w)
  go_enter Try.func52, Try.ntmps52
  go_wp2_with fail
  refine HN.out.mono ?_
  rintro e w1 ⟨rfl, rfl⟩
  go_wp2_with fail
  go_ret
  exact ⟨rfl, rfl⟩
def IsRel (w : World) (t : List Int) (i : Value) (wr : World) : Prop := ∃ k : Nat, k < t.length ∧ i = .int .i64 k ∧ (∃ q, wr = w.drewN q) ∧ ∀ j, k ≤ j → j + 1 < t.length → t.getD j 0 ≤ t.getD (j + 1) 0
set_option maxHeartbeats 1600000 in
theorem sorted_any (hT : NsAt w A t) (h1 : 1 ≤ t.length) (h8 : t.length ≤ 8) :
    Calls Try.prog 41 #[.slice A t.length c] w fun e w' => ∃ v : Bool, e = .returned (.bool v) ∧ (v = true ↔ sortedP t) ∧ ∃ q, w' = w.drewN q := by
  obtain ⟨b, o, rfl, hc⟩ := hT.resolve_left (by rintro rfl; simp at h1)
  have HC := Lib.hid hc
  obtain ⟨n, hn⟩ : ∃ n, t.length = n + 1 := ⟨t.length - 1, by omega⟩
  have HN := Lib.hid hn
  rw [hn] at h1 h8 ⊢
  clear hc hn hT h1
  go_enter Try.func41, Try.ntmps41
  go_wp2_with fail
  go_loopw [3] (IsRel w t) (fun i _ => (intOf i).toNat)
  case atStart => exact ⟨n, by rw [HN.out]; omega, by go_num, ⟨0, rfl⟩, fun j h1 h2 => by rw [HN.out] at h2; omega⟩
  case round =>
    obtain ⟨k, hk, rfl, ⟨q, rfl⟩, hs⟩ := hrel
    have HS := Lib.hid hs
    clear hs
    cases k with
    | zero =>
      have t1 : decide ((0 : Int) < ((0 : Nat) : Int)) = false := by decide
      go_wp2_with fail
      go_ret
      exact ⟨true, rfl, ⟨fun _ j hj => HS.out j (Nat.zero_le _) hj, fun _ => rfl⟩, q, rfl⟩
    | succ p =>
      have c1 := HC.out (p + 1) hk
      have c2 := HC.out p (by omega)
      obtain ⟨x, hx⟩ : ∃ x, t.getD (p + 1) 0 = x := ⟨_, rfl⟩
      obtain ⟨y, hy⟩ : ∃ x, t.getD p 0 = x := ⟨_, rfl⟩
      rw [hx] at c1
      rw [hy] at c2
      have d1 : (w.drewN q).cell? ⟨b, o + (p + 1), none⟩ = some (.int .i64 x) := c1
      have d2 : (w.drewN q).cell? ⟨b, o + p, none⟩ = some (.int .i64 y) := c2
      have HX := Lib.hid hx
      have HY := Lib.hid hy
      have hp8 : p + 1 < n + 1 := by rw [HN.out] at hk; exact hk
      have HL := Lib.hid (less_any x y (w.drewN q).drew)
      have g1 : (0 : Int) ≤ (p : Int) + 1 := by omega
      have g2 : (p : Int) + 1 < (n : Int) + 1 := by omega
      have g3 : (0 : Int) ≤ (p : Int) := by omega
      have g4 : (p : Int) < (n : Int) + 1 := by omega
      have g6 : (p : Int) < (n : Int) := by omega
      have g7 : (p : Int) ≤ (n : Int) := by omega
      have g8 : IntKind.i64.wrap (p : Int) = (p : Int) := IntWalk.i64_in _ (by omega)
      have g5 : IntKind.i64.wrap ((p : Int) + 1 - 1) = (p : Int) := by rw [IntWalk.i64_in _ (by omega)]; omega
      clear hx hy c1 c2 hk
      by_cases hxy : x < y
      · have HF : Hid (¬ sortedP t) := fun h => by
          have h2 := h p (by rw [HN.out]; omega)
          rw [HX.out, HY.out] at h2
          omega
        rw [decide_eq_true hxy] at HL
        clear hxy
        go_wp2_with fail
        go_region_held3 (fun w' => w'.cell? ⟨b, o + (p + 1), none⟩ = some (.int .i64 x) ∧ w'.cell? ⟨b, o + p, none⟩ = some (.int .i64 y))
          (first | exact ⟨d1, d2⟩)
          (first | (go_at_call 52; refine HL.out.mono ?_; rintro e w5 ⟨rfl, rfl⟩))
        all_goals
          go_wp2_with fail
          go_ret
          exact ⟨false, rfl, ⟨fun h => by (cases h), fun h => absurd h HF.out⟩, q + 1, rfl⟩
      · have HS2 : Hid (∀ j, p ≤ j → j + 1 < t.length → t.getD j 0 ≤ t.getD (j + 1) 0) := fun j h1 h2 => by
          by_cases hjp : j = p
          · subst hjp
            rw [HX.out, HY.out]
            omega
          · exact HS.out j (by omega) h2
        rw [decide_eq_false hxy] at HL
        clear hxy
        go_wp2_with fail
        go_region_held3 (fun w' => w'.cell? ⟨b, o + (p + 1), none⟩ = some (.int .i64 x) ∧ w'.cell? ⟨b, o + p, none⟩ = some (.int .i64 y))
          (first | exact ⟨d1, d2⟩)
          (first | (go_at_call 52; refine HL.out.mono ?_; rintro e w5 ⟨rfl, rfl⟩))
        all_goals
          go_wp2_with fail
          go_roundw
          case rel => exact ⟨p, by have := HN.out; omega, by first | rfl | go_num, ⟨q + 1, rfl⟩, HS2.out⟩
          case measure => simp [intOf] <;> omega
set_option maxHeartbeats 1600000 in
theorem may_any (hT : NsAt w A t) : Calls Try.prog 26 #[.slice A t.length c] w fun e w' => e = .returned (.bool (mayB t)) ∧ ∃ q, w' = w.drewN q := by
  by_cases hl : 1 ≤ t.length ∧ t.length ≤ 8
  · obtain ⟨h1, h8⟩ := hl
    have HMX := Lib.hid (max_any (c := c) hT h1 h8)
    have HSO := Lib.hid (sorted_any (c := c) hT h1 h8)
    have HMO : Hid (∀ m, 1 ≤ t.getD 0 0 → (∀ j, j < t.length → t.getD j 0 ≤ m) → m ≤ 1000 → sortedP t → mayB t = true) := fun m a b d e => may_of h1 h8 a b d e
    have HNO := Lib.hid (fun (j : Nat) (hj : j < t.length) (h : ¬ okAt t j) => may_no hj h)
    obtain ⟨b, o, rfl, hc⟩ := hT.resolve_left (by rintro rfl; simp at h1)
    have c0 := hc 0 h1
    rw [Nat.add_zero] at c0
    obtain ⟨R, hR⟩ : ∃ R, mayB t = R := ⟨_, rfl⟩
    rw [hR] at HMO HNO ⊢
    obtain ⟨n, hn⟩ : ∃ n, t.length = n := ⟨_, rfl⟩
    have HN := Lib.hid hn
    rw [hn] at HMX HSO h1 h8 ⊢
    obtain ⟨x0, hx0⟩ : ∃ x, t.getD 0 0 = x := ⟨_, rfl⟩
    rw [hx0] at c0
    have HX0 := Lib.hid hx0
    clear hc hT hR hn hx0
    have g1 : (1 : Int) ≤ (n : Int) := by omega
    have g8 : (n : Int) ≤ 8 := by omega
    by_cases hx : 1 ≤ x0
    · have t0 : decide (1 ≤ x0) = true := decide_eq_true hx
      go_enter Try.func26, Try.ntmps26
      go_wp2_with fail
      refine HMX.out.mono ?_
      rintro e w1 ⟨m, rfl, rfl, hm, j0, hj0, hjm⟩
      by_cases hm1 : m ≤ 1000
      · have t1 : decide (m ≤ 1000) = true := decide_eq_true hm1
        have HM := Lib.hid (HMO.out m (by rw [HX0.out]; exact hx) (fun j hj => hm j (by rw [HN.out] at hj; exact hj)) hm1)
        clear hm hj0 hjm
        go_wp2_with fail
        refine HSO.out.mono ?_
        rintro e w2 ⟨v, rfl, hv, q, rfl⟩
        have HV : Hid (v = R) := by
          show _ = _
          cases v with
          | true => exact (HM.out (hv.1 rfl)).symm
          | false =>
            cases R with
            | false => rfl
            | true =>
              exfalso
              have hns : ¬ sortedP t := fun h => by have := hv.2 h; cases this
              apply hns
              intro j hj
              by_cases hok : okAt t (j + 1)
              · exact hok.2.2 (by omega)
              · have := HNO.out (j + 1) hj hok
                cases this
        clear hv
        go_wp2_with fail
        go_ret
        exact ⟨by rw [HV.out]; rfl, q, rfl⟩
      · have t1 : decide (m ≤ 1000) = false := decide_eq_false hm1
        have HF : Hid (R = false) := HNO.out j0 (by rw [HN.out]; exact hj0) fun h => hm1 (by rw [← hjm]; exact h.2.1)
        clear hm hj0 hjm
        go_wp2_with fail
        go_ret
        exact ⟨by rw [HF.out]; rfl, 0, rfl⟩
    · have t0 : decide (1 ≤ x0) = false := decide_eq_false hx
      have HF : Hid (R = false) := HNO.out 0 (by rw [HN.out]; omega) fun h => hx (by rw [← HX0.out]; exact h.1)
      go_enter Try.func26, Try.ntmps26
      go_wp2_with fail
      go_ret
      exact ⟨by rw [HF.out]; rfl, 0, rfl⟩
  · rw [may_no_len hl]
    obtain ⟨n, hn⟩ : ∃ n, t.length = n := ⟨_, rfl⟩
    rw [hn] at hl ⊢
    clear hn hT
    by_cases h1 : 1 ≤ n
    · have h8 : ¬ n ≤ 8 := fun h => hl ⟨h1, h⟩
      have g1 : (1 : Int) ≤ (n : Int) := by omega
      have g8 : ¬ (n : Int) ≤ 8 := by omega
      clear hl
      go_enter Try.func26, Try.ntmps26
      go_wp2_with fail
      go_ret
      exact ⟨rfl, 0, rfl⟩
    · obtain rfl : n = 0 := by omega
      clear hl h1
      go_enter Try.func26, Try.ntmps26
      go_wp2_with fail
      go_ret
      exact ⟨rfl, 0, rfl⟩
end
end Go.Proofs.Ytbgbpibfmdkndaa
