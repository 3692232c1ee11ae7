/- The document's Check. -/
import Derived.Test.YtpmoanjeoaeabaaDoorCR
set_option linter.unusedVariables false
set_option linter.unusedSimpArgs false
set_option linter.unnecessarySimpa false
set_option maxRecDepth 100000
namespace Go.Proofs.YtpmoanjeoaeabaaDoor
open Go.RowKit Go.ChangeShapes Go.WideShapes Go.ChangeAt
def badB (d : Df) (i : Nat) : Bool := decide (aloneE d i ≠ 0)
/-- what is wrong with a definition, and where -/
noncomputable def checkN (d : Df) : Int × Int :=
  if isN d.name = false then (-1, 110) else if d.steps.length < 1 ∨ 8 < d.steps.length then (-1, 111)
  else if fstI d.steps.length (badB d) < d.steps.length then ((fstI d.steps.length (badB d) : Int), aloneE d (fstI d.steps.length (badB d)))
  else togetherN d
section
variable {d : Df} {k : Nat}
theorem check_name (h : isN d.name = false) : checkN d = (-1, 110) := by
  unfold checkN
  rw [if_pos h]
theorem check_steps (h : isN d.name = true) (h2 : d.steps.length < 1 ∨ 8 < d.steps.length) : checkN d = (-1, 111) := by
  unfold checkN
  rw [if_neg (by rw [h]; decide), if_pos h2]
theorem check_alone (h : isN d.name = true) (h2 : 1 ≤ d.steps.length ∧ d.steps.length ≤ 8) (hk : k < d.steps.length) (hb : badB d k = true) (ha : ∀ j, j < k → badB d j = false) : checkN d = ((k : Int), aloneE d k) := by
  unfold checkN
  rw [if_neg (by rw [h]; decide), if_neg (by omega), fst_hit hk hb ha, if_pos hk]
theorem check_all (h : isN d.name = true) (h2 : 1 ≤ d.steps.length ∧ d.steps.length ≤ 8) (ha : ∀ j, j < d.steps.length → badB d j = false) : checkN d = togetherN d := by
  unfold checkN
  rw [if_neg (by rw [h]; decide), if_neg (by omega), fst_none ha, if_neg (Nat.lt_irrefl _)]
theorem bad_no (h : badB d k = false) : isN (nameAt d k) = true ∧ twiceB d k = false ∧ (1 ≤ kindAt d k ∧ kindAt d k ≤ 3) ∧ (0 ≤ partAt d k ∧ partAt d k ≤ 3) ∧ keysB (keysAt d k) (partAt d k) = true ∧ needsB (needsAt d k) k d.steps.length = true := by
  have h0 : aloneE d k = 0 := by simpa using of_decide_eq_false h
  unfold aloneE at h0
  split at h0
  · cases h0
  split at h0
  · cases h0
  split at h0
  · cases h0
  split at h0
  · cases h0
  split at h0
  · cases h0
  split at h0
  · cases h0
  refine ⟨by simp_all, by simp_all, by omega, by omega, by simp_all, by simp_all⟩
theorem ok_getD {l : List Int} {i n : Nat} (h : needsB l i n = true) : ∀ m ∈ l, 0 ≤ m ∧ m < n ∧ m ≠ i := by
  intro m hm
  obtain ⟨j, hj, rfl⟩ := List.getElem_of_mem hm
  have := (of_decide_eq_true h) j hj
  unfold okAt at this
  rw [← List.getElem_eq_getD (h := hj)] at this
  exact ⟨this.1, this.2.1, this.2.2.1⟩
theorem needIn_of (ha : ∀ j, j < d.steps.length → badB d j = false) : NeedIn d := fun k hk m hm => by
  have := ok_getD (bad_no (ha k hk)).2.2.2.2.2 m hm
  exact ⟨this.1, this.2.1⟩
theorem needsAt_len (hz : Sized d) (k : Nat) : (needsAt d k).length ≤ 17592186043904 := by
  by_cases hk : k < d.steps.length
  · rw [← needs_at d k hk]
    exact hz.needs _ (List.getElem_mem hk)
  · unfold needsAt
    rw [List.getD_eq_getElem?_getD, List.getElem?_eq_none (by omega)]
    exact Nat.zero_le _
theorem keysAt_len (hz : Sized d) (k : Nat) : (keysAt d k).length ≤ 17592186043904 := by
  by_cases hk : k < d.steps.length
  · rw [← keys_at d k hk]
    exact hz.keyn _ (List.getElem_mem hk)
  · unfold keysAt
    rw [List.getD_eq_getElem?_getD, List.getElem?_eq_none (by omega)]
    exact Nat.zero_le _
theorem small_of (hz : Sized d) (h8 : d.steps.length ≤ 8) (ha : ∀ j, j < d.steps.length → badB d j = false) : Small d :=
  ⟨by omega, fun k => by have := needsAt_len hz k; omega, fun k => by have := keysAt_len hz k; omega, needIn_of ha⟩
end
set_option maxHeartbeats 3200000 in
theorem rcheck_any {w : World} (d : Df) (hD : DefAt w d) (hz : Sized d) :
    Calls Tryd.prog 13 #[d.v] w (Quietly w (.tuple #[.int .i64 (checkN d).1, .int .i64 (checkN d).2])) := by
  have C47 : Hid (∀ w1, Calls Tryd.prog 47 #[.string d.name] w1 fun e w' => e = .returned (.bool (isN d.name)) ∧ w' = w1) := fun w1 => ris_any _ w1 hz.name
  have C48 : Hid (∀ k w1, Below w.heap.size w w1 → k < d.steps.length → Calls Tryd.prog 48 #[d.v, .int .i64 (k : Nat)] w1 fun e w' => e = .returned (.int .i64 (aloneE d k)) ∧ Below w1.heap.size w1 w') := fun k w1 hb hk => ralone_any d k (hD.keep hb) hk hz
  have C49 : Hid (d.steps.length ≤ 8 → (∀ j, j < d.steps.length → badB d j = false) → ∀ w1, Below w.heap.size w w1 → Calls Tryd.prog 49 #[d.v] w1 fun e w' => e = .returned (.tuple #[.int .i64 (togetherN d).1, .int .i64 (togetherN d).2]) ∧ Below w1.heap.size w1 w') := fun h8 ha w1 hb => rtogether_any d (hD.keep hb) (small_of hz h8 ha)
  have HNA : Hid (isN d.name = false → checkN d = (-1, 110)) := fun h => check_name h
  have HST : Hid (isN d.name = true → (d.steps.length < 1 ∨ 8 < d.steps.length) → checkN d = (-1, 111)) := fun h h2 => check_steps h h2
  have HAL : Hid (∀ k, isN d.name = true → 1 ≤ d.steps.length ∧ d.steps.length ≤ 8 → k < d.steps.length → aloneE d k ≠ 0 → (∀ j, j < k → badB d j = false) → checkN d = ((k : Int), aloneE d k)) := fun k h h2 hk hb ha => check_alone h h2 hk (decide_eq_true hb) ha
  have HTO : Hid (isN d.name = true → 1 ≤ d.steps.length ∧ d.steps.length ≤ 8 → (∀ j, j < d.steps.length → badB d j = false) → checkN d = togetherN d) := fun h h2 ha => check_all h h2 ha
  have HBB : Hid (∀ k, aloneE d k = 0 → badB d k = false) := fun k h => decide_eq_false (by simpa using h)
  have hnn := hz.steps
  obtain ⟨R, hR⟩ : ∃ R, checkN d = R := ⟨_, rfl⟩
  obtain ⟨T, hT⟩ : ∃ R, togetherN d = R := ⟨_, rfl⟩
  rw [hR] at HNA HST HAL HTO ⊢
  rw [hT] at C49 HTO
  have h1 := (Sat.start w).new #[.string d.name, .slice d.A d.steps.length d.c] 24
  obtain ⟨b, hb⟩ : ∃ b, w.heap.size = b := ⟨_, rfl⟩
  unfold Df.v at C48 C49 ⊢
  unfold Quietly
  obtain ⟨n, hN⟩ : ∃ n, d.steps.length = n := ⟨_, rfl⟩
  simp only [hN] at h1 C48 C49 HST HAL HTO hnn ⊢
  obtain ⟨x, y⟩ := R
  obtain ⟨tx, ty⟩ := T
  rw [hb] at h1
  have H1 := Lib.hid h1
  have HVV : Hid (∀ w', Sat w w' [Blk b 24 [.string d.name, .slice d.A n d.c], Old w] → Below w.heap.size w w') := fun w' h => h.old (by simp)
  have a1 := h1.blk.cell 1
  obtain ⟨iv, hiv⟩ : ∃ v, isN d.name = v := ⟨_, rfl⟩
  rw [hiv] at C47 HNA HST HAL HTO
  clear h1 hD hz hR hN hT hiv
  go_enter Tryd.func13, Tryd.ntmps13
  go_wp2_with fail
  try simp only [hb]
  refine (C47.out _).mono ?_
  rintro e w1 ⟨rfl, rfl⟩
  cases iv with
  | false =>
    have HE := Lib.hid (HNA.out rfl)
    go_wp2_with fail
    go_ret2
    exact ⟨by rw [show x = -1 from congrArg Prod.fst HE.out, show y = 110 from congrArg Prod.snd HE.out]; rfl, by have h9 := HVV.out _ H1.out; first | exact h9 | (rw [hb] at h9; exact h9)⟩
  | true =>
    by_cases h0 : n < 1
    · have t0 : decide ((n : Int) < 1) = true := decide_eq_true (by omega)
      have HE := Lib.hid (HST.out rfl (.inl h0))
      clear h0
      go_wp2_with fail
      go_ret2
      exact ⟨by rw [show x = -1 from congrArg Prod.fst HE.out, show y = 111 from congrArg Prod.snd HE.out]; rfl, by have h9 := HVV.out _ H1.out; first | exact h9 | (rw [hb] at h9; exact h9)⟩
    have t0 : decide ((n : Int) < 1) = false := decide_eq_false (by omega)
    by_cases h8 : 8 < n
    · have t8 : decide ((8 : Int) < (n : Int)) = true := decide_eq_true (by omega)
      have HE := Lib.hid (HST.out rfl (.inr h8))
      clear h0 h8
      go_wp2_with fail
      go_ret2
      exact ⟨by rw [show x = -1 from congrArg Prod.fst HE.out, show y = 111 from congrArg Prod.snd HE.out]; rfl, by have h9 := HVV.out _ H1.out; first | exact h9 | (rw [hb] at h9; exact h9)⟩
    have t8 : decide ((8 : Int) < (n : Int)) = false := decide_eq_false (by omega)
    have HN8 : Hid (1 ≤ n ∧ n ≤ 8) := ⟨by omega, by omega⟩
    clear h0 h8
    go_wp2_with fail
    go_loopw [5] (TgR w b [.string d.name, .slice d.A n d.c] (badB d) n) (fun x _ => n - (intOf x).toNat)
    case atStart => exact ⟨0, Nat.zero_le _, rfl, H1.out, fun j hj => by omega⟩
    case round =>
      obtain ⟨k, hk, rfl, hT, ha⟩ := hrel
      clear H1 a1
      have h9 := HVV.out _ hT
      have a0 : wr.cell? ⟨b, 0, none⟩ = some (.string d.name) := hT.blk.cell 0
      have a1 : wr.cell? ⟨b, 1, none⟩ = some (.slice d.A n d.c) := hT.blk.cell 1
      by_cases hlt : k < n
      · have CC := Lib.hid (C48.out k _ h9 hlt)
        have HA := Lib.hid ha
        have HT := Lib.hid hT
        have HY := Lib.hid (fun h => HAL.out k (by first | trivial | rfl) HN8.out hlt h HA.out)
        have HX := Lib.hid (fun h => none_next (p := badB d) (k := k) (HBB.out k h) HA.out)
        obtain ⟨v, hv⟩ : ∃ v, aloneE d k = v := ⟨_, rfl⟩
        rw [hv] at CC HY HX
        clear ha hT h9 hv
        go_wp2_with fail
        refine CC.out.mono ?_
        rintro e w2 ⟨rfl, hb1⟩
        have HT2 := Lib.hid (HT.out.below hb1)
        clear hb1 HT
        by_cases hv0 : v = 0
        · have tv : (v != 0) = false := by rw [hv0]; rfl
          have HE := Lib.hid (HX.out hv0)
          clear hv0
          go_wp2_with fail
          go_roundw
          case rel => exact ⟨k + 1, by omega, by go_num, HT2.out, HE.out⟩
          case measure => simp [intOf]; omega
        · have tv : (v != 0) = true := by rw [bne_iff_ne]; exact hv0
          have HE := Lib.hid (HY.out hv0)
          clear hv0
          go_wp2_with fail
          go_ret2
          exact ⟨by rw [show x = (k : Int) from congrArg Prod.fst HE.out, show y = v from congrArg Prod.snd HE.out]; rfl, by have h9 := HVV.out _ HT2.out; first | exact h9 | (rw [hb] at h9; exact h9)⟩
      · have hkn : k = n := by omega
        have HA : Hid (∀ j, j < n → badB d j = false) := fun j hj => ha j (by omega)
        have HT := Lib.hid hT
        have HE := Lib.hid (HTO.out (by first | trivial | rfl) HN8.out HA.out)
        have CC := Lib.hid (C49.out HN8.out.2 HA.out _ h9)
        clear ha hT h9 hkn
        go_wp2_with fail
        refine CC.out.mono ?_
        rintro e w2 ⟨rfl, hb1⟩
        have HT2 := Lib.hid (HT.out.below hb1)
        clear hb1 HT
        go_wp2_with fail
        go_ret2
        exact ⟨by rw [show x = tx from congrArg Prod.fst HE.out, show y = ty from congrArg Prod.snd HE.out]; rfl, by have h9 := HVV.out _ HT2.out; first | exact h9 | (rw [hb] at h9; exact h9)⟩
end Go.Proofs.YtpmoanjeoaeabaaDoor
