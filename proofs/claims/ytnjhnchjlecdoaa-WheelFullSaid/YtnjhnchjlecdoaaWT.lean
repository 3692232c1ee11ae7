/- The law WheelFull: the walk. -/
import Derived.Test.YtnjhnchjlecdoaaWS
import Derived.Deep.RegionHeld3
set_option linter.unusedVariables false
set_option linter.unusedSimpArgs false
set_option linter.unnecessarySimpa false
set_option maxRecDepth 100000
namespace Go.Proofs.Ytnjhnchjlecdoaa
open Go.RowKit Go.ChangeShapes Go.WideShapes Go.ChangeAt
def F1Rel (w0 : World) (g f s : Nat) (i : Value) (wr : World) : Prop := ∃ (k : Nat) (L : List Tm), 2 ≤ k ∧ k ≤ 200 ∧ i = .int .i64 k ∧ Fill f s k L ∧ Sat w0 wr [WheelC g 48 50 L, Old w0]
def F2Rel (w0 : World) (g f s n : Nat) (i : Value) (wr : World) : Prop := ∃ (k : Nat) (L : List Tm), k ≤ n ∧ i = .int .i64 k ∧ Fill f s 200 L ∧ Sat w0 wr [WheelC g 48 50 L, Old w0]
set_option maxHeartbeats 6400000 in
theorem wheelFull_walk (a0 a1 : Int) (A : Option Addr) (n c : Nat) (l : List TOp) (w : World) (w0 : (Lit.int .i64 a0).wf = true) (w1 : (Lit.int .i64 a1).wf = true) (w2 : OpsAt w A n c l) (_ : n * 24 ≤ 140737488351232) :
    Calls Try.prog 3 #[.int .i64 a0, .int .i64 a1, .slice A n c] w fun e w' => e = .returned (.bool true) ∧ Below w.heap.size w w' := by
  obtain ⟨hn, hml, _⟩ := w2.1.at_
  rw [List.length_map] at hn hml
  subst hn
  unfold maxLen at hml
  have HE := Lib.hid w2.1
  have HW := Lib.hid w2.2
  have hf := pickN_lt a0 1000 (by decide)
  have hs := pickN_lt a1 1000 (by decide)
  have HP0 := Lib.hid (fun w1 => pick_any a0 1000 w1 (i64_of w0) (by decide) (by decide))
  have HP1 := Lib.hid (fun w2 => pick_any a1 1000 w2 (i64_of w1) (by decide) (by decide))
  obtain ⟨f, hff⟩ : ∃ f, pickN a0 1000 = f := ⟨_, rfl⟩
  obtain ⟨s1, hss⟩ : ∃ f, pickN a1 1000 = f := ⟨_, rfl⟩
  rw [hff] at HP0 hf
  rw [hss] at HP1 hs
  obtain ⟨s, hs1⟩ : ∃ s, 1 + s1 = s := ⟨_, rfl⟩
  have hsa : (1 : Int) + (s1 : Int) = (s : Int) := by omega
  have hsw : IntKind.i64.wrap ((1 : Int) + (s1 : Int)) = (s : Int) := by rw [hsa]; exact IntWalk.i64_in _ (by omega)
  have hs2 : 1 ≤ s := by omega
  have hs3 : s ≤ 1000 := by omega
  clear hff hss w0 w1 w2
  go_enter Try.func3, Try.ntmps3
  go_wp2_with fail
  refine (begun_any (Sat.start w)).mono ?_
  rintro e v1 ⟨g, rfl, h1⟩
  have H1 := Lib.hid h1
  clear h1
  go_wp2_with fail
  refine (HP0.out _).mono ?_
  rintro e v2 ⟨rfl, rfl⟩
  go_wp2_with fail
  refine (HP1.out _).mono ?_
  rintro e v3 ⟨rfl, rfl⟩
  clear HP0 HP1
  go_wp2_with fail
  clear hsa hsw hs1 hs
  go_loopw [8] (F1Rel w g f s) (fun i _ => 200 - (intOf i).toNat)
  case atStart => exact ⟨2, begL, by decide, by decide, rfl, fill_beg, H1.out⟩
  case round =>
    obtain ⟨k, L, hk2, hk, rfl, hF, hT⟩ := hrel
    clear H1
    by_cases hlt : k < 200
    · obtain ⟨hc, hN⟩ := hF.step hf hs2 hs3 hlt hk2
      have HS := Lib.hid (wset_any ((f + k * s : Nat) : Int) (k : Int) hT hF.fine.len)
      rw [hc] at HS
      have hmb : k * s ≤ 200 * 1000 := Nat.mul_le_mul (by omega) hs3
      have hmm : (k : Int) * (s : Int) = ((k * s : Nat) : Int) := (Int.natCast_mul k s).symm
      obtain ⟨m, hm⟩ : ∃ m, k * s = m := ⟨_, rfl⟩
      rw [hm] at HS hmb hmm hN
      have hmw : IntKind.i64.wrap ((k : Int) * (s : Int)) = (m : Int) := by rw [hmm]; exact IntWalk.i64_in _ (by omega)
      have hfm : (f : Int) + (m : Int) = ((f + m : Nat) : Int) := by omega
      rw [← hfm] at HS
      rw [← hfm] at hN
      have HN := Lib.hid hN
      obtain ⟨K, hK⟩ : ∃ K, setL L ((f : Int) + (m : Int)) (k : Int) = K := ⟨_, rfl⟩
      rw [hK] at HS HN
      clear hN hc hm hT hF hfm hK
      go_wp2_with fail
      refine HS.out.mono ?_
      rintro e v4 ⟨rfl, h4⟩
      have H4 := Lib.hid h4
      clear HS h4 hmm hmw
      go_wp2_with fail
      go_roundw
      case rel => exact ⟨k + 1, K, by omega, by omega, by go_num, HN.out, H4.out⟩
      case measure => simp [intOf]; omega
    · obtain rfl : k = 200 := by omega
      have HF := Lib.hid hF
      have HT := Lib.hid hT
      clear hF hT
      go_wp2_with fail
      go_loopw [9] (F2Rel w g f s l.length) (fun i _ => l.length - (intOf i).toNat)
      case atStart => exact ⟨0, L, Nat.zero_le _, rfl, HF.out, HT.out⟩
      case round =>
        obtain ⟨k, L, hk, rfl, hF, hT⟩ := hrel
        clear HF HT
        by_cases hlt : k < l.length
        · obtain ⟨b, of, rfl⟩ := op_addr HE.out (by omega)
          have HC : Hid (∀ w', Below w.heap.size w w' → w'.cell? ⟨b, of + k * 3 + 1, none⟩ = some (.int .i64 l[k].id) ∧ w'.cell? ⟨b, of + k * 3 + 2, none⟩ = some (.int .i64 l[k].at_)) := fun w' hb => (op_cells HE.out hb k hlt).2
          obtain ⟨_, hw1, hw2⟩ := HW.out _ (List.getElem_mem hlt)
          obtain ⟨⟨act, id, at_⟩, hM⟩ : ∃ x, l[k] = x := ⟨_, rfl⟩
          rw [hM] at HC hw1 hw2
          simp only at HC hw1 hw2
          unfold wf64 at hw1 hw2
          obtain ⟨wa, wb⟩ := hw1
          obtain ⟨wc, wd⟩ := hw2
          have hFM := hF.more id at_
          have HS := Lib.hid (fun (w1 : World) (h : Sat w w1 [WheelC g 48 50 L, Old w]) => wset_any id at_ h hF.fine.len)
          have HY := Lib.hid (fun (hv : 0 ≤ id ∧ 0 ≤ at_ ∧ at_ ≤ 1073741824) (hi : InSet f s 200 id) => hF.yes hv hi)
          have HNO := Lib.hid (fun (hv : 0 ≤ id ∧ 0 ≤ at_ ∧ at_ ≤ 1073741824) (hi : ¬ InSet f s 200 id) => hF.no hv hi)
          have HBD := Lib.hid (fun (hv : ¬ (0 ≤ id ∧ 0 ≤ at_ ∧ at_ ≤ 1073741824)) => hF.bad hv)
          have HIR := Lib.hid (fun a b c => in_range (f := f) hs2 (id := id) a b c)
          have HOR := Lib.hid (fun a b c => out_range (f := f) hf hs2 hs3 (id := id) a b c)
          have HFM := Lib.hid hFM
          obtain ⟨K, hK⟩ : ∃ K, setL L id at_ = K := ⟨_, rfl⟩
          obtain ⟨k1, hk1⟩ : ∃ K, setC L id at_ = K := ⟨_, rfl⟩
          rw [hK] at HFM
          rw [hK, hk1] at HS
          rw [hk1] at HY HNO HBD
          obtain ⟨e1, e2⟩ := HC.out _ (hT.old (by simp))
          have sw2 : IntKind.i64.wrap ((2 : Int) * (s : Int)) = 2 * (s : Int) := IntWalk.i64_in _ (by omega)
          have sw3 : IntKind.i64.wrap ((200 : Int) * (s : Int)) = 200 * (s : Int) := IntWalk.i64_in _ (by omega)
          have hK200 : Hid (K.length = 200) := HFM.out.len
          have HTT := Lib.hid hT
          clear hFM hK hk1 hM hF hT
          by_cases hA : id = 900000
          · have tA : (id == 900000) = true := by rw [beq_iff_eq]; exact hA
            have hc1 : (f : Int) + 2 * s ≤ id := by omega
            have tc1 : decide (((f : Int) + 2 * s) ≤ id) = true := decide_eq_true hc1
            by_cases hc2 : id < (f : Int) + 200 * s
            · have tc2 : decide (id < ((f : Int) + 200 * s)) = true := decide_eq_true hc2
              have sw4 : IntKind.i64.wrap (id - (f : Int)) = id - (f : Int) := IntWalk.i64_in _ (by omega)
              have tsz : ((s : Int) == 0) = false := by rw [beq_eq_false_iff_ne]; omega
              by_cases hc3 : (id - f).tmod s = 0
              · have tc3 : ((id - (f : Int)) % (s : Int) == 0) = true := by rw [beq_iff_eq, ← Int.tmod_eq_emod_of_nonneg (by omega)]; exact hc3
                have H0 := Lib.hid hA
                clear hA
                go_wp2_with fail
                all_goals have hA := H0.out
                all_goals try (exfalso; omega)
                all_goals first
                  | (have HCD : Hid (k1 = 0) := HY.out ⟨by omega, by omega, by omega⟩ (.inl hA))
                  | (have HCD : Hid (k1 = 1) := HBD.out (by omega))
                all_goals clear HY HNO HBD HIR HOR hA
                all_goals
                  go_region_held3 (fun w' => w'.cell? ⟨b, of + k * 3 + 1, none⟩ = some (.int .i64 id) ∧ w'.cell? ⟨b, of + k * 3 + 2, none⟩ = some (.int .i64 at_))
                    (first | exact ⟨e1, e2⟩ | exact HC.out _ (h5.old (by simp)))
                    (first
                      | (go_at_call 10; refine (HS.out _ HTT.out.drew).mono ?_; rw [HCD.out]; rintro e w5 ⟨rfl, h5⟩)
                      | (go_at_call 11; refine (wlen_any h5).mono ?_; rw [hK200.out]; rintro e w6 ⟨rfl, rfl⟩))
                  have H5 := Lib.hid h5
                  clear h5 e1 e2
                  go_wp2_with fail
                  go_roundw
                  case rel =>
                    refine ⟨_, _, _, _, _, _, _, _, _, _, _, _, _, _, _, _, _, _, _, _, _, _, _, _, _, _, _, _, _, _, _, _, _, _, _, _, _, _, _, _, _, _, _, _, _, _, _, _, _, _, _, _, _, _, _, _, _, _, _, _, _, _, _, _, _, _, _, _, _, _, _, _, _, _, _, _, _, _, _, _, _, _, _, _, _, _, _, _, _, _, _, _, _, _, _, _, _, _, _, _, ?_, rfl⟩
                    exact ⟨k + 1, K, by omega, by go_num, HFM.out, H5.out⟩
                  case measure => simp [intOf]; omega
              · have tc3 : ((id - (f : Int)) % (s : Int) == 0) = false := by rw [beq_eq_false_iff_ne, ← Int.tmod_eq_emod_of_nonneg (by omega)]; exact hc3
                have H0 := Lib.hid hA
                clear hA
                go_wp2_with fail
                all_goals have hA := H0.out
                all_goals try (exfalso; omega)
                all_goals first
                  | (have HCD : Hid (k1 = 0) := HY.out ⟨by omega, by omega, by omega⟩ (.inl hA))
                  | (have HCD : Hid (k1 = 1) := HBD.out (by omega))
                all_goals clear HY HNO HBD HIR HOR hA
                all_goals
                  go_region_held3 (fun w' => w'.cell? ⟨b, of + k * 3 + 1, none⟩ = some (.int .i64 id) ∧ w'.cell? ⟨b, of + k * 3 + 2, none⟩ = some (.int .i64 at_))
                    (first | exact ⟨e1, e2⟩ | exact HC.out _ (h5.old (by simp)))
                    (first
                      | (go_at_call 10; refine (HS.out _ HTT.out.drew).mono ?_; rw [HCD.out]; rintro e w5 ⟨rfl, h5⟩)
                      | (go_at_call 11; refine (wlen_any h5).mono ?_; rw [hK200.out]; rintro e w6 ⟨rfl, rfl⟩))
                  have H5 := Lib.hid h5
                  clear h5 e1 e2
                  go_wp2_with fail
                  go_roundw
                  case rel =>
                    refine ⟨_, _, _, _, _, _, _, _, _, _, _, _, _, _, _, _, _, _, _, _, _, _, _, _, _, _, _, _, _, _, _, _, _, _, _, _, _, _, _, _, _, _, _, _, _, _, _, _, _, _, _, _, _, _, _, _, _, _, _, _, _, _, _, _, _, _, _, _, _, _, _, _, _, _, _, _, _, _, _, _, _, _, _, _, _, _, _, _, _, _, _, _, _, _, _, _, _, _, _, _, ?_, rfl⟩
                    exact ⟨k + 1, K, by omega, by go_num, HFM.out, H5.out⟩
                  case measure => simp [intOf]; omega
            · have tc2 : decide (id < ((f : Int) + 200 * s)) = false := decide_eq_false hc2
              have H0 := Lib.hid hA
              clear hA
              go_wp2_with fail
              all_goals have hA := H0.out
              all_goals try (exfalso; omega)
              all_goals first
                | (have HCD : Hid (k1 = 0) := HY.out ⟨by omega, by omega, by omega⟩ (.inl hA))
                | (have HCD : Hid (k1 = 1) := HBD.out (by omega))
              all_goals clear HY HNO HBD HIR HOR hA
              all_goals
                go_region_held3 (fun w' => w'.cell? ⟨b, of + k * 3 + 1, none⟩ = some (.int .i64 id) ∧ w'.cell? ⟨b, of + k * 3 + 2, none⟩ = some (.int .i64 at_))
                  (first | exact ⟨e1, e2⟩ | exact HC.out _ (h5.old (by simp)))
                  (first
                    | (go_at_call 10; refine (HS.out _ HTT.out.drew).mono ?_; rw [HCD.out]; rintro e w5 ⟨rfl, h5⟩)
                    | (go_at_call 11; refine (wlen_any h5).mono ?_; rw [hK200.out]; rintro e w6 ⟨rfl, rfl⟩))
                have H5 := Lib.hid h5
                clear h5 e1 e2
                go_wp2_with fail
                go_roundw
                case rel =>
                  refine ⟨_, _, _, _, _, _, _, _, _, _, _, _, _, _, _, _, _, _, _, _, _, _, _, _, _, _, _, _, _, _, _, _, _, _, _, _, _, _, _, _, _, _, _, _, _, _, _, _, _, _, _, _, _, _, _, _, _, _, _, _, _, _, _, _, _, _, _, _, _, _, _, _, _, _, _, _, _, _, _, _, _, _, _, _, _, _, _, _, _, _, _, _, _, _, _, _, _, _, _, _, ?_, rfl⟩
                  exact ⟨k + 1, K, by omega, by go_num, HFM.out, H5.out⟩
                case measure => simp [intOf]; omega
          by_cases hB : id = 900001
          · have tA : (id == 900000) = false := by rw [beq_eq_false_iff_ne]; exact hA
            have tB : (id == 900001) = true := by rw [beq_iff_eq]; exact hB
            have hc1 : (f : Int) + 2 * s ≤ id := by omega
            have tc1 : decide (((f : Int) + 2 * s) ≤ id) = true := decide_eq_true hc1
            by_cases hc2 : id < (f : Int) + 200 * s
            · have tc2 : decide (id < ((f : Int) + 200 * s)) = true := decide_eq_true hc2
              have sw4 : IntKind.i64.wrap (id - (f : Int)) = id - (f : Int) := IntWalk.i64_in _ (by omega)
              have tsz : ((s : Int) == 0) = false := by rw [beq_eq_false_iff_ne]; omega
              by_cases hc3 : (id - f).tmod s = 0
              · have tc3 : ((id - (f : Int)) % (s : Int) == 0) = true := by rw [beq_iff_eq, ← Int.tmod_eq_emod_of_nonneg (by omega)]; exact hc3
                have H0 := Lib.hid hB
                clear hB
                go_wp2_with fail
                all_goals have hB := H0.out
                all_goals try (exfalso; omega)
                all_goals first
                  | (have HCD : Hid (k1 = 0) := HY.out ⟨by omega, by omega, by omega⟩ (.inr (.inl hB)))
                  | (have HCD : Hid (k1 = 1) := HBD.out (by omega))
                all_goals clear HY HNO HBD HIR HOR hB
                all_goals
                  go_region_held3 (fun w' => w'.cell? ⟨b, of + k * 3 + 1, none⟩ = some (.int .i64 id) ∧ w'.cell? ⟨b, of + k * 3 + 2, none⟩ = some (.int .i64 at_))
                    (first | exact ⟨e1, e2⟩ | exact HC.out _ (h5.old (by simp)))
                    (first
                      | (go_at_call 10; refine (HS.out _ HTT.out.drew).mono ?_; rw [HCD.out]; rintro e w5 ⟨rfl, h5⟩)
                      | (go_at_call 11; refine (wlen_any h5).mono ?_; rw [hK200.out]; rintro e w6 ⟨rfl, rfl⟩))
                  have H5 := Lib.hid h5
                  clear h5 e1 e2
                  go_wp2_with fail
                  go_roundw
                  case rel =>
                    refine ⟨_, _, _, _, _, _, _, _, _, _, _, _, _, _, _, _, _, _, _, _, _, _, _, _, _, _, _, _, _, _, _, _, _, _, _, _, _, _, _, _, _, _, _, _, _, _, _, _, _, _, _, _, _, _, _, _, _, _, _, _, _, _, _, _, _, _, _, _, _, _, _, _, _, _, _, _, _, _, _, _, _, _, _, _, _, _, _, _, _, _, _, _, _, _, _, _, _, _, _, _, ?_, rfl⟩
                    exact ⟨k + 1, K, by omega, by go_num, HFM.out, H5.out⟩
                  case measure => simp [intOf]; omega
              · have tc3 : ((id - (f : Int)) % (s : Int) == 0) = false := by rw [beq_eq_false_iff_ne, ← Int.tmod_eq_emod_of_nonneg (by omega)]; exact hc3
                have H0 := Lib.hid hB
                clear hB
                go_wp2_with fail
                all_goals have hB := H0.out
                all_goals try (exfalso; omega)
                all_goals first
                  | (have HCD : Hid (k1 = 0) := HY.out ⟨by omega, by omega, by omega⟩ (.inr (.inl hB)))
                  | (have HCD : Hid (k1 = 1) := HBD.out (by omega))
                all_goals clear HY HNO HBD HIR HOR hB
                all_goals
                  go_region_held3 (fun w' => w'.cell? ⟨b, of + k * 3 + 1, none⟩ = some (.int .i64 id) ∧ w'.cell? ⟨b, of + k * 3 + 2, none⟩ = some (.int .i64 at_))
                    (first | exact ⟨e1, e2⟩ | exact HC.out _ (h5.old (by simp)))
                    (first
                      | (go_at_call 10; refine (HS.out _ HTT.out.drew).mono ?_; rw [HCD.out]; rintro e w5 ⟨rfl, h5⟩)
                      | (go_at_call 11; refine (wlen_any h5).mono ?_; rw [hK200.out]; rintro e w6 ⟨rfl, rfl⟩))
                  have H5 := Lib.hid h5
                  clear h5 e1 e2
                  go_wp2_with fail
                  go_roundw
                  case rel =>
                    refine ⟨_, _, _, _, _, _, _, _, _, _, _, _, _, _, _, _, _, _, _, _, _, _, _, _, _, _, _, _, _, _, _, _, _, _, _, _, _, _, _, _, _, _, _, _, _, _, _, _, _, _, _, _, _, _, _, _, _, _, _, _, _, _, _, _, _, _, _, _, _, _, _, _, _, _, _, _, _, _, _, _, _, _, _, _, _, _, _, _, _, _, _, _, _, _, _, _, _, _, _, _, ?_, rfl⟩
                    exact ⟨k + 1, K, by omega, by go_num, HFM.out, H5.out⟩
                  case measure => simp [intOf]; omega
            · have tc2 : decide (id < ((f : Int) + 200 * s)) = false := decide_eq_false hc2
              have H0 := Lib.hid hB
              clear hB
              go_wp2_with fail
              all_goals have hB := H0.out
              all_goals try (exfalso; omega)
              all_goals first
                | (have HCD : Hid (k1 = 0) := HY.out ⟨by omega, by omega, by omega⟩ (.inr (.inl hB)))
                | (have HCD : Hid (k1 = 1) := HBD.out (by omega))
              all_goals clear HY HNO HBD HIR HOR hB
              all_goals
                go_region_held3 (fun w' => w'.cell? ⟨b, of + k * 3 + 1, none⟩ = some (.int .i64 id) ∧ w'.cell? ⟨b, of + k * 3 + 2, none⟩ = some (.int .i64 at_))
                  (first | exact ⟨e1, e2⟩ | exact HC.out _ (h5.old (by simp)))
                  (first
                    | (go_at_call 10; refine (HS.out _ HTT.out.drew).mono ?_; rw [HCD.out]; rintro e w5 ⟨rfl, h5⟩)
                    | (go_at_call 11; refine (wlen_any h5).mono ?_; rw [hK200.out]; rintro e w6 ⟨rfl, rfl⟩))
                have H5 := Lib.hid h5
                clear h5 e1 e2
                go_wp2_with fail
                go_roundw
                case rel =>
                  refine ⟨_, _, _, _, _, _, _, _, _, _, _, _, _, _, _, _, _, _, _, _, _, _, _, _, _, _, _, _, _, _, _, _, _, _, _, _, _, _, _, _, _, _, _, _, _, _, _, _, _, _, _, _, _, _, _, _, _, _, _, _, _, _, _, _, _, _, _, _, _, _, _, _, _, _, _, _, _, _, _, _, _, _, _, _, _, _, _, _, _, _, _, _, _, _, _, _, _, _, _, _, ?_, rfl⟩
                  exact ⟨k + 1, K, by omega, by go_num, HFM.out, H5.out⟩
                case measure => simp [intOf]; omega
          have tA : (id == 900000) = false := by rw [beq_eq_false_iff_ne]; exact hA
          have tB : (id == 900001) = false := by rw [beq_eq_false_iff_ne]; exact hB
          by_cases hc1 : (f : Int) + 2 * s ≤ id
          · have tc1 : decide (((f : Int) + 2 * s) ≤ id) = true := decide_eq_true hc1
            by_cases hc2 : id < (f : Int) + 200 * s
            · have tc2 : decide (id < ((f : Int) + 200 * s)) = true := decide_eq_true hc2
              have sw4 : IntKind.i64.wrap (id - (f : Int)) = id - (f : Int) := IntWalk.i64_in _ (by omega)
              have tsz : ((s : Int) == 0) = false := by rw [beq_eq_false_iff_ne]; omega
              by_cases hc3 : (id - f).tmod s = 0
              · have tc3 : ((id - (f : Int)) % (s : Int) == 0) = true := by rw [beq_iff_eq, ← Int.tmod_eq_emod_of_nonneg (by omega)]; exact hc3
                go_wp2_with fail
                all_goals try (exfalso; omega)
                all_goals first
                  | (have HCD : Hid (k1 = 0) := HY.out ⟨by omega, by omega, by omega⟩ (HIR.out hc1 hc2 hc3))
                  | (have HCD : Hid (k1 = 1) := HBD.out (by omega))
                all_goals clear HY HNO HBD HIR HOR
                all_goals
                  go_region_held3 (fun w' => w'.cell? ⟨b, of + k * 3 + 1, none⟩ = some (.int .i64 id) ∧ w'.cell? ⟨b, of + k * 3 + 2, none⟩ = some (.int .i64 at_))
                    (first | exact ⟨e1, e2⟩ | exact HC.out _ (h5.old (by simp)))
                    (first
                      | (go_at_call 10; refine (HS.out _ HTT.out.drew).mono ?_; rw [HCD.out]; rintro e w5 ⟨rfl, h5⟩)
                      | (go_at_call 11; refine (wlen_any h5).mono ?_; rw [hK200.out]; rintro e w6 ⟨rfl, rfl⟩))
                  have H5 := Lib.hid h5
                  clear h5 e1 e2
                  go_wp2_with fail
                  go_roundw
                  case rel =>
                    refine ⟨_, _, _, _, _, _, _, _, _, _, _, _, _, _, _, _, _, _, _, _, _, _, _, _, _, _, _, _, _, _, _, _, _, _, _, _, _, _, _, _, _, _, _, _, _, _, _, _, _, _, _, _, _, _, _, _, _, _, _, _, _, _, _, _, _, _, _, _, _, _, _, _, _, _, _, _, _, _, _, _, _, _, _, _, _, _, _, _, _, _, _, _, _, _, _, _, _, _, _, _, ?_, rfl⟩
                    exact ⟨k + 1, K, by omega, by go_num, HFM.out, H5.out⟩
                  case measure => simp [intOf]; omega
              · have tc3 : ((id - (f : Int)) % (s : Int) == 0) = false := by rw [beq_eq_false_iff_ne, ← Int.tmod_eq_emod_of_nonneg (by omega)]; exact hc3
                go_wp2_with fail
                all_goals try (exfalso; omega)
                all_goals first
                  | (have HCD : Hid (k1 = 2) := HNO.out ⟨by omega, by omega, by omega⟩ (HOR.out hA hB (fun h => hc3 h.2.2)))
                  | (have HCD : Hid (k1 = 1) := HBD.out (by omega))
                all_goals clear HY HNO HBD HIR HOR
                all_goals
                  go_region_held3 (fun w' => w'.cell? ⟨b, of + k * 3 + 1, none⟩ = some (.int .i64 id) ∧ w'.cell? ⟨b, of + k * 3 + 2, none⟩ = some (.int .i64 at_))
                    (first | exact ⟨e1, e2⟩ | exact HC.out _ (h5.old (by simp)))
                    (first
                      | (go_at_call 10; refine (HS.out _ HTT.out.drew).mono ?_; rw [HCD.out]; rintro e w5 ⟨rfl, h5⟩)
                      | (go_at_call 11; refine (wlen_any h5).mono ?_; rw [hK200.out]; rintro e w6 ⟨rfl, rfl⟩))
                  have H5 := Lib.hid h5
                  clear h5 e1 e2
                  go_wp2_with fail
                  go_roundw
                  case rel =>
                    refine ⟨_, _, _, _, _, _, _, _, _, _, _, _, _, _, _, _, _, _, _, _, _, _, _, _, _, _, _, _, _, _, _, _, _, _, _, _, _, _, _, _, _, _, _, _, _, _, _, _, _, _, _, _, _, _, _, _, _, _, _, _, _, _, _, _, _, _, _, _, _, _, _, _, _, _, _, _, _, _, _, _, _, _, _, _, _, _, _, _, _, _, _, _, _, _, _, _, _, _, _, _, ?_, rfl⟩
                    exact ⟨k + 1, K, by omega, by go_num, HFM.out, H5.out⟩
                  case measure => simp [intOf]; omega
            · have tc2 : decide (id < ((f : Int) + 200 * s)) = false := decide_eq_false hc2
              go_wp2_with fail
              all_goals try (exfalso; omega)
              all_goals first
                | (have HCD : Hid (k1 = 2) := HNO.out ⟨by omega, by omega, by omega⟩ (HOR.out hA hB (fun h => absurd h.2.1 (by omega))))
                | (have HCD : Hid (k1 = 1) := HBD.out (by omega))
              all_goals clear HY HNO HBD HIR HOR
              all_goals
                go_region_held3 (fun w' => w'.cell? ⟨b, of + k * 3 + 1, none⟩ = some (.int .i64 id) ∧ w'.cell? ⟨b, of + k * 3 + 2, none⟩ = some (.int .i64 at_))
                  (first | exact ⟨e1, e2⟩ | exact HC.out _ (h5.old (by simp)))
                  (first
                    | (go_at_call 10; refine (HS.out _ HTT.out.drew).mono ?_; rw [HCD.out]; rintro e w5 ⟨rfl, h5⟩)
                    | (go_at_call 11; refine (wlen_any h5).mono ?_; rw [hK200.out]; rintro e w6 ⟨rfl, rfl⟩))
                have H5 := Lib.hid h5
                clear h5 e1 e2
                go_wp2_with fail
                go_roundw
                case rel =>
                  refine ⟨_, _, _, _, _, _, _, _, _, _, _, _, _, _, _, _, _, _, _, _, _, _, _, _, _, _, _, _, _, _, _, _, _, _, _, _, _, _, _, _, _, _, _, _, _, _, _, _, _, _, _, _, _, _, _, _, _, _, _, _, _, _, _, _, _, _, _, _, _, _, _, _, _, _, _, _, _, _, _, _, _, _, _, _, _, _, _, _, _, _, _, _, _, _, _, _, _, _, _, _, ?_, rfl⟩
                  exact ⟨k + 1, K, by omega, by go_num, HFM.out, H5.out⟩
                case measure => simp [intOf]; omega
          · have tc1 : decide (((f : Int) + 2 * s) ≤ id) = false := decide_eq_false hc1
            go_wp2_with fail
            all_goals try (exfalso; omega)
            all_goals first
              | (have HCD : Hid (k1 = 2) := HNO.out ⟨by omega, by omega, by omega⟩ (HOR.out hA hB (fun h => absurd h.1 (by omega))))
              | (have HCD : Hid (k1 = 1) := HBD.out (by omega))
            all_goals clear HY HNO HBD HIR HOR
            all_goals
              go_region_held3 (fun w' => w'.cell? ⟨b, of + k * 3 + 1, none⟩ = some (.int .i64 id) ∧ w'.cell? ⟨b, of + k * 3 + 2, none⟩ = some (.int .i64 at_))
                (first | exact ⟨e1, e2⟩ | exact HC.out _ (h5.old (by simp)))
                (first
                  | (go_at_call 10; refine (HS.out _ HTT.out.drew).mono ?_; rw [HCD.out]; rintro e w5 ⟨rfl, h5⟩)
                  | (go_at_call 11; refine (wlen_any h5).mono ?_; rw [hK200.out]; rintro e w6 ⟨rfl, rfl⟩))
              have H5 := Lib.hid h5
              clear h5 e1 e2
              go_wp2_with fail
              go_roundw
              case rel =>
                refine ⟨_, _, _, _, _, _, _, _, _, _, _, _, _, _, _, _, _, _, _, _, _, _, _, _, _, _, _, _, _, _, _, _, _, _, _, _, _, _, _, _, _, _, _, _, _, _, _, _, _, _, _, _, _, _, _, _, _, _, _, _, _, _, _, _, _, _, _, _, _, _, _, _, _, _, _, _, _, _, _, _, _, _, _, _, _, _, _, _, _, _, _, _, _, _, _, _, _, _, _, _, ?_, rfl⟩
                exact ⟨k + 1, K, by omega, by go_num, HFM.out, H5.out⟩
              case measure => simp [intOf]; omega
        · go_wp2_with fail
          go_ret
          exact ⟨rfl, hT.old (by simp)⟩
end Go.Proofs.Ytnjhnchjlecdoaa
