/- What (*odysseyref15.Quota).Admit does: the same. -/
import Derived.Test.YtmkbehdfchjeoaaQD
set_option linter.unusedVariables false
set_option linter.unusedSimpArgs false
set_option linter.unnecessarySimpa false
namespace Go.Proofs.Ytmkbehdfchjeoaa
open Go.RowKit Go.ChangeShapes Go.WideShapes Go.ChangeAt
def cv (c : CS) : List Value := [.int .i64 c.orch, .int .i64 c.p0, .int .i64 c.p1, .int .i64 c.p2, .int .i64 c.p3]
theorem asked_no {c : CS} (h : c.p0 < 0 ∨ c.p1 < 0 ∨ c.p2 < 0 ∨ c.p3 < 0) : allAsked c = false := by
  unfold allAsked leB; simp; omega
theorem asked_yes {c : CS} (h0 : 0 ≤ c.p0) (h1 : 0 ≤ c.p1) (h2 : 0 ≤ c.p2) (h3 : 0 ≤ c.p3) : allAsked c = true := by
  unfold allAsked leB; simp [h0, h1, h2, h3]
theorem has_no {q : QS} {c : CS} (h : q.p0 < c.p0 ∨ q.p1 < c.p1 ∨ q.p2 < c.p2 ∨ q.p3 < c.p3) : allHas q c = false := by
  unfold allHas leB; simp; omega
theorem has_yes {q : QS} {c : CS} (h0 : c.p0 ≤ q.p0) (h1 : c.p1 ≤ q.p1) (h2 : c.p2 ≤ q.p2) (h3 : c.p3 ≤ q.p3) : allHas q c = true := by
  unfold allHas leB; simp [h0, h1, h2, h3]
theorem codeA_1 {q : QS} {c : CS} (h : c.orch < 0 ∨ allAsked c = false) : codeA q c = 1 := by
  unfold codeA; rcases h with h | h
  · simp [h]
  · simp [h]
theorem codeA_150 {q : QS} {c : CS} (h0 : ¬ c.orch < 0) (ha : allAsked c = true) (h1 : q.most ≤ q.live) : codeA q c = 150 := by simp [codeA, h0, ha, h1]
set_option maxRecDepth 100000 in
set_option maxHeartbeats 3200000 in
theorem radmit_any (g : Nat) (q : QS) (c : CS) (w : World) (hq : At w g 81 q.vs) (hok : QOk q) :
    Calls Try.prog 21 #[.pointer (some ⟨g, 0, none⟩), .agg #[.int .i64 c.orch, .int .i64 c.p0, .int .i64 c.p1, .int .i64 c.p2, .int .i64 c.p3]] w (AdmitPost 81 g q c w) := by
  have HQ := Lib.hid hq
  have HOK := Lib.hid hok
  have hgl := hq.lt
  clear hq hok
  by_cases h0 : c.orch < 0
  · have HK : Hid (codeA q c = 1) := codeA_1 (.inl h0)
    go_enter Try.func21, Try.ntmps21
    go_wp2
    go_ret
    exact admit_no HK.out (by decide) HQ.out ((Below.refl _ _).alloc (Nat.le_refl _) _)
  · go_enter Try.func21, Try.ntmps21
    go_wp2_with fail
    go_loopw [5] (fun i wr => ∃ k : Nat, k ≤ 4 ∧ i = .int .i64 k ∧ ((0 < k → 0 ≤ c.p0) ∧ (1 < k → 0 ≤ c.p1) ∧ (2 < k → 0 ≤ c.p2) ∧ (3 < k → 0 ≤ c.p3)) ∧ At wr w.heap.size 42 (cv c) ∧ At wr g 81 q.vs ∧ Below w.heap.size w wr) (fun i _ => 4 - (intOf i).toNat)
    case atStart => exact ⟨0, by omega, rfl, ⟨by omega, by omega, by omega, by omega⟩, At.new w 42 _, HQ.out.alloc _, (Below.refl _ _).alloc (Nat.le_refl _) _⟩
    case round =>
      obtain ⟨k, hk, rfl, hpos, hA, hQ, hB⟩ := hrel
      have HP := Lib.hid hpos
      have HC1 := Lib.hid hA
      have HQ1 := Lib.hid hQ
      have HB1 := Lib.hid hB
      clear hpos hA hQ hB
      have hcase : k = 0 ∨ k = 1 ∨ k = 2 ∨ k = 3 ∨ k = 4 := by omega
      rcases hcase with rfl | rfl | rfl | rfl | rfl
      · have cc := HC1.out.cell 1
        unfold cv at cc
        by_cases hn : c.p0 < 0
        · have HK : Hid (codeA q c = 1) := codeA_1 (.inr (asked_no (by omega)))
          go_wp2
          go_ret
          exact admit_no HK.out (by decide) HQ.out HB1.out
        · go_wp2_with fail
          clear cc
          go_roundw
          case rel => exact ⟨1, by omega, by go_num, by have := HP.out; exact ⟨by omega, by omega, by omega, by omega⟩, HC1.out, HQ1.out, HB1.out⟩
          case measure => simp [intOf]
      · have cc := HC1.out.cell 2
        unfold cv at cc
        by_cases hn : c.p1 < 0
        · have HK : Hid (codeA q c = 1) := codeA_1 (.inr (asked_no (by omega)))
          go_wp2
          go_ret
          exact admit_no HK.out (by decide) HQ.out HB1.out
        · go_wp2_with fail
          clear cc
          go_roundw
          case rel => exact ⟨2, by omega, by go_num, by have := HP.out; exact ⟨by omega, by omega, by omega, by omega⟩, HC1.out, HQ1.out, HB1.out⟩
          case measure => simp [intOf]
      · have cc := HC1.out.cell 3
        unfold cv at cc
        by_cases hn : c.p2 < 0
        · have HK : Hid (codeA q c = 1) := codeA_1 (.inr (asked_no (by omega)))
          go_wp2
          go_ret
          exact admit_no HK.out (by decide) HQ.out HB1.out
        · go_wp2_with fail
          clear cc
          go_roundw
          case rel => exact ⟨3, by omega, by go_num, by have := HP.out; exact ⟨by omega, by omega, by omega, by omega⟩, HC1.out, HQ1.out, HB1.out⟩
          case measure => simp [intOf]
      · have cc := HC1.out.cell 4
        unfold cv at cc
        by_cases hn : c.p3 < 0
        · have HK : Hid (codeA q c = 1) := codeA_1 (.inr (asked_no (by omega)))
          go_wp2
          go_ret
          exact admit_no HK.out (by decide) HQ.out HB1.out
        · go_wp2_with fail
          clear cc
          go_roundw
          case rel => exact ⟨4, by omega, by go_num, by have := HP.out; exact ⟨by omega, by omega, by omega, by omega⟩, HC1.out, HQ1.out, HB1.out⟩
          case measure => simp [intOf]
      · have hpos4 := HP.out
        have hc0 := hpos4.1 (by omega)
        have hc1 := hpos4.2.1 (by omega)
        have hc2 := hpos4.2.2.1 (by omega)
        have hc3 := hpos4.2.2.2 (by omega)
        have HASK : Hid (allAsked c = true) := asked_yes hc0 hc1 hc2 hc3
        clear hpos4 HP
        have c0 := HQ1.out.cell 0
        have c1 := HQ1.out.cell 1
        unfold QS.vs at c0 c1
        by_cases h1 : q.most ≤ q.live
        · have HK : Hid (codeA q c = 150) := codeA_150 (by omega) HASK.out h1
          go_wp2_with fail
          go_quiet (fail)
          go_wp2
          go_ret
          exact admit_no HK.out (by decide) HQ.out (below_drewN HB1.out _)
        · go_wp2_with fail
          go_quiet (fail)
          clear c0 c1
          have HB2 := Lib.hid (below_drewN HB1.out nq)
          replace HC1 := Lib.hid (HC1.out.drewN nq)
          replace HQ1 := Lib.hid (HQ1.out.drewN nq)
          clear HB1
          generalize wr.drewN nq = w2 at *
          have d0 := HC1.out.cell 0
          have d2 := HQ1.out.cell 2
          unfold QS.vs at d2
          unfold cv at d0
          by_cases h2 : q.orch < c.orch
          · have HK : Hid (codeA q c = 151) := codeA_151 (by omega) HASK.out (by omega) h2
            go_wp2_with fail
            go_quiet (fail)
            go_wp2
            go_ret
            exact admit_no HK.out (by decide) HQ.out (below_drewN HB2.out _)
          · go_wp2_with fail
            go_quiet (fail)
            clear d0 d2
            replace HB2 := Lib.hid (below_drewN HB2.out nq)
            replace HC1 := Lib.hid (HC1.out.drewN nq)
            replace HQ1 := Lib.hid (HQ1.out.drewN nq)
            generalize w2.drewN nq = w3 at *
            go_wp2_with fail
            go_loopw [6] (fun i wr => ∃ k : Nat, k ≤ 4 ∧ i = .int .i64 k ∧ ((0 < k → c.p0 ≤ q.p0) ∧ (1 < k → c.p1 ≤ q.p1) ∧ (2 < k → c.p2 ≤ q.p2) ∧ (3 < k → c.p3 ≤ q.p3)) ∧ At wr w.heap.size 42 (cv c) ∧ At wr g 81 q.vs ∧ Below w.heap.size w wr) (fun i _ => 4 - (intOf i).toNat)
            case atStart => exact ⟨0, by omega, rfl, ⟨by omega, by omega, by omega, by omega⟩, HC1.out, HQ1.out, HB2.out⟩
            case round =>
              obtain ⟨k, hk, rfl, hpos, hA, hQ, hB⟩ := hrel
              have HP := Lib.hid hpos
              replace HC1 := Lib.hid hA
              replace HQ1 := Lib.hid hQ
              replace HB2 := Lib.hid hB
              clear hpos hA hQ hB
              have hcase : k = 0 ∨ k = 1 ∨ k = 2 ∨ k = 3 ∨ k = 4 := by omega
              rcases hcase with rfl | rfl | rfl | rfl | rfl
              · have cc := HC1.out.cell 1
                have cq := HQ1.out.cell 3
                unfold cv at cc
                unfold QS.vs at cq
                by_cases hn : q.p0 < c.p0
                · have HK : Hid (codeA q c = 152) := codeA_152 (by omega) HASK.out (by omega) (by omega) (has_no (by omega))
                  go_wp2_with fail
                  go_quiet (fail)
                  go_wp2
                  go_ret
                  exact admit_no HK.out (by decide) HQ.out (below_drewN HB2.out _)
                · go_wp2_with fail
                  go_quiet (fail)
                  go_wp2_with fail
                  clear cc cq
                  go_roundw
                  case rel => exact ⟨1, by omega, by go_num, by have := HP.out; exact ⟨by omega, by omega, by omega, by omega⟩, HC1.out.drewN _, HQ1.out.drewN _, below_drewN HB2.out _⟩
                  case measure => simp [intOf]
              · have cc := HC1.out.cell 2
                have cq := HQ1.out.cell 4
                unfold cv at cc
                unfold QS.vs at cq
                by_cases hn : q.p1 < c.p1
                · have HK : Hid (codeA q c = 152) := codeA_152 (by omega) HASK.out (by omega) (by omega) (has_no (by omega))
                  go_wp2_with fail
                  go_quiet (fail)
                  go_wp2
                  go_ret
                  exact admit_no HK.out (by decide) HQ.out (below_drewN HB2.out _)
                · go_wp2_with fail
                  go_quiet (fail)
                  go_wp2_with fail
                  clear cc cq
                  go_roundw
                  case rel => exact ⟨2, by omega, by go_num, by have := HP.out; exact ⟨by omega, by omega, by omega, by omega⟩, HC1.out.drewN _, HQ1.out.drewN _, below_drewN HB2.out _⟩
                  case measure => simp [intOf]
              · have cc := HC1.out.cell 3
                have cq := HQ1.out.cell 5
                unfold cv at cc
                unfold QS.vs at cq
                by_cases hn : q.p2 < c.p2
                · have HK : Hid (codeA q c = 152) := codeA_152 (by omega) HASK.out (by omega) (by omega) (has_no (by omega))
                  go_wp2_with fail
                  go_quiet (fail)
                  go_wp2
                  go_ret
                  exact admit_no HK.out (by decide) HQ.out (below_drewN HB2.out _)
                · go_wp2_with fail
                  go_quiet (fail)
                  go_wp2_with fail
                  clear cc cq
                  go_roundw
                  case rel => exact ⟨3, by omega, by go_num, by have := HP.out; exact ⟨by omega, by omega, by omega, by omega⟩, HC1.out.drewN _, HQ1.out.drewN _, below_drewN HB2.out _⟩
                  case measure => simp [intOf]
              · have cc := HC1.out.cell 4
                have cq := HQ1.out.cell 6
                unfold cv at cc
                unfold QS.vs at cq
                by_cases hn : q.p3 < c.p3
                · have HK : Hid (codeA q c = 152) := codeA_152 (by omega) HASK.out (by omega) (by omega) (has_no (by omega))
                  go_wp2_with fail
                  go_quiet (fail)
                  go_wp2
                  go_ret
                  exact admit_no HK.out (by decide) HQ.out (below_drewN HB2.out _)
                · go_wp2_with fail
                  go_quiet (fail)
                  go_wp2_with fail
                  clear cc cq
                  go_roundw
                  case rel => exact ⟨4, by omega, by go_num, by have := HP.out; exact ⟨by omega, by omega, by omega, by omega⟩, HC1.out.drewN _, HQ1.out.drewN _, below_drewN HB2.out _⟩
                  case measure => simp [intOf]
              · have hpos4 := HP.out
                have hle0 := hpos4.1 (by omega)
                have hle1 := hpos4.2.1 (by omega)
                have hle2 := hpos4.2.2.1 (by omega)
                have hle3 := hpos4.2.2.2 (by omega)
                have HK : Hid (codeA q c = 0) := codeA_0 (by omega) HASK.out (by omega) (by omega) (has_yes hle0 hle1 hle2 hle3)
                have HNX : Hid (nextA q c = less q c) := by show _ = _; unfold nextA; rw [if_pos HK.out]
                clear hpos4 HP
                have hqok := HOK.out
                unfold QOk at hqok
                obtain ⟨_, hm12, hl0, hlm, _, hor, _, hp0, _, hp1, _, hp2, _, hp3⟩ := hqok
                have hl12 : q.live ≤ 12 := by omega
                have hco : 0 ≤ c.orch := by omega
                have c1 := HQ1.out.cell 1
                have f1 := HQ1.out.free 1
                unfold QS.vs at c1
                go_wp2_with fail
                clear c1 f1
                have HCG : Hid (Chg g w (wr.setCell ⟨g, 1, none⟩ (.int .i64 (q.live + 1)))) := (Chg.of_below HB2.out).set 1 _
                have HA : Hid (At (wr.setCell ⟨g, 1, none⟩ (.int .i64 (q.live + 1))) g 81 (q.vs.set 1 (.int .i64 (q.live + 1)))) := HQ1.out.set 1 _
                have HC5 := Lib.hid (HC1.out.far (p := ⟨g, 1, none⟩) (by show w.heap.size ≠ g; omega) (.int .i64 (q.live + 1)))
                generalize wr.setCell ⟨g, 1, none⟩ (.int .i64 (q.live + 1)) = w5 at *
                clear HB2 HC1 HQ1
                go_cut [] (fun wx => At wx g 81 ((q.vs.set 1 (.int .i64 (q.live + 1))).set 2 (.int .i64 (q.orch - c.orch))) ∧ Chg g w wx ∧ At wx w.heap.size 42 (cv c))
                case first =>
                  have e0 := HC5.out.cell 0
                  have e2 := HA.out.cell 2
                  have f2 := HA.out.free 2
                  unfold QS.vs at e2
                  unfold cv at e0
                  go_region
                  all_goals
                    go_wp2_with fail
                    go_meet
                    exact ⟨(HA.out.set 2 _).drewN 1, (HCG.out.set 2 _).drew, (HC5.out.far (p := ⟨g, 2, none⟩) (by show w.heap.size ≠ g; omega) _).drewN 1⟩
                case rest =>
                  obtain ⟨hA6, hG6, hC6⟩ := hcut
                  have HA6 := Lib.hid hA6
                  have HG6 := Lib.hid hG6
                  have HC6 := Lib.hid hC6
                  clear hA6 hG6 hC6 HA HCG HC5
                  go_wp2_with fail
                  go_loopw [7] (fun i wr => ∃ k : Nat, k ≤ 4 ∧ i = .int .i64 k ∧ At wr g 81 [.int .i64 q.most, .int .i64 (q.live + 1), .int .i64 (q.orch - c.orch), .int .i64 (if 0 < k then q.p0 - c.p0 else q.p0), .int .i64 (if 1 < k then q.p1 - c.p1 else q.p1), .int .i64 (if 2 < k then q.p2 - c.p2 else q.p2), .int .i64 (if 3 < k then q.p3 - c.p3 else q.p3)] ∧ At wr w.heap.size 42 (cv c) ∧ Chg g w wr) (fun i _ => 4 - (intOf i).toNat)
                  case atStart => exact ⟨0, by omega, rfl, HA6.out, HC6.out, HG6.out⟩
                  case round =>
                    obtain ⟨k, hk, rfl, hAK, hCK, hGK⟩ := hrel
                    have HAK := Lib.hid hAK
                    have HCK := Lib.hid hCK
                    have HGK := Lib.hid hGK
                    clear hAK hGK hCK
                    have hcase : k = 0 ∨ k = 1 ∨ k = 2 ∨ k = 3 ∨ k = 4 := by omega
                    rcases hcase with rfl | rfl | rfl | rfl | rfl
                    · have cc := HCK.out.cell 1
                      have cq := HAK.out.cell 3
                      have fq := HAK.out.free 3
                      unfold cv at cc
                      go_wp2_with fail
                      go_region
                      all_goals
                        go_wp2_with fail
                        clear cc cq fq
                        go_roundw
                        case rel => exact ⟨1, by omega, by go_num, (HAK.out.set 3 _).drewN 1, (HCK.out.far (by show w.heap.size ≠ g; omega) _).drewN 1, (HGK.out.set 3 _).drew⟩
                        case measure => simp [intOf]
                    · have cc := HCK.out.cell 2
                      have cq := HAK.out.cell 4
                      have fq := HAK.out.free 4
                      unfold cv at cc
                      go_wp2_with fail
                      go_region
                      all_goals
                        go_wp2_with fail
                        clear cc cq fq
                        go_roundw
                        case rel => exact ⟨2, by omega, by go_num, (HAK.out.set 4 _).drewN 1, (HCK.out.far (by show w.heap.size ≠ g; omega) _).drewN 1, (HGK.out.set 4 _).drew⟩
                        case measure => simp [intOf]
                    · have cc := HCK.out.cell 3
                      have cq := HAK.out.cell 5
                      have fq := HAK.out.free 5
                      unfold cv at cc
                      go_wp2_with fail
                      go_region
                      all_goals
                        go_wp2_with fail
                        clear cc cq fq
                        go_roundw
                        case rel => exact ⟨3, by omega, by go_num, (HAK.out.set 5 _).drewN 1, (HCK.out.far (by show w.heap.size ≠ g; omega) _).drewN 1, (HGK.out.set 5 _).drew⟩
                        case measure => simp [intOf]
                    · have cc := HCK.out.cell 4
                      have cq := HAK.out.cell 6
                      have fq := HAK.out.free 6
                      unfold cv at cc
                      go_wp2_with fail
                      go_region
                      all_goals
                        go_wp2_with fail
                        clear cc cq fq
                        go_roundw
                        case rel => exact ⟨4, by omega, by go_num, (HAK.out.set 6 _).drewN 1, (HCK.out.far (by show w.heap.size ≠ g; omega) _).drewN 1, (HGK.out.set 6 _).drew⟩
                        case measure => simp [intOf]
                    · go_wp2
                      go_ret
                      refine ⟨by rw [HK.out]; rfl, ?_, HGK.out⟩
                      rw [HNX.out]
                      exact HAK.out
end Go.Proofs.Ytmkbehdfchjeoaa
