/- What (*Quota).Admit, Close and Left do. -/
import Derived.Test.YtmkbehdfchjeoaaQA
set_option linter.unusedVariables false
set_option linter.unusedSimpArgs false
set_option linter.unnecessarySimpa false
namespace Go.Proofs.Ytmkbehdfchjeoaa
open Go.RowKit Go.ChangeShapes Go.WideShapes Go.ChangeAt
def QOk (q : QS) : Prop := 1 ≤ q.most ∧ q.most ≤ 12 ∧ 0 ≤ q.live ∧ q.live ≤ q.most ∧ 0 ≤ q.orch ∧ q.orch ≤ 100000 ∧ 0 ≤ q.p0 ∧ q.p0 ≤ 100000 ∧ 0 ≤ q.p1 ∧ q.p1 ≤ 100000 ∧ 0 ≤ q.p2 ∧ q.p2 ≤ 100000 ∧ 0 ≤ q.p3 ∧ q.p3 ≤ 100000
def less (q : QS) (c : CS) : QS := ⟨q.most, q.live + 1, q.orch - c.orch, q.p0 - c.p0, q.p1 - c.p1, q.p2 - c.p2, q.p3 - c.p3⟩
def codeA (q : QS) (c : CS) : Int :=
  if c.orch < 0 then 1 else if allAsked c = false then 1 else if q.most ≤ q.live then 150 else if q.orch < c.orch then 151 else if allHas q c = false then 152 else 0
theorem codeA_151 {q : QS} {c : CS} (h0 : ¬ c.orch < 0) (ha : allAsked c = true) (h1 : ¬ q.most ≤ q.live) (h : q.orch < c.orch) : codeA q c = 151 := by simp [codeA, h0, ha, h1, h]
theorem codeA_152 {q : QS} {c : CS} (h0 : ¬ c.orch < 0) (ha : allAsked c = true) (h1 : ¬ q.most ≤ q.live) (h : ¬ q.orch < c.orch) (hb : allHas q c = false) : codeA q c = 152 := by simp [codeA, h0, ha, h1, h, hb]
theorem codeA_0 {q : QS} {c : CS} (h0 : ¬ c.orch < 0) (ha : allAsked c = true) (h1 : ¬ q.most ≤ q.live) (h : ¬ q.orch < c.orch) (hb : allHas q c = true) : codeA q c = 0 := by simp [codeA, h0, ha, h1, h, hb]
def nextA (q : QS) (c : CS) : QS := if codeA q c = 0 then less q c else q
def AdmitPost (t g : Nat) (q : QS) (c : CS) (w : World) (e : Ending) (w' : World) : Prop := e = .returned (.int .i64 (codeA q c)) ∧ At w' g t (nextA q c).vs ∧ Chg g w w'
theorem admit_no {t g : Nat} {q : QS} {c : CS} {w w' : World} {k : Int} (hk : codeA q c = k) (h0 : k ≠ 0) (ha : At w g t q.vs) (hb : Below w.heap.size w w') : AdmitPost t g q c w (.returned (.int .i64 k)) w' := by
  refine ⟨by rw [hk], ?_, .of_below hb⟩
  unfold nextA; rw [if_neg (by rw [hk]; exact h0)]; exact ha.keep hb
set_option maxHeartbeats 3200000 in
theorem admit_any (g : Nat) (q : QS) (c : CS) (w : World) (hq : At w g 79 q.vs) (hok : QOk q) :
    Calls Try.prog 20 #[.pointer (some ⟨g, 0, none⟩), .agg #[.int .i64 c.orch, .int .i64 c.p0, .int .i64 c.p1, .int .i64 c.p2, .int .i64 c.p3]] w (AdmitPost 79 g q c w) := by
  have HQ := Lib.hid hq
  have HOK := Lib.hid hok
  have hgl := hq.lt
  clear hq hok
  by_cases h0 : c.orch < 0
  · have HK : Hid (codeA q c = 1) := by show _ = _; simp [codeA, h0]
    go_enter Try.func20, Try.ntmps20
    go_wp2
    go_ret
    exact admit_no HK.out (by decide) HQ.out ((Below.refl _ _).alloc (Nat.le_refl _) _)
  · have hq1 : Hid (At (w.alloc (.cells #[.int .i64 c.orch, .int .i64 c.p0, .int .i64 c.p1, .int .i64 c.p2, .int .i64 c.p3] 42)) g 79 q.vs) := HQ.out.alloc _
    go_enter Try.func20, Try.ntmps20
    go_wp2_with fail
    refine (allAsked_any g q c _ hq1).mono ?_
    rintro e w1 ⟨rfl, hb1⟩
    have HC : Hid (At (w.alloc (.cells #[.int .i64 c.orch, .int .i64 c.p0, .int .i64 c.p1, .int .i64 c.p2, .int .i64 c.p3] 42)) w.heap.size 42 [.int .i64 c.orch, .int .i64 c.p0, .int .i64 c.p1, .int .i64 c.p2, .int .i64 c.p3]) := At.new w 42 _
    have HB1 : Hid (Below w.heap.size w w1) := below_step ((Below.refl _ _).alloc (Nat.le_refl _) _) hb1
    have HC1 := Lib.hid (HC.out.keep hb1)
    have HQ1 := Lib.hid (hq1.out.keep hb1)
    clear hb1 hq1 HC
    cases hask : allAsked c with
    | false =>
      have HK : Hid (codeA q c = 1) := by show _ = _; simp [codeA, hask]
      clear hask
      go_wp2
      go_ret
      exact admit_no HK.out (by decide) HQ.out HB1.out
    | true =>
      have HASK := Lib.hid hask
      clear hask
      have c0 := HQ1.out.cell 0
      have c1 := HQ1.out.cell 1
      unfold QS.vs at c0 c1
      by_cases h1 : q.most ≤ q.live
      · have HK : Hid (codeA q c = 150) := by show _ = _; simp [codeA, h0, HASK.out, h1]
        go_wp2_with fail
        go_quiet (fail)
        go_wp2
        go_ret
        exact admit_no HK.out (by decide) HQ.out (below_drewN HB1.out _)
      · go_wp2_with fail
        go_quiet (fail)
        clear c0 c1
        have HB2 := Lib.hid (below_drewN HB1.out nq)
        replace HC1 := Lib.hid (HC1.out.drewN nq)
        replace HQ1 := Lib.hid (HQ1.out.drewN nq)
        clear HB1
        generalize w1.drewN nq = w2 at *
        have d0 := HC1.out.cell 0
        have d2 := HQ1.out.cell 2
        unfold QS.vs at d2
        cases hho : leB c.orch q.orch with
        | false =>
          have HK : Hid (codeA q c = 151) := by
            have : q.orch < c.orch := by unfold leB at hho; have := of_decide_eq_false hho; omega
            exact codeA_151 (by omega) HASK.out (by omega) this
          go_wp2_with fail
          have hcall : ∀ m, Calls Try.prog 38 #[.pointer (some ⟨g, 2, none⟩), .int .i64 c.orch] (w2.drewN m) fun e w' => e = .returned (.bool false) ∧ w' = w2.drewN m := fun m => by
            have h := has_any g 2 q.orch c.orch (w2.drewN m) d2
            rw [hho] at h
            exact h
          have HCALL := Lib.hid hcall
          clear hcall hho d2
          go_quiet ((go_at_call 38; exact Calls.quiet_of_same (HCALL.out _)))
          go_wp2
          go_ret
          exact admit_no HK.out (by decide) HQ.out (below_drewN HB2.out _)
        | true =>
          have hle : c.orch ≤ q.orch := of_decide_eq_true hho
          go_wp2_with fail
          have hcall : ∀ m, Calls Try.prog 38 #[.pointer (some ⟨g, 2, none⟩), .int .i64 c.orch] (w2.drewN m) fun e w' => e = .returned (.bool true) ∧ w' = w2.drewN m := fun m => by
            have h := has_any g 2 q.orch c.orch (w2.drewN m) d2
            rw [hho] at h
            exact h
          have HCALL := Lib.hid hcall
          clear hcall hho d2
          go_quiet ((go_at_call 38; exact Calls.quiet_of_same (HCALL.out _)))
          clear d0 HCALL
          replace HB2 := Lib.hid (below_drewN HB2.out nq)
          replace HC1 := Lib.hid (HC1.out.drewN nq)
          replace HQ1 := Lib.hid (HQ1.out.drewN nq)
          generalize w2.drewN nq = w3 at *
          have d6 := HC1.out
          have d0 := d6.cell 0
          have d1 := d6.cell 1
          have d2 := d6.cell 2
          have d3 := d6.cell 3
          have d4 := d6.cell 4
          clear d6
          go_wp2_with fail
          clear d0 d1 d2 d3 d4
          refine (allHas_any g q c _ HQ1.out).mono ?_
          rintro e w4 ⟨rfl, hb4⟩
          have HB4 : Hid (Below w.heap.size w w4) := below_step HB2.out hb4
          have HC4 := Lib.hid (HC1.out.keep hb4)
          have HQ4 := Lib.hid (HQ1.out.keep hb4)
          clear hb4 HB2 HC1 HQ1
          cases hall : allHas q c with
          | false =>
            have HK : Hid (codeA q c = 152) := codeA_152 (by omega) HASK.out (by omega) (by omega) hall
            clear hall
            go_wp2
            go_ret
            exact admit_no HK.out (by decide) HQ.out HB4.out
          | true =>
            have HK : Hid (codeA q c = 0) := codeA_0 (by omega) HASK.out (by omega) (by omega) hall
            have HALL := Lib.hid hall
            have HNX : Hid (nextA q c = less q c) := by show _ = _; unfold nextA; rw [if_pos HK.out]
            clear hall
            have hlm : q.live ≤ 12 := by have := HOK.out; unfold QOk at this; omega
            have hl0 : 0 ≤ q.live := by have := HOK.out; unfold QOk at this; omega
            have hor : q.orch ≤ 100000 := by have := HOK.out; unfold QOk at this; omega
            have hc0 : 0 ≤ c.orch := by omega
            have c1 := HQ4.out.cell 1
            have f1 := HQ4.out.free 1
            unfold QS.vs at c1
            go_wp2_with fail
            clear c1 f1
            have HCG : Hid (Chg g w (w4.setCell ⟨g, 1, none⟩ (.int .i64 (q.live + 1)))) := (Chg.of_below HB4.out).set 1 _
            have HA : Hid (At (w4.setCell ⟨g, 1, none⟩ (.int .i64 (q.live + 1))) g 79 (q.vs.set 1 (.int .i64 (q.live + 1)))) := HQ4.out.set 1 _
            have HC5 := Lib.hid (HC4.out.far (p := ⟨g, 1, none⟩) (by show w.heap.size ≠ g; omega) (.int .i64 (q.live + 1)))
            generalize w4.setCell ⟨g, 1, none⟩ (.int .i64 (q.live + 1)) = w5 at *
            clear HB4 HC4 HQ4
            go_cut [] (fun wx => At wx g 79 ((q.vs.set 1 (.int .i64 (q.live + 1))).set 2 (.int .i64 (q.orch - c.orch))) ∧ Chg g w wx ∧ At wx w.heap.size 42 [.int .i64 c.orch, .int .i64 c.p0, .int .i64 c.p1, .int .i64 c.p2, .int .i64 c.p3])
            case first =>
              have e0 := HC5.out.cell 0
              have e2 := HA.out.cell 2
              have f2 := HA.out.free 2
              unfold QS.vs at e2
              go_region_with (go_at_call 42; refine (take_any g 2 q.orch c.orch _ ?_ ?_ hc0 hle hor).mono ?_; exact e2; exact f2; rintro e w' ⟨rfl, rfl⟩)
              all_goals
                go_wp2_with fail
                go_meet
                exact ⟨(HA.out.set 2 _).drewN 1, (HCG.out.set 2 _).drew, (HC5.out.far (p := ⟨g, 2, none⟩) (by show w.heap.size ≠ g; omega) _).drewN 1⟩
            case rest =>
              obtain ⟨hA6, hG6, hC6⟩ := hcut
              have HA6 := Lib.hid hA6
              have HG6 := Lib.hid hG6
              have d0 := hC6.cell 0
              have d1 := hC6.cell 1
              have d2 := hC6.cell 2
              have d3 := hC6.cell 3
              have d4 := hC6.cell 4
              clear hA6 hG6 hC6 HA HCG HC5
              go_wp2_with fail
              clear d0 d1 d2 d3 d4
              have hall4 := HALL.out
              unfold allHas leB at hall4
              have hask4 := HASK.out
              unfold allAsked leB at hask4
              simp only [Bool.and_eq_true, decide_eq_true_eq] at hall4 hask4
              obtain ⟨hle0, hle1, hle2, hle3⟩ := hall4
              obtain ⟨hc0', hc1, hc2, hc3⟩ := hask4
              have hqok := HOK.out
              unfold QOk at hqok
              obtain ⟨_, _, _, _, _, _, _, hp0, _, hp1, _, hp2, _, hp3⟩ := hqok
              go_loopw [59] (fun i wr => ∃ k : Nat, k ≤ 4 ∧ i = .int .i64 k ∧ At wr g 79 [.int .i64 q.most, .int .i64 (q.live + 1), .int .i64 (q.orch - c.orch), .int .i64 (if 0 < k then q.p0 - c.p0 else q.p0), .int .i64 (if 1 < k then q.p1 - c.p1 else q.p1), .int .i64 (if 2 < k then q.p2 - c.p2 else q.p2), .int .i64 (if 3 < k then q.p3 - c.p3 else q.p3)] ∧ Chg g w wr) (fun i _ => 4 - (intOf i).toNat)
              case atStart => exact ⟨0, by omega, rfl, HA6.out, HG6.out⟩
              case round =>
                obtain ⟨k, hk, rfl, hAK, hGK⟩ := hrel
                have HAK := Lib.hid hAK
                have HGK := Lib.hid hGK
                clear hAK hGK
                have hcase : k = 0 ∨ k = 1 ∨ k = 2 ∨ k = 3 ∨ k = 4 := by omega
                rcases hcase with rfl | rfl | rfl | rfl | rfl
                · have ix := idx0 (.int .i64 c.p0) (.int .i64 c.p1) (.int .i64 c.p2) (.int .i64 c.p3)
                  have hc := HAK.out.cell 3
                  have hf := HAK.out.free 3
                  go_wp2_with fail
                  refine (take_any g 3 q.p0 c.p0 _ hc hf hc0' hle0 hp0).mono ?_
                  rintro e w' ⟨rfl, rfl⟩
                  clear hc hf ix
                  go_wp2_with fail
                  go_roundw
                  case rel => exact ⟨1, by omega, by go_num, HAK.out.set 3 _, HGK.out.set 3 _⟩
                  case measure => simp [intOf]
                · have ix := idx1 (.int .i64 c.p0) (.int .i64 c.p1) (.int .i64 c.p2) (.int .i64 c.p3)
                  have hc := HAK.out.cell 4
                  have hf := HAK.out.free 4
                  go_wp2_with fail
                  refine (take_any g 4 q.p1 c.p1 _ hc hf hc1 hle1 hp1).mono ?_
                  rintro e w' ⟨rfl, rfl⟩
                  clear hc hf ix
                  go_wp2_with fail
                  go_roundw
                  case rel => exact ⟨2, by omega, by go_num, HAK.out.set 4 _, HGK.out.set 4 _⟩
                  case measure => simp [intOf]
                · have ix := idx2 (.int .i64 c.p0) (.int .i64 c.p1) (.int .i64 c.p2) (.int .i64 c.p3)
                  have hc := HAK.out.cell 5
                  have hf := HAK.out.free 5
                  go_wp2_with fail
                  refine (take_any g 5 q.p2 c.p2 _ hc hf hc2 hle2 hp2).mono ?_
                  rintro e w' ⟨rfl, rfl⟩
                  clear hc hf ix
                  go_wp2_with fail
                  go_roundw
                  case rel => exact ⟨3, by omega, by go_num, HAK.out.set 5 _, HGK.out.set 5 _⟩
                  case measure => simp [intOf]
                · have ix := idx3 (.int .i64 c.p0) (.int .i64 c.p1) (.int .i64 c.p2) (.int .i64 c.p3)
                  have hc := HAK.out.cell 6
                  have hf := HAK.out.free 6
                  go_wp2_with fail
                  refine (take_any g 6 q.p3 c.p3 _ hc hf hc3 hle3 hp3).mono ?_
                  rintro e w' ⟨rfl, rfl⟩
                  clear hc hf ix
                  go_wp2_with fail
                  go_roundw
                  case rel => exact ⟨4, by omega, by go_num, HAK.out.set 6 _, HGK.out.set 6 _⟩
                  case measure => simp [intOf]
                · go_wp2
                  go_ret
                  refine ⟨by rw [HK.out]; rfl, ?_, HGK.out⟩
                  rw [HNX.out]
                  exact HAK.out
end Go.Proofs.Ytmkbehdfchjeoaa
