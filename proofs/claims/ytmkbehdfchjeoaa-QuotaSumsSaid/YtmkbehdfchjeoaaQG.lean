/- odysseylaw15.live; the walk of the law QuotaMakes. -/
import Derived.Test.YtmkbehdfchjeoaaQE
import Derived.Test.YtmkbehdfchjeoaaQT
set_option linter.unusedVariables false
set_option linter.unusedSimpArgs false
set_option linter.unnecessarySimpa false
namespace Go.Proofs.Ytmkbehdfchjeoaa
open Go.RowKit Go.ChangeShapes Go.WideShapes Go.ChangeAt
attribute [local go_sem] eqArr9
/-- a quota as it begins -/
def begQ (l o p0 p1 p2 p3 : Int) : QS := ⟨l, 0, o, p0, p1, p2, p3⟩
theorem cells_beg (l o p0 p1 p2 p3 : Int) : cellsK l o p0 p1 p2 p3 4 = (begQ l o p0 p1 p2 p3).vs := by simp [cellsK, begQ, QS.vs]
theorem ok_beg {l o p0 p1 p2 p3 : Int} (h : newB l o p0 p1 p2 p3 4 = true) : QOk (begQ l o p0 p1 p2 p3) := by
  simp [newB, budB] at h
  refine ⟨?_, ?_, ?_, ?_, ?_, ?_, ?_, ?_, ?_, ?_, ?_, ?_, ?_, ?_⟩ <;> simp only [begQ] <;> omega
theorem codeA_cases (q : QS) (c : CS) : codeA q c = 0 ∨ codeA q c = 1 ∨ codeA q c = 150 ∨ codeA q c = 151 ∨ codeA q c = 152 := by
  unfold codeA; repeat' split
  all_goals simp
theorem codeA_zero {q : QS} {c : CS} (h : codeA q c = 0) : 0 ≤ c.orch ∧ allAsked c = true ∧ q.live < q.most ∧ c.orch ≤ q.orch ∧ allHas q c = true := by
  unfold codeA at h
  by_cases h1 : c.orch < 0
  · simp [h1] at h
  · by_cases h2 : allAsked c = false
    · simp [h1, h2] at h
    · by_cases h3 : q.most ≤ q.live
      · simp [h1, h2, h3] at h
      · by_cases h4 : q.orch < c.orch
        · simp [h1, h2, h3, h4] at h
        · by_cases h5 : allHas q c = false
          · simp [h1, h2, h3, h4, h5] at h
          · exact ⟨by omega, by simpa using h2, by omega, by omega, by simpa using h5⟩
theorem asked_iff (c : CS) : allAsked c = true ↔ 0 ≤ c.p0 ∧ 0 ≤ c.p1 ∧ 0 ≤ c.p2 ∧ 0 ≤ c.p3 := by unfold allAsked leB; simp
theorem has_iff (q : QS) (c : CS) : allHas q c = true ↔ c.p0 ≤ q.p0 ∧ c.p1 ≤ q.p1 ∧ c.p2 ≤ q.p2 ∧ c.p3 ≤ q.p3 := by unfold allHas leB; simp
theorem ok_next {q : QS} (c : CS) (h : QOk q) : QOk (nextA q c) := by
  unfold nextA
  split
  · rename_i hc
    obtain ⟨h0, h1, h2, h3, h4⟩ := codeA_zero hc
    obtain ⟨a0, a1, a2, a3⟩ := (asked_iff c).1 h1
    obtain ⟨b0, b1, b2, b3⟩ := (has_iff q c).1 h4
    unfold QOk less at *
    simp only
    omega
  · exact h
theorem ok_close {q : QS} (h : QOk q) : QOk (nextC q) := by
  unfold nextC
  split
  · exact h
  · unfold QOk at *; simp only; omega
set_option maxHeartbeats 1600000 in
theorem qlive_any (w : World) : Calls Try.prog 18 #[] w fun e w' => e = .returned (.bool true) ∧ Below w.heap.size w w' := by
  have h1 : newB 1 10 5 5 0 0 4 = true := by decide
  have HOK0 := Lib.hid (ok_beg h1)
  have HCE := Lib.hid (cells_beg 1 10 5 5 0 0)
  have HK1 : Hid (codeA (begQ 1 10 5 5 0 0) ⟨4, 2, 0, 0, 0⟩ = 0) := by show _ = _; decide
  have HN1 : Hid ((nextA (begQ 1 10 5 5 0 0) ⟨4, 2, 0, 0, 0⟩) = ⟨1, 1, 6, 3, 5, 0, 0⟩) := by show _ = _; unfold nextA; rw [if_pos HK1.out]; rfl
  have HOK1 : Hid (QOk ⟨1, 1, 6, 3, 5, 0, 0⟩) := by have := ok_next ⟨4, 2, 0, 0, 0⟩ HOK0.out; rw [HN1.out] at this; exact this
  have HK2 : Hid (codeA ⟨1, 1, 6, 3, 5, 0, 0⟩ ⟨0, 0, 0, 0, 0⟩ = 150) := by show _ = _; decide
  have H1 := Lib.hid h1
  clear h1
  go_enter Try.func18, Try.ntmps18
  go_wp2_with fail
  refine (new_any 1 10 5 5 0 0 _).mono ?_
  rintro e w1 ⟨hb1, ⟨_, g, rfl, hg, hat⟩ | ⟨h, _⟩⟩
  · rw [HCE.out] at hat
    have HB1 := Lib.hid hb1
    have HA1 := Lib.hid hat
    clear hb1 hat
    go_wp2_with fail
    refine (admit_any g (begQ 1 10 5 5 0 0) ⟨4, 2, 0, 0, 0⟩ _ HA1 HOK0).mono ?_
    rintro e w2 ⟨rfl, hat, hch⟩
    rw [HK1.out]
    rw [HN1.out] at hat
    have HB2 : Hid (Below w.heap.size w w2) := HB1.out.trans (hch.below hg HB1.out.size)
    have HA2 := Lib.hid hat
    clear hat hch
    go_wp2_with fail
    refine (left_any g ⟨1, 1, 6, 3, 5, 0, 0⟩ _ HA2).mono ?_
    rintro e w3 ⟨rfl, hb3⟩
    have HB3 : Hid (Below w.heap.size w w3) := below_step HB2.out hb3
    have HA3 := Lib.hid (HA2.out.keep hb3)
    clear hb3
    go_wp2_with fail
    refine (admit_any g ⟨1, 1, 6, 3, 5, 0, 0⟩ ⟨0, 0, 0, 0, 0⟩ _ ?_ HOK1).mono ?_
    · exact HA3.out.alloc _
    rintro e w5 ⟨rfl, hat, hch⟩
    rw [HK2.out]
    have HB5 : Hid (Below w.heap.size w w5) := (HB3.out.alloc HB3.out.size _).trans (hch.below hg (by simp; have := HB3.out.size; omega))
    clear hat hch
    go_wp2
    go_ret
    exact ⟨rfl, HB5.out⟩
  · rw [H1.out] at h; cases h
set_option maxRecDepth 100000 in
set_option maxHeartbeats 1600000 in
theorem quotaMakes_walk (l o p0 p1 p2 p3 : Int) (w : World) :
    Calls Try.prog 4 #[.int .i64 l, .int .i64 o, .agg #[.int .i64 p0, .int .i64 p1, .int .i64 p2, .int .i64 p3]] w fun e w' => e = .returned (.bool true) ∧ Below w.heap.size w w' := by
  have HX0 : Hid (At (w.alloc (.cells #[.int .i64 p0, .int .i64 p1, .int .i64 p2, .int .i64 p3] 34)) w.heap.size 34 [.int .i64 p0, .int .i64 p1, .int .i64 p2, .int .i64 p3]) := At.new w 34 _
  have HB0 : Hid (Below w.heap.size w (w.alloc (.cells #[.int .i64 p0, .int .i64 p1, .int .i64 p2, .int .i64 p3] 34))) := (Below.refl _ _).alloc (Nat.le_refl _) _
  go_enter Try.func4, Try.ntmps4
  go_wp2_with fail
  refine (new_any l o p0 p1 p2 p3 _).mono ?_
  rintro e w1 ⟨hb1, hpost⟩
  have HB1 : Hid (Below w.heap.size w w1) := below_step HB0.out hb1
  have HX1 := Lib.hid (HX0.out.keep hb1)
  rcases hpost with ⟨hok, g, rfl, hg, hat⟩ | ⟨hok, rfl⟩
  · rw [cells_beg] at hat
    have HOK := Lib.hid hok
    have HA1 := Lib.hid hat
    have hgw : w.heap.size < g := by simp at hg; omega
    clear hok hat hb1 hg
    have d0 := HX1.out.cell 0
    have d1 := HX1.out.cell 1
    have d2 := HX1.out.cell 2
    have d3 := HX1.out.cell 3
    go_wp2_with fail
    clear d0 d1 d2 d3
    refine (rnew_any l o p0 p1 p2 p3 _).mono ?_
    rintro e w2 ⟨hb2, ⟨_, g2, rfl, _, _⟩ | ⟨h, _⟩⟩
    · have HB2 : Hid (Below w.heap.size w w2) := below_step HB1.out hb2
      have HX2 := Lib.hid (HX1.out.keep hb2)
      have HA2 := Lib.hid (HA1.out.keep hb2)
      clear hb2
      go_wp2_with fail
      refine (left_any g (begQ l o p0 p1 p2 p3) _ HA2).mono ?_
      rintro e w3 ⟨rfl, hb3⟩
      have HB3 : Hid (Below w.heap.size w w3) := below_step HB2.out hb3
      have HX3 := Lib.hid (HX2.out.keep hb3)
      have hlt3 := HX3.out.lt
      clear hb3
      have d0 := HX3.out.cell 0
      have d1 := HX3.out.cell 1
      have d2 := HX3.out.cell 2
      have d3 := HX3.out.cell 3
      simp only [begQ]
      go_wp2_with fail
      clear d0 d1 d2 d3
      refine (qlive_any _).mono ?_
      rintro e w4 ⟨rfl, hb4⟩
      have HB4 : Hid (Below w.heap.size w w4) := below_step (HB3.out.alloc HB3.out.size _) hb4
      clear hb4
      go_wp2
      go_ret
      exact ⟨rfl, HB4.out⟩
    · rw [HOK.out] at h; cases h
  · have HOK := Lib.hid hok
    clear hok hb1
    have d0 := HX1.out.cell 0
    have d1 := HX1.out.cell 1
    have d2 := HX1.out.cell 2
    have d3 := HX1.out.cell 3
    go_wp2_with fail
    clear d0 d1 d2 d3
    refine (rnew_any l o p0 p1 p2 p3 _).mono ?_
    rintro e w2 ⟨hb2, ⟨h, _⟩ | ⟨_, rfl⟩⟩
    · rw [HOK.out] at h; cases h
    · have HB2 : Hid (Below w.heap.size w w2) := below_step HB1.out hb2
      clear hb2
      go_wp2_with fail
      refine (qlive_any _).mono ?_
      rintro e w4 ⟨rfl, hb4⟩
      have HB4 : Hid (Below w.heap.size w w4) := below_step HB2.out hb4
      clear hb4
      go_wp2
      go_ret
      exact ⟨rfl, HB4.out⟩
end Go.Proofs.Ytmkbehdfchjeoaa
