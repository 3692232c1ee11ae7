/- The registry's same, of any two definitions; makes and tells of the document's registry begin. -/
import Derived.Test.YtpmoanjeoaeabaaDoorRF
import Derived.Test.YtpmoanjeoaeabaaDoorRD
set_option linter.unusedVariables false
set_option linter.unusedSimpArgs false
set_option linter.unnecessarySimpa false
set_option maxRecDepth 100000
namespace Go.Proofs.YtpmoanjeoaeabaaDoor
open Go.RowKit Go.ChangeShapes Go.WideShapes Go.ChangeAt
set_option maxHeartbeats 3200000 in
theorem rsame_any {w : World} {a d : Df} (ha : DefAt w a) (hd : DefAt w d) (hz : Fits a) (hz2 : Fits d) : Calls Tryd.prog 55 #[a.v, d.v] w (Quietly w (.bool (likeB a d))) := by
  have C81 : Hid (∀ w1, Below w.heap.size w w1 → Calls Tryd.prog 81 #[.slice a.A a.steps.length a.c, .slice d.A d.steps.length d.c, .func (.func 82) #[] #[]] w1 fun e w' => e = .returned (.bool (stepsB a d)) ∧ Below w1.heap.size w1 w') := fun w1 hb => equal81_any (ha.keep hb) (hd.keep hb) hz hz2
  have HNM : Hid (a.name ≠ d.name → likeB a d = false) := fun h => like_no fun g => h g.name
  have HST : Hid (a.name = d.name → likeB a d = stepsB a d) := fun h => by
    by_cases g : a.steps.map St.core = d.steps.map St.core
    · rw [stepsB_yes g, like_yes ⟨h, g⟩]
    · rw [stepsB_no g, like_no fun e => g e.steps]
  obtain ⟨r, hr⟩ : ∃ x, likeB a d = x := ⟨_, rfl⟩
  obtain ⟨r2, hr2⟩ : ∃ x, stepsB a d = x := ⟨_, rfl⟩
  rw [hr] at HNM HST ⊢
  rw [hr2] at C81 HST
  unfold Df.v Quietly
  obtain ⟨n1, hn1⟩ : ∃ x, a.steps.length = x := ⟨_, rfl⟩
  obtain ⟨n, hn⟩ : ∃ x, d.steps.length = x := ⟨_, rfl⟩
  obtain ⟨na, hna⟩ : ∃ x, a.name = x := ⟨_, rfl⟩
  obtain ⟨nd, hnd⟩ : ∃ x, d.name = x := ⟨_, rfl⟩
  simp only [hn1, hn, hna, hnd] at C81 HNM HST ⊢
  obtain ⟨b, hb⟩ : ∃ b, w.heap.size = b := ⟨_, rfl⟩
  have hs1 : (w.alloc (.cells #[.string na, .slice a.A n1 a.c] 24)).heap.size = w.heap.size + 1 := by simp
  have h2 := ((Sat.start w).new #[.string na, .slice a.A n1 a.c] 24).new #[.string nd, .slice d.A n d.c] 24
  rw [hs1, hb] at h2
  have H2 := Lib.hid h2
  clear ha hd hz hz2 hr hr2 hn1 hn hna hnd hs1 h2
  by_cases hnm : na = nd
  · subst hnm
    obtain rfl := HST.out rfl
    go_enter Tryd.func55, Tryd.ntmps55
    go_wp2_with fail
    try simp only [hb]
    refine (C81.out _ (H2.out.old (by simp))).mono ?_
    rintro e w1 ⟨rfl, hb1⟩
    have H3 := Lib.hid ((H2.out.below hb1).old (by simp))
    clear hb1 H2
    go_wp2_with fail
    go_ret
    exact ⟨rfl, by have h9 := H3.out; first | exact h9 | (rw [hb] at h9; exact h9)⟩
  · obtain rfl := HNM.out hnm
    have t1 : (na.toList == nd.toList) = false := str_no hnm
    have t11 : ¬ na.toList = nd.toList := str_nn hnm
    have H3 := Lib.hid (H2.out.old (by simp))
    clear HST HNM H2
    go_enter Tryd.func55, Tryd.ntmps55
    go_wp2_with fail
    go_ret
    exact ⟨rfl, by have h9 := H3.out; first | exact h9 | (rw [hb] at h9; exact h9)⟩
end Go.Proofs.YtpmoanjeoaeabaaDoor
