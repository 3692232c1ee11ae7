/- The registry's same. -/
import Derived.Test.YtpmoanjeoaeabaaDoorRB
import Derived.Test.YtpmoanjeoaeabaaDoorRC
set_option linter.unusedVariables false
set_option linter.unusedSimpArgs false
set_option linter.unnecessarySimpa false
set_option maxRecDepth 100000
namespace Go.Proofs.YtpmoanjeoaeabaaDoor
open Go.RowKit Go.ChangeShapes Go.WideShapes Go.ChangeAt
open Classical in
/-- do two steps say the same? -/
noncomputable def coreB (s t : St) : Bool := decide (s.core = t.core)
open Classical in
theorem core_yes {s t : St} (h : s.core = t.core) : coreB s t = true := by unfold coreB; exact decide_eq_true h
open Classical in
theorem core_no {s t : St} (h : ¬ s.core = t.core) : coreB s t = false := by unfold coreB; exact decide_eq_false h
set_option maxHeartbeats 3200000 in
theorem sameStep_any {w : World} (s t : St) (hs : StAt w s) (ht : StAt w t) : Calls Tryd.prog 82 #[s.v, t.v] w (Quietly w (.bool (coreB s t))) := by
  obtain ⟨sn, sk, sp, sks, sns, kA, kc, nA, nc⟩ := s
  obtain ⟨tn, tk', tp, tks, tns, kB, kd, nB, ne⟩ := t
  have HF : Hid (¬ (sn = tn ∧ sk = tk' ∧ sp = tp ∧ sks = tks ∧ sns = tns) → coreB ⟨sn, sk, sp, sks, sns, kA, kc, nA, nc⟩ ⟨tn, tk', tp, tks, tns, kB, kd, nB, ne⟩ = false) := fun h => core_no fun e => by
    injection e with e1 e2 e3 e4 e5
    exact h ⟨e1, e2, e3, e4, e5⟩
  have HG : Hid ((sn = tn ∧ sk = tk' ∧ sp = tp ∧ sks = tks ∧ sns = tns) → coreB ⟨sn, sk, sp, sks, sns, kA, kc, nA, nc⟩ ⟨tn, tk', tp, tks, tns, kB, kd, nB, ne⟩ = true) := fun ⟨e1, e2, e3, e4, e5⟩ => core_yes (by subst e1 e2 e3 e4 e5; rfl)
  obtain ⟨r, hr⟩ : ∃ x, coreB ⟨sn, sk, sp, sks, sns, kA, kc, nA, nc⟩ ⟨tn, tk', tp, tks, tns, kB, kd, nB, ne⟩ = x := ⟨_, rfl⟩
  rw [hr] at HF HG ⊢
  have C83 : Hid (∀ w1, Below w.heap.size w w1 → Calls Tryd.prog 83 #[.slice kA sks.length kc, .slice kB tks.length kd] w1 fun e w' => e = .returned (.bool (decide (sks = tks))) ∧ Below w1.heap.size w1 w') := fun w1 hb => eqS_any sks tks (hs.keys.keep hb) (ht.keys.keep hb)
  have C84 : Hid (∀ w1, Below w.heap.size w w1 → Calls Tryd.prog 84 #[.slice nA sns.length nc, .slice nB tns.length ne] w1 fun e w' => e = .returned (.bool (decide (sns = tns))) ∧ Below w1.heap.size w1 w') := fun w1 hb => eqI_any sns tns (hs.needs.keep hb) (ht.needs.keep hb)
  obtain ⟨m1, hm1⟩ : ∃ m, sks.length = m := ⟨_, rfl⟩
  obtain ⟨m2, hm2⟩ : ∃ m, tks.length = m := ⟨_, rfl⟩
  obtain ⟨m3, hm3⟩ : ∃ m, sns.length = m := ⟨_, rfl⟩
  obtain ⟨m4, hm4⟩ : ∃ m, tns.length = m := ⟨_, rfl⟩
  obtain ⟨d1, hd1⟩ : ∃ d, decide (sks = tks) = d := ⟨_, rfl⟩
  obtain ⟨d2, hd2⟩ : ∃ d, decide (sns = tns) = d := ⟨_, rfl⟩
  have HD1 := Lib.hid hd1
  have HD2 := Lib.hid hd2
  unfold St.v Quietly
  simp only [hm1, hm2, hm3, hm4, hd1, hd2] at C83 C84 ⊢
  have h1 := (Sat.start w).new #[.string sn, .int .i64 sk, .int .i64 sp, .slice kA m1 kc, .slice nA m3 nc] 35
  obtain ⟨b, hb⟩ : ∃ b, w.heap.size = b := ⟨_, rfl⟩
  have hs1 : (w.alloc (.cells #[.string sn, .int .i64 sk, .int .i64 sp, .slice kA m1 kc, .slice nA m3 nc] 35)).heap.size = w.heap.size + 1 := by simp
  have h2 := h1.new #[.string tn, .int .i64 tk', .int .i64 tp, .slice kB m2 kd, .slice nB m4 ne] 35
  rw [hs1, hb] at h2
  have H2 := Lib.hid h2
  have HOB := Lib.hid (h2.old (by simp))
  clear h1 h2 hs ht hr hs1 hm1 hm2 hm3 hm4 hd1 hd2
  by_cases c1 : sn = tn
  · subst c1
    by_cases c2 : sk = tk'
    · subst c2
      by_cases c3 : sp = tp
      · subst c3
        go_enter Tryd.func82, Tryd.ntmps82
        go_wp2_with fail
        try simp only [hb]
        refine (C83.out _ HOB.out).mono ?_
        rintro e w1 ⟨rfl, hb1⟩
        have h3 := H2.out.below hb1
        have x4 := h3.r2.blk.cell 4
        have y4 := h3.blk.cell 4
        have H3 := Lib.hid h3
        clear h3 hb1 H2 HOB
        cases d1 with
        | false =>
          obtain rfl := HF.out fun h => of_decide_eq_false HD1.out h.2.2.2.1
          go_wp2_with fail
          go_ret
          exact ⟨rfl, by have h9 := H3.out.old (by simp); first | exact h9 | (rw [hb] at h9; exact h9)⟩
        | true =>
          go_wp2_with fail
          refine (C84.out _ (H3.out.old (by simp))).mono ?_
          rintro e w2 ⟨rfl, hb2⟩
          have H4 := Lib.hid ((H3.out.below hb2).old (by simp))
          have HR : Hid (r = d2) := by
            show _ = _
            cases hd : d2 with
            | true => exact HG.out ⟨by first | rfl | trivial, by first | rfl | trivial, by first | rfl | trivial, of_decide_eq_true HD1.out, of_decide_eq_true (HD2.out.trans hd)⟩
            | false => exact HF.out fun h => of_decide_eq_false (HD2.out.trans hd) h.2.2.2.2
          clear hb2 H3 x4 y4
          go_wp2_with fail
          go_ret
          exact ⟨by rw [HR.out]; rfl, by have h9 := H4.out; first | exact h9 | (rw [hb] at h9; exact h9)⟩
      · obtain rfl := HF.out fun h => c3 h.2.2.1
        have x3 : (sp == tp) = false := by simp [c3]
        go_enter Tryd.func82, Tryd.ntmps82
        go_wp2_with fail
        go_ret
        exact ⟨rfl, by have h9 := HOB.out; first | exact h9 | (rw [hb] at h9; exact h9)⟩
    · obtain rfl := HF.out fun h => c2 h.2.1
      have x2 : (sk == tk') = false := by simp [c2]
      go_enter Tryd.func82, Tryd.ntmps82
      go_wp2_with fail
      go_ret
      exact ⟨rfl, by have h9 := HOB.out; first | exact h9 | (rw [hb] at h9; exact h9)⟩
  · obtain rfl := HF.out fun h => c1 h.1
    have x1 : (sn.toList == tn.toList) = false := str_no c1
    have x11 : ¬ sn.toList = tn.toList := str_nn c1
    go_enter Tryd.func82, Tryd.ntmps82
    go_wp2_with fail
    go_ret
    exact ⟨rfl, by have h9 := HOB.out; first | exact h9 | (rw [hb] at h9; exact h9)⟩
end Go.Proofs.YtpmoanjeoaeabaaDoor
