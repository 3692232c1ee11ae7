/- The registry's same: two definitions. -/
import Derived.Test.YtpmoanjeoaeabaaDoorRE
set_option linter.unusedVariables false
set_option linter.unusedSimpArgs false
set_option linter.unnecessarySimpa false
set_option maxRecDepth 100000
namespace Go.Proofs.YtpmoanjeoaeabaaDoor
open Go.RowKit Go.ChangeShapes Go.WideShapes Go.ChangeAt
open Classical in
noncomputable def stepsB (a d : Df) : Bool := decide (a.steps.map St.core = d.steps.map St.core)
open Classical in
theorem stepsB_yes {a d : Df} (h : a.steps.map St.core = d.steps.map St.core) : stepsB a d = true := by unfold stepsB; exact decide_eq_true h
open Classical in
theorem stepsB_no {a d : Df} (h : ¬ a.steps.map St.core = d.steps.map St.core) : stepsB a d = false := by unfold stepsB; exact decide_eq_false h
set_option maxHeartbeats 3200000 in
theorem equal81_any {w : World} {a d : Df} (ha : DefAt w a) (hd : DefAt w d) (hz : Fits a) (hz2 : Fits d) :
    Calls Tryd.prog 81 #[.slice a.A a.steps.length a.c, .slice d.A d.steps.length d.c, .func (.func 82) #[] #[]] w (Quietly w (.bool (stepsB a d))) := by
  have HA := Lib.hid ha
  have HD := Lib.hid hd
  have HLE : Hid (a.steps.length ≠ d.steps.length → stepsB a d = false) := fun h => stepsB_no fun g => h (by have := congrArg List.length g; simpa using this)
  have HCO : Hid (∀ j (hj : j < a.steps.length) (hj2 : j < d.steps.length), a.steps[j].core ≠ d.steps[j].core → stepsB a d = false) := fun j hj hj2 h => stepsB_no fun g => h (core_at (a := ⟨.empty, a.steps, none, 0⟩) (d := ⟨.empty, d.steps, none, 0⟩) ⟨rfl, g⟩ hj hj2)
  have HOK : Hid (a.steps.length = d.steps.length → (∀ j (hj : j < a.steps.length) (hj2 : j < d.steps.length), a.steps[j].core = d.steps[j].core) → stepsB a d = true) := fun h2 h3 => stepsB_yes (like_of (a := ⟨.empty, a.steps, none, 0⟩) (d := ⟨.empty, d.steps, none, 0⟩) rfl h2 h3).steps
  obtain ⟨r, hr⟩ : ∃ x, stepsB a d = x := ⟨_, rfl⟩
  rw [hr] at HLE HCO HOK ⊢
  have hn5 := hz.steps
  have hn6 := hz2.steps
  unfold Quietly
  obtain ⟨P, hP⟩ : ∃ x, a.A = x := ⟨_, rfl⟩
  obtain ⟨R, hR⟩ : ∃ x, d.A = x := ⟨_, rfl⟩
  rw [hP, hR]
  have HP := Lib.hid hP
  have HR := Lib.hid hR
  obtain ⟨n1, hn1⟩ : ∃ x, a.steps.length = x := ⟨_, rfl⟩
  obtain ⟨n, hn⟩ : ∃ x, d.steps.length = x := ⟨_, rfl⟩
  have HN1 := Lib.hid hn1
  have HN := Lib.hid hn
  rw [hn1, hn] at HLE ⊢
  rw [hn1] at hn5
  rw [hn] at hn6
  clear ha hd hz hz2 hr hP hR hn1 hn
  by_cases hln : n1 = n
  · subst hln
    have HOK2 : Hid ((∀ j (hj : j < a.steps.length) (hj2 : j < d.steps.length), a.steps[j].core = d.steps[j].core) → r = true) := fun h => HOK.out (by rw [HN1.out, HN.out]) h
    clear HLE HOK
    go_enter Tryd.func81, Tryd.ntmps81
    go_wp2_with fail
    go_loopw [17] (SaRel w [Old w] a d n1) (fun x _ => n1 - (intOf x).toNat)
    case atStart => exact ⟨0, Nat.zero_le _, rfl, Sat.start w, fun j _ _ hj => absurd hj (Nat.not_lt_zero _)⟩
    case round =>
      obtain ⟨k, hk, rfl, hS, hok⟩ := hrel
      have h9 := hS.old (by simp)
      by_cases hlt : k < n1
      · have ha1 : k < a.steps.length := by rw [HN1.out]; exact hlt
        have hd1 : k < d.steps.length := by rw [HN.out]; exact hlt
        obtain ⟨g, o, e1, s0, s1, s2, s3, s4⟩ := step_at a (HA.out.keep h9) k ha1
        obtain ⟨g2, o2, e2, t0, t1, t2, t3, t4⟩ := step_at d (HD.out.keep h9) k hd1
        obtain rfl : P = some ⟨g, o, none⟩ := HP.out.symm.trans e1
        obtain rfl : R = some ⟨g2, o2, none⟩ := HR.out.symm.trans e2
        have hsa := HA.out.each _ (List.getElem_mem ha1)
        have hsd := HD.out.each _ (List.getElem_mem hd1)
        have HF0 : Hid (a.steps[k].core ≠ d.steps[k].core → r = false) := HCO.out k ha1 hd1
        have HNX : Hid (a.steps[k].core = d.steps[k].core → ∀ j (hj : j < a.steps.length) (hj2 : j < d.steps.length), j < k + 1 → a.steps[j].core = d.steps[j].core) := fun h j hj hj2 hjk => by
          by_cases e : j = k
          · subst e; exact h
          · exact hok j hj hj2 (by omega)
        obtain ⟨s, hs⟩ : ∃ x, a.steps[k] = x := ⟨_, rfl⟩
        obtain ⟨t, ht⟩ : ∃ x, d.steps[k] = x := ⟨_, rfl⟩
        rw [hs] at s0 s1 s2 s3 s4 hsa HF0 HNX
        rw [ht] at t0 t1 t2 t3 t4 hsd HF0 HNX
        have C82 : Hid (∀ w1, Below w.heap.size w w1 → Calls Tryd.prog 82 #[.agg #[.string s.name, .int .i64 s.kind, .int .i64 s.part, .slice s.kA s.keys.length s.kc, .slice s.nA s.needs.length s.nc], .agg #[.string t.name, .int .i64 t.kind, .int .i64 t.part, .slice t.kA t.keys.length t.kc, .slice t.nA t.needs.length t.nc]] w1 fun e w' => e = .returned (.bool (coreB s t)) ∧ Below w1.heap.size w1 w') := fun w1 hb => sameStep_any s t (hsa.keep hb) (hsd.keep hb)
        have HCB : Hid ((coreB s t = true → s.core = t.core) ∧ (coreB s t = false → ¬ s.core = t.core)) := by
          refine ⟨fun h => ?_, fun h g => ?_⟩
          · by_cases g : s.core = t.core
            · exact g
            · rw [core_no g] at h; cases h
          · rw [core_yes g] at h; cases h
        obtain ⟨cb, hcb⟩ : ∃ x, coreB s t = x := ⟨_, rfl⟩
        rw [hcb] at C82 HCB
        obtain ⟨q, hq⟩ : ∃ q, wr.heap.size = q := ⟨_, rfl⟩
        have h3 := hS.new #[.string s.name, .int .i64 s.kind, .int .i64 s.part, .slice s.kA s.keys.length s.kc, .slice s.nA s.needs.length s.nc] 35
        have hsz : (wr.alloc (.cells #[.string s.name, .int .i64 s.kind, .int .i64 s.part, .slice s.kA s.keys.length s.kc, .slice s.nA s.needs.length s.nc] 35)).heap.size = wr.heap.size + 1 := by simp
        have h4 := h3.new #[.string t.name, .int .i64 t.kind, .int .i64 t.part, .slice t.kA t.keys.length t.kc, .slice t.nA t.needs.length t.nc] 35
        rw [hsz, hq] at h4
        have v0 := cell_alloc (.cells #[.string s.name, .int .i64 s.kind, .int .i64 s.part, .slice s.kA s.keys.length s.kc, .slice s.nA s.needs.length s.nc] 35) t0
        have v1 := cell_alloc (.cells #[.string s.name, .int .i64 s.kind, .int .i64 s.part, .slice s.kA s.keys.length s.kc, .slice s.nA s.needs.length s.nc] 35) t1
        have v2 := cell_alloc (.cells #[.string s.name, .int .i64 s.kind, .int .i64 s.part, .slice s.kA s.keys.length s.kc, .slice s.nA s.needs.length s.nc] 35) t2
        have v3 := cell_alloc (.cells #[.string s.name, .int .i64 s.kind, .int .i64 s.part, .slice s.kA s.keys.length s.kc, .slice s.nA s.needs.length s.nc] 35) t3
        have v4 := cell_alloc (.cells #[.string s.name, .int .i64 s.kind, .int .i64 s.part, .slice s.kA s.keys.length s.kc, .slice s.nA s.needs.length s.nc] 35) t4
        have H4 := Lib.hid h4
        clear h3 h4 hS hsa hsd hs ht e1 e2 hsz hok hcb h9
        go_wp2_with fail
        try simp only [hq]
        refine (C82.out _ (H4.out.old (by simp))).mono ?_
        rintro e w1 ⟨rfl, hb1⟩
        have H5 := Lib.hid (H4.out.below hb1).tail.tail
        clear hb1 H4 s0 s1 s2 s3 s4 t0 t1 t2 t3 t4 v0 v1 v2 v3 v4
        cases cb with
        | false =>
          obtain rfl := HF0.out (HCB.out.2 rfl)
          go_wp2_with fail
          go_ret
          exact ⟨rfl, H5.out.old (by simp)⟩
        | true =>
          have HN2 := Lib.hid (HNX.out (HCB.out.1 rfl))
          go_wp2_with fail
          go_roundw
          case rel => exact ⟨k + 1, by omega, by go_num, H5.out, HN2.out⟩
          case measure => simp [intOf]; omega
      · obtain rfl : k = n1 := by omega
        obtain rfl := HOK2.out fun j hj hj2 => hok j hj hj2 (by rw [← HN1.out]; exact hj)
        go_wp2_with fail
        go_ret
        exact ⟨rfl, h9⟩
  · obtain rfl := HLE.out hln
    have t2 : ¬ (n1 : Int) = (n : Int) := by omega
    clear HLE HOK HCO
    go_enter Tryd.func81, Tryd.ntmps81
    go_wp2_with fail
    go_ret
    exact ⟨rfl, Below.refl _ _⟩
end Go.Proofs.YtpmoanjeoaeabaaDoor
