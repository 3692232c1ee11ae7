/- The document's alone. -/
import Derived.Test.YtpmoanjeoaeabaaDoorCM
set_option linter.unusedVariables false
set_option linter.unusedSimpArgs false
set_option linter.unnecessarySimpa false
set_option maxRecDepth 100000
namespace Go.Proofs.YtpmoanjeoaeabaaDoor
open Go.RowKit Go.ChangeShapes Go.WideShapes Go.ChangeAt
set_option maxHeartbeats 3200000 in
theorem ralone_any {w : World} (d : Df) (i : Nat) (hD : DefAt w d) (hi : i < d.steps.length) (hz : Sized d) :
    Calls Tryd.prog 48 #[d.v, .int .i64 i] w (Quietly w (.int .i64 (aloneE d i))) := by
  obtain ⟨g, o, hA, s0, s1, s2, s3, s4⟩ := step_at d hD i hi
  have hmem : d.steps[i] ∈ d.steps := List.getElem_mem hi
  have hSt := Lib.hid (hD.each _ hmem)
  have HNE : Hid (∀ w1, Below w.heap.size w w1 → Calls Tryd.prog 77 #[.slice d.steps[i].nA d.steps[i].needs.length d.steps[i].nc, .int .i64 i, .int .i64 d.steps.length] w1 fun e w' => e = .returned (.bool (needsB (needsAt d i) i d.steps.length)) ∧ Below w1.heap.size w1 w') := fun w1 hb => by
    rw [← needs_at d i hi]
    exact rneeds_any _ i _ (hSt.out.keep hb).needs (by have := hz.needs _ hmem; omega)
  have HKE : Hid (∀ w1, Below w.heap.size w w1 → Calls Tryd.prog 76 #[(d.steps[i]).v] w1 fun e w' => e = .returned (.bool (keysB (keysAt d i) (partAt d i))) ∧ Below w1.heap.size w1 w') := fun w1 hb => by
    rw [← keys_at d i hi, ← part_at d i hi]
    exact rkeys_any _ (hSt.out.keep hb) (hz.keys _ hmem)
  have HIS : Hid (∀ w1, Calls Tryd.prog 47 #[.string d.steps[i].name] w1 fun e w' => e = .returned (.bool (isN (nameAt d i))) ∧ w' = w1) := fun w1 => by
    rw [← name_at d i hi]
    exact ris_any _ w1 (hz.names _ hmem)
  have HTW : Hid (∀ w1, Below w.heap.size w w1 → Calls Tryd.prog 75 #[d.v, .int .i64 i] w1 fun e w' => e = .returned (.bool (twiceB d i)) ∧ Below w1.heap.size w1 w') := fun w1 hb => rtwice_any d i (hD.keep hb) hi (by have := hz.steps; omega)
  have HK : Hid (d.steps[i].kind = kindAt d i) := kind_at d i hi
  have HPA : Hid (d.steps[i].part = partAt d i) := part_at d i hi
  obtain ⟨s, hs⟩ : ∃ s, d.steps[i] = s := ⟨_, rfl⟩
  rw [hs] at s0 s1 s2 s3 s4 HKE HIS HNE HK HPA
  have hu : aloneE d i = if isN (nameAt d i) = false then 110 else if twiceB d i = true then 112 else if kindAt d i < 1 ∨ 3 < kindAt d i then 113 else if partAt d i < 0 ∨ 3 < partAt d i then 114
    else if keysB (keysAt d i) (partAt d i) = false then 115 else if needsB (needsAt d i) i d.steps.length = false then 116 else 0 := rfl
  rw [hu]
  unfold Df.v at HTW ⊢
  unfold St.v at HKE
  unfold Quietly
  clear hu hs hmem hSt hz hD
  obtain ⟨n, hN⟩ : ∃ n, d.steps.length = n := ⟨_, rfl⟩
  obtain ⟨i1, hi1⟩ : ∃ b, isN (nameAt d i) = b := ⟨_, rfl⟩
  obtain ⟨i2, hi2⟩ : ∃ b, twiceB d i = b := ⟨_, rfl⟩
  obtain ⟨i5, hi5⟩ : ∃ b, keysB (keysAt d i) (partAt d i) = b := ⟨_, rfl⟩
  rw [hN] at HNE HTW
  obtain ⟨i6, hi6⟩ : ∃ b, needsB (needsAt d i) i n = b := ⟨_, rfl⟩
  rw [hN] at hi ⊢
  rw [hi1] at HIS
  rw [hi2] at HTW
  rw [hi5] at HKE
  rw [hi6] at HNE
  rw [hi1, hi2, hi5, hi6, ← HK.out, ← HPA.out]
  obtain ⟨v, hv⟩ : ∃ v : Int, v = (if i1 = false then 110 else if i2 = true then 112 else if s.kind < 1 ∨ 3 < s.kind then 113 else if s.part < 0 ∨ 3 < s.part then 114
    else if i5 = false then 115 else if i6 = false then 116 else 0) := ⟨_, rfl⟩
  rw [← hv]
  have HV := Lib.hid hv
  clear hv
  have h1 := (Sat.start w).new #[.string d.name, .slice (some ⟨g, o, none⟩) n d.c] 24
  have hold := h1.old (by simp)
  have c0 := old_cell hold s0
  have c1 := old_cell hold s1
  have c2 := old_cell hold s2
  have c3 := old_cell hold s3
  have c4 := old_cell hold s4
  have h2 := h1.new #[.string s.name, .int .i64 s.kind, .int .i64 s.part, .slice s.kA s.keys.length s.kc, .slice s.nA s.needs.length s.nc] 35
  have hsz : (w.alloc (.cells #[.string d.name, .slice (some ⟨g, o, none⟩) n d.c] 24)).heap.size = w.heap.size + 1 := by simp
  rw [hsz] at h2
  obtain ⟨b, hb⟩ : ∃ b, w.heap.size = b := ⟨_, rfl⟩
  rw [hA] at HTW ⊢
  rw [hb] at h2
  have H2 := Lib.hid h2
  have HBB := Lib.hid hb
  have c5 := h1.blk.cell 1
  rw [hb] at c5
  have hi0 : (i : Int) < (n : Int) := by omega
  have hin : (i : Int) ≤ (n : Int) := by omega
  clear h1 h2 hold hsz s0 s1 s2 s3 s4 hi1 hi2 hi5 hi6 hN hA HK HPA
  go_enter Tryd.func48, Tryd.ntmps48
  go_wp2_with fail
  try simp only [hb]
  refine (HIS.out _).mono ?_
  rintro e w1 ⟨rfl, rfl⟩
  have e0 := H2.out.r2.blk.cell 0
  have e1 := H2.out.r2.blk.cell 1
  clear c0 c1 c2 c3 c4 c5
  go_wp2_with fail
  refine (HTW.out _ (H2.out.old (by simp))).mono ?_
  rintro e w2 ⟨rfl, hb2⟩
  have H4 := Lib.hid (H2.out.below hb2)
  have f0 := H4.out.blk.cell 0
  have f1 := H4.out.blk.cell 1
  have f2 := H4.out.blk.cell 2
  have f3 := H4.out.blk.cell 3
  have f4 := H4.out.blk.cell 4
  clear hb2 H2 e0 e1
  go_wp2_with fail
  refine (HKE.out _ (H4.out.old (by simp))).mono ?_
  rintro e w3 ⟨rfl, hb3⟩
  have H5 := Lib.hid (H4.out.below hb3)
  have a4 := H5.out.blk.cell 4
  have a1 := H5.out.r2.blk.cell 1
  clear hb3 H4 f0 f1 f2 f3 f4
  go_wp2_with fail
  refine (HNE.out _ (H5.out.old (by simp))).mono ?_
  rintro e w4 ⟨rfl, hb4⟩
  have H6 := Lib.hid (H5.out.below hb4)
  have e1 := H6.out.blk.cell 1
  have e2 := H6.out.blk.cell 2
  clear hb4 H5 a4 a1
  cases i1 with
  | false =>
    go_wp2_with fail
    go_ret
    exact ⟨by rw [HV.out]; rfl, by have h9 := H6.out.old (by simp); first | exact h9 | (rw [hb] at h9; exact h9) | (simp only [hb] at h9 ⊢; exact h9)⟩
  | true =>
    cases i2 with
    | true =>
      go_wp2_with fail
      go_ret
      exact ⟨by rw [HV.out]; rfl, by have h9 := H6.out.old (by simp); first | exact h9 | (rw [hb] at h9; exact h9) | (simp only [hb] at h9 ⊢; exact h9)⟩
    | false =>
      by_cases hk1 : s.kind < 1
      · have t1 : decide (s.kind < 1) = true := decide_eq_true hk1
        have K1 := Lib.hid hk1
        clear hk1
        go_wp2_with fail
        go_ret
        exact ⟨by rw [HV.out]; have qK1 := K1.out; simp; first | done | ((repeat' split) <;> first | rfl | omega), by have h9 := H6.out.old (by simp); first | exact h9 | (rw [hb] at h9; exact h9) | (simp only [hb] at h9 ⊢; exact h9)⟩
      have t1 : decide (s.kind < 1) = false := decide_eq_false hk1
      by_cases hk2 : 3 < s.kind
      · have t2 : decide (3 < s.kind) = true := decide_eq_true hk2
        have K1 := Lib.hid hk1
        have K2 := Lib.hid hk2
        clear hk1 hk2
        go_wp2_with fail
        go_ret
        exact ⟨by rw [HV.out]; have qK1 := K1.out; have qK2 := K2.out; simp; first | done | ((repeat' split) <;> first | rfl | omega), by have h9 := H6.out.old (by simp); first | exact h9 | (rw [hb] at h9; exact h9) | (simp only [hb] at h9 ⊢; exact h9)⟩
      have t2 : decide (3 < s.kind) = false := decide_eq_false hk2
      by_cases hp1 : s.part < 0
      · have t3 : decide (s.part < 0) = true := decide_eq_true hp1
        have K1 := Lib.hid hk1
        have K2 := Lib.hid hk2
        have K3 := Lib.hid hp1
        clear hk1 hk2 hp1
        go_wp2_with fail
        go_ret
        exact ⟨by rw [HV.out]; have qK1 := K1.out; have qK2 := K2.out; have qK3 := K3.out; simp; first | done | ((repeat' split) <;> first | rfl | omega), by have h9 := H6.out.old (by simp); first | exact h9 | (rw [hb] at h9; exact h9) | (simp only [hb] at h9 ⊢; exact h9)⟩
      have t3 : decide (s.part < 0) = false := decide_eq_false hp1
      have K1 := Lib.hid hk1
      have K2 := Lib.hid hk2
      have K3 := Lib.hid hp1
      by_cases hp2 : 3 < s.part
      · have t4 : decide (3 < s.part) = true := decide_eq_true hp2
        have K4 := Lib.hid hp2
        clear hk1 hk2 hp1 hp2
        go_wp2_with fail
        go_ret
        exact ⟨by rw [HV.out]; have qK1 := K1.out; have qK2 := K2.out; have qK3 := K3.out; have qK4 := K4.out; simp; first | done | ((repeat' split) <;> first | rfl | omega), by have h9 := H6.out.old (by simp); first | exact h9 | (rw [hb] at h9; exact h9) | (simp only [hb] at h9 ⊢; exact h9)⟩
      have t4 : decide (3 < s.part) = false := decide_eq_false hp2
      have K4 := Lib.hid hp2
      clear hk1 hk2 hp1 hp2
      cases i5 with
      | false =>
        go_wp2_with fail
        go_ret
        exact ⟨by rw [HV.out]; have qK1 := K1.out; have qK2 := K2.out; have qK3 := K3.out; have qK4 := K4.out; simp; first | done | ((repeat' split) <;> first | rfl | omega), by have h9 := H6.out.old (by simp); first | exact h9 | (rw [hb] at h9; exact h9) | (simp only [hb] at h9 ⊢; exact h9)⟩
      | true =>
        cases i6 with
        | false =>
          go_wp2_with fail
          go_ret
          exact ⟨by rw [HV.out]; have qK1 := K1.out; have qK2 := K2.out; have qK3 := K3.out; have qK4 := K4.out; simp; first | done | ((repeat' split) <;> first | rfl | omega), by have h9 := H6.out.old (by simp); first | exact h9 | (rw [hb] at h9; exact h9) | (simp only [hb] at h9 ⊢; exact h9)⟩
        | true =>
          go_wp2_with fail
          go_ret
          exact ⟨by rw [HV.out]; have qK1 := K1.out; have qK2 := K2.out; have qK3 := K3.out; have qK4 := K4.out; simp; first | done | ((repeat' split) <;> first | rfl | omega), by have h9 := H6.out.old (by simp); first | exact h9 | (rw [hb] at h9; exact h9) | (simp only [hb] at h9 ⊢; exact h9)⟩
end Go.Proofs.YtpmoanjeoaeabaaDoor
