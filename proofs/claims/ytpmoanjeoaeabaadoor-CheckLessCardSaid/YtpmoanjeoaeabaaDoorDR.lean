/- The walk of CheckLess. -/
import Derived.Test.YtpmoanjeoaeabaaDoorDQ
set_option linter.unusedVariables false
set_option linter.unusedSimpArgs false
set_option linter.unnecessarySimpa false
set_option maxRecDepth 100000
namespace Go.Proofs.YtpmoanjeoaeabaaDoor
open Go.RowKit Go.ChangeShapes Go.WideShapes Go.ChangeAt
set_option maxHeartbeats 3200000 in
theorem checkLess_any {w : World} (d : Df) (z : Int) (hz0 : wf64 z) (hD : DefAt w d) (hz : Fits d) (hT : Lib.Utf8Tabs 0 1 w) : Calls Tryd.prog 4 #[d.v, .int .i64 z] w (Quietly w (.bool true)) := by
  have C11 : Hid (∀ w1, Below w.heap.size w w1 → ∀ F, Sat w w1 F → Calls Tryd.prog 11 #[d.v] w1 fun e w' => ∃ D : Df, e = .returned (likeV d D) ∧ Like D d ∧ Sat w w' (OwnP D :: F)) := fun w1 hb F hF => copied_own (hD.keep hb) hz hF
  have C12 : Hid (∀ w1, Below w.heap.size w w1 → Calls Tryd.prog 12 #[d.v] w1 fun e w' => e = .returned (.tuple #[.int .i64 (checkN d).1, .int .i64 (checkN d).2]) ∧ Below w1.heap.size w1 w') := fun w1 hb => check_any d (hD.keep hb) hz.sized (tabs_keep hT hb)
  have CL12 : Hid ((checkN d).2 = 0 → ∀ (D : Df) (q : Nat) (F : List HP) (w1 : World), Like D d → Sat w w1 (Row 35 5 D.A D.steps.length D.c (stepsC (D.steps.modify q bare)) :: sep (D.steps.map stP) :: F) → Old w ∈ F →
      Calls Tryd.prog 12 #[likeV d D] w1 fun e w' => e = .returned (.tuple #[.int .i64 (-1), .int .i64 0]) ∧ Below w1.heap.size w1 w') := fun h D q F w1 hl hS hm => by
    have e : likeV d D = (lessD D q).v := by
      unfold likeV Df.v
      show _ = Value.agg #[.string D.name, .slice D.A (D.steps.modify q bare).length D.c]
      rw [List.length_modify, hl.name, hl.len]
    have h2 := check_any (lessD D q) (hS.lessDef hl hD) (less_fits hl hz).sized (tabs_keep hT (hS.old (List.mem_cons_of_mem _ (List.mem_cons_of_mem _ hm))))
    rw [less_check hl h] at h2
    rw [e]
    exact h2
  have C15 : Hid (∀ w1, Below w.heap.size w w1 → Calls Tryd.prog 15 #[] w1 fun e w' => e = .returned (.bool true) ∧ Below w1.heap.size w1 w') := fun w1 hb => live_any w1 (tabs_keep hT hb)
  have HRG := Lib.hid (check_range d)
  have HOK : Hid ((checkN d).2 = 0 → (checkN d).1 = -1 ∧ 1 ≤ d.steps.length) := fun h => by
    obtain ⟨h1, h2⟩ := clean_of h
    exact ⟨by rw [h2], h1.pos⟩
  have hn5 := hz.steps
  obtain ⟨R, hR⟩ : ∃ R, checkN d = R := ⟨_, rfl⟩
  rw [hR] at C12 CL12 HRG HOK
  obtain ⟨x, y⟩ := R
  have h1 := (Sat.start w).new #[.string d.name, .slice d.A d.steps.length d.c] 24
  obtain ⟨b, hb⟩ : ∃ b, w.heap.size = b := ⟨_, rfl⟩
  have HLK : Hid (∀ D, Like D d → D.steps.length = d.steps.length) := fun D h => h.len
  unfold likeV at C11 CL12
  unfold Df.v at C11 C12 ⊢
  unfold Quietly
  obtain ⟨n, hN⟩ : ∃ n, d.steps.length = n := ⟨_, rfl⟩
  simp only [hN] at h1 C11 C12 CL12 HRG HOK HLK hn5 ⊢
  rw [hb] at h1
  have H1 := Lib.hid h1
  unfold wf64 at hz0
  clear h1 hD hz hR hN hT
  go_enter Tryd.func4, Tryd.ntmps4
  go_wp2_with fail
  try simp only [hb]
  refine (C12.out _ (H1.out.old (by simp))).mono ?_
  rintro e w1 ⟨rfl, hb1⟩
  have h2 := H1.out.below hb1
  have a0 := h2.blk.cell 0
  have a1 := h2.blk.cell 1
  have H2 := Lib.hid h2
  clear h2 hb1 H1
  by_cases hy : y = 0
  · subst hy
    obtain ⟨hx, hn1⟩ := HOK.out rfl
    skip
    subst hx
    have HCL : Hid (∀ (D : Df) (q : Nat) (F : List HP) (w1 : World), Like D d → Sat w w1 (Row 35 5 D.A D.steps.length D.c (stepsC (D.steps.modify q bare)) :: sep (D.steps.map stP) :: F) → Old w ∈ F →
      Calls Tryd.prog 12 #[.agg #[.string d.name, .slice D.A n D.c]] w1 fun e w' => e = .returned (.tuple #[.int .i64 (-1), .int .i64 0]) ∧ Below w1.heap.size w1 w') := CL12.out rfl
    have t0 : ((n : Int) == 0) = false := by rw [beq_eq_false_iff_ne]; omega
    have t1 : ¬ (n : Int) = 0 := by omega
    clear CL12 HOK HRG
    by_cases hz1 : z < 0
    · obtain ⟨m, hm⟩ : ∃ m : Nat, -(z + 1) = (m : Int) := ⟨(-(z + 1)).toNat, by omega⟩
      have sw1 : IntKind.i64.wrap (z + 1) = z + 1 := IntWalk.i64_in _ (by omega)
      have sw2 : IntKind.i64.wrap (-(z + 1)) = (m : Int) := by rw [IntWalk.i64_in _ (by omega)]; exact hm
      have t2 : decide (z < 0) = true := decide_eq_true hz1
      go_wp2_with fail
      refine (C11.out _ (H2.out.old (by simp)) _ H2.out).mono ?_
      rintro e w2 ⟨D, rfl, hl, h3⟩
      obtain ⟨nm, L, A, c⟩ := D
      have hnm : nm = d.name := hl.name
      subst hnm
      have hLn : L.length = n := HLK.out _ hl
      have HLK2 := Lib.hid hl
      obtain ⟨q, hq⟩ : ∃ q, w2.heap.size = q := ⟨_, rfl⟩
      have h4 := h3.new #[.string d.name, .slice A n c] 24
      rw [hq] at h4
      have h5 : Sat w _ (Row 35 5 A L.length c (stepsC L) :: sep (L.map stP) :: Blk q 24 [.string d.name, .slice A n c] :: [Blk b 24 [.string d.name, .slice d.A n d.c], Old w]) := h4.r2.open_
      have hxl := stepsC_len L
      obtain ⟨g, rfl, hcell, hfr⟩ := h5.rowCell (by intro e; rw [e] at hxl; simp at hxl; omega)
      obtain ⟨i, hi⟩ : ∃ i, m % n = i := ⟨_, rfl⟩
      have hin : i < n := by rw [← hi]; exact Nat.mod_lt _ (by omega)
      obtain ⟨v4, hv4⟩ : ∃ v, (stepsC L)[i * 5 + 4]? = some v := ⟨_, List.getElem?_eq_getElem (by rw [hxl]; omega)⟩
      have x4 := hcell (i * 5 + 4) (by rw [hxl]; omega)
      rw [hv4] at x4
      have f4 := hfr (i * 5 + 4)
      have h6 := h5.rowSet (i * 5 + 4) (.slice none 0 0)
      rw [← stepsC_less L i (by omega)] at h6
      have hmn : ((m : Int) % (n : Int)) = (i : Int) := by rw [← hi]; rfl
      have htm : Int.tmod (m : Int) (n : Int) = (i : Int) := by rw [Int.tmod_eq_emod_of_nonneg (by omega)]; exact hmn
      have swi : IntKind.i64.wrap (i : Int) = i := IntWalk.i64_in _ (by omega)
      have i0 : (0 : Int) ≤ (i : Int) := by omega
      have i1 : (i : Int) < (n : Int) := by omega
      have H5 := Lib.hid h5
      have H6 := Lib.hid h6
      clear h3 h4 h5 h6 hcell hfr hxl hl hLn hi hm sw1 sw2 t2 hv4 hin
      go_wp2_with fail
      try simp only [hq]
      go_region
      have h7 := H6.out.drew
      obtain ⟨W3, hW3⟩ : ∃ x, x = ((w2.alloc (.cells #[.string d.name, .slice (some ⟨g, 0, none⟩) n c] 24)).setCell ⟨g, i * 5 + 4, none⟩ (.slice none 0 0)).drew := ⟨_, rfl⟩
      rw [← hW3] at h7 ⊢
      have e0 : W3.cell? ⟨q, 0, none⟩ = some (.string d.name) := h7.r3.blk.cell 0
      have e1 : W3.cell? ⟨q, 1, none⟩ = some (.slice (some ⟨g, 0, none⟩) n c) := h7.r3.blk.cell 1
      have H7 := Lib.hid h7
      clear hW3 h7 H5 H6 x4 f4 htm swi i0 i1 hmn
      go_wp2_with fail
      refine (HCL.out ⟨d.name, L, some ⟨g, 0, none⟩, c⟩ i _ _ HLK2.out H7.out (by simp)).mono ?_
      rintro e w4 ⟨rfl, hb4⟩
      have H8 := Lib.hid (H7.out.below hb4)
      clear hb4 H7 e0 e1
      go_wp2_with fail
      refine (C15.out _ (H8.out.old (by simp))).mono ?_
      rintro e w5 ⟨rfl, hb5⟩
      have H9 := Lib.hid ((H8.out.below hb5).old (by simp))
      clear hb5 H8
      go_wp2_with fail
      go_ret
      exact ⟨rfl, by have h9 := H9.out; first | exact h9 | (rw [hb] at h9; exact h9)⟩
    · obtain ⟨m, rfl⟩ : ∃ m : Nat, z = (m : Int) := ⟨z.toNat, by omega⟩
      have t2 : decide ((m : Int) < 0) = false := decide_eq_false hz1
      go_wp2_with fail
      refine (C11.out _ (H2.out.old (by simp)) _ H2.out).mono ?_
      rintro e w2 ⟨D, rfl, hl, h3⟩
      obtain ⟨nm, L, A, c⟩ := D
      have hnm : nm = d.name := hl.name
      subst hnm
      have hLn : L.length = n := HLK.out _ hl
      have HLK2 := Lib.hid hl
      obtain ⟨q, hq⟩ : ∃ q, w2.heap.size = q := ⟨_, rfl⟩
      have h4 := h3.new #[.string d.name, .slice A n c] 24
      rw [hq] at h4
      have h5 : Sat w _ (Row 35 5 A L.length c (stepsC L) :: sep (L.map stP) :: Blk q 24 [.string d.name, .slice A n c] :: [Blk b 24 [.string d.name, .slice d.A n d.c], Old w]) := h4.r2.open_
      have hxl := stepsC_len L
      obtain ⟨g, rfl, hcell, hfr⟩ := h5.rowCell (by intro e; rw [e] at hxl; simp at hxl; omega)
      obtain ⟨i, hi⟩ : ∃ i, m % n = i := ⟨_, rfl⟩
      have hin : i < n := by rw [← hi]; exact Nat.mod_lt _ (by omega)
      obtain ⟨v4, hv4⟩ : ∃ v, (stepsC L)[i * 5 + 4]? = some v := ⟨_, List.getElem?_eq_getElem (by rw [hxl]; omega)⟩
      have x4 := hcell (i * 5 + 4) (by rw [hxl]; omega)
      rw [hv4] at x4
      have f4 := hfr (i * 5 + 4)
      have h6 := h5.rowSet (i * 5 + 4) (.slice none 0 0)
      rw [← stepsC_less L i (by omega)] at h6
      have hmn : ((m : Int) % (n : Int)) = (i : Int) := by rw [← hi]; rfl
      have htm : Int.tmod (m : Int) (n : Int) = (i : Int) := by rw [Int.tmod_eq_emod_of_nonneg (by omega)]; exact hmn
      have swi : IntKind.i64.wrap (i : Int) = i := IntWalk.i64_in _ (by omega)
      have i0 : (0 : Int) ≤ (i : Int) := by omega
      have i1 : (i : Int) < (n : Int) := by omega
      have H5 := Lib.hid h5
      have H6 := Lib.hid h6
      clear h3 h4 h5 h6 hcell hfr hxl hl hLn hi t2 hv4 hin
      go_wp2_with fail
      try simp only [hq]
      go_region
      have h7 := H6.out.drew
      obtain ⟨W3, hW3⟩ : ∃ x, x = ((w2.alloc (.cells #[.string d.name, .slice (some ⟨g, 0, none⟩) n c] 24)).setCell ⟨g, i * 5 + 4, none⟩ (.slice none 0 0)).drew := ⟨_, rfl⟩
      rw [← hW3] at h7 ⊢
      have e0 : W3.cell? ⟨q, 0, none⟩ = some (.string d.name) := h7.r3.blk.cell 0
      have e1 : W3.cell? ⟨q, 1, none⟩ = some (.slice (some ⟨g, 0, none⟩) n c) := h7.r3.blk.cell 1
      have H7 := Lib.hid h7
      clear hW3 h7 H5 H6 x4 f4 htm swi i0 i1 hmn
      go_wp2_with fail
      refine (HCL.out ⟨d.name, L, some ⟨g, 0, none⟩, c⟩ i _ _ HLK2.out H7.out (by simp)).mono ?_
      rintro e w4 ⟨rfl, hb4⟩
      have H8 := Lib.hid (H7.out.below hb4)
      clear hb4 H7 e0 e1
      go_wp2_with fail
      refine (C15.out _ (H8.out.old (by simp))).mono ?_
      rintro e w5 ⟨rfl, hb5⟩
      have H9 := Lib.hid ((H8.out.below hb5).old (by simp))
      clear hb5 H8
      go_wp2_with fail
      go_ret
      exact ⟨rfl, by have h9 := H9.out; first | exact h9 | (rw [hb] at h9; exact h9)⟩
  · have t0 : (y != 0) = true := by simp [hy]
    have hr1 := HRG.out.1
    have hr2 := HRG.out.2 hy
    have t1 : decide (-1 ≤ x) = true := decide_eq_true hr1
    have t2 : decide (x < (n : Int)) = true := decide_eq_true hr2
    clear hy hr1 hr2 HRG HOK CL12 C11
    go_wp2_with fail
    refine (C15.out _ (H2.out.old (by simp))).mono ?_
    rintro e w5 ⟨rfl, hb5⟩
    have H9 := Lib.hid ((H2.out.below hb5).old (by simp))
    clear hb5 H2
    go_wp2_with fail
    go_ret
    exact ⟨rfl, by have h9 := H9.out; first | exact h9 | (rw [hb] at h9; exact h9)⟩
theorem checkLess_walk (D : Df) (a1 : Int) (w : World) (hT : Lib.Utf8Tabs 0 1 w) (w0 : DefAt w D) (w1 : Fits D) (h1 : (Lit.int .i64 a1).wf = true) : Calls Tryd.prog 4 #[D.v, .int .i64 a1] w fun e w' => e = .returned (.bool true) ∧ Below w.heap.size w w' := checkLess_any D a1 (wf64_of h1) w0 w1 hT
end Go.Proofs.YtpmoanjeoaeabaaDoor
