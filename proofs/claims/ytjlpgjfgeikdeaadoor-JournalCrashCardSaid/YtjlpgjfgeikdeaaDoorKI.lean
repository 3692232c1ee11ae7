/- The law JournalCrash: the plain law and the walk. -/
import Derived.Test.YtjlpgjfgeikdeaaDoorKH
set_option linter.unusedVariables false
set_option linter.unusedSimpArgs false
set_option linter.unnecessarySimpa false
set_option maxRecDepth 100000
namespace Go.Proofs.YtjlpgjfgeikdeaaDoor
open Go.RowKit Go.ChangeShapes Go.WideShapes Go.ChangeAt
open Fr (strOfNats strOfNats_size strOfNats_bytes bytesOf Table restOf wrapS)
section
variable {w0 w : World} {F : List HP} {d : Nat} {v : Nat → Value} {M : MD} {J : JS} {snap : ByteArray} {recs : List ByteArray} {file gen m : Nat}
/-- Open of a disk on which a journal's file was cut -/
theorem open_cut (hS : Sat w0 w (DiskV d v M :: F)) (hG : CutG M file gen snap recs m) (hO : Old w0 ∈ F) (hT : Table w0) : Calls Tryd.prog 14 #[.pointer (some ⟨d, 0, none⟩)] w fun e w' =>
    ∃ j A c v', e = .returned (.tuple #[.pointer (some ⟨j, 0, none⟩), .string snap, .slice A (recs.take (fewN gen snap recs m)).length c, .int .i64 0]) ∧
      Sat w0 w' (Row 9 1 A (recs.take (fewN gen snap recs m)).length c (strs (recs.take (fewN gen snap recs m))) :: DiskV d v' (openM M) :: F) := by
  refine (open_any hS hG.ok hO hT).mono ?_
  obtain ⟨h1, h2⟩ := hG.taken
  have hg := hG.gen1
  unfold OpOut
  rw [h2]
  rintro e w' (⟨hz, _⟩ | ⟨_, j, A, c, v', rfl, h⟩)
  · exact absurd hz (by show ¬ gen = 0; omega)
  · exact ⟨j, A, c, v', rfl, h.r2.tail⟩
theorem row_strs_take {A : Option Addr} {c q : Nat} {L : List ByteArray} (hS : Sat w0 w (Row 9 1 A L.length c (strs L) :: F)) (hq : q ≤ L.length) : Fr.Strs w (.slice A q c) (L.take q) := by
  have hl : (L.take q).length = q := by simp; omega
  refine ⟨A, c, by rw [hl], ?_⟩
  by_cases h0 : L.take q = []
  · exact .inl h0
  · have hp := List.length_pos_iff.2 h0
    obtain ⟨g, rfl, hc⟩ := row_str hS (by omega)
    refine .inr ⟨_, rfl, fun i hi => ?_⟩
    have := hc i (by omega)
    rw [show (Addr.mk g 0 none).add i = ⟨g, i, none⟩ by unfold Addr.add; split <;> simp_all, this]
    simp
    rw [List.getElem?_take, if_pos (by omega), List.getElem?_eq_getElem (by omega)]
    rfl
theorem same_pre {A B : Option Addr} {c e : Nat} {K L : List ByteArray} (hS : Sat w0 w (Row 9 1 A K.length c (strs K) :: Row 9 1 B L.length e (strs L) :: F)) (hK : K = L.take K.length) (hl : L.length ≤ 1048576) :
    Calls Tryd.prog 18 #[.slice A K.length c, .slice B K.length e] w fun en w' => en = .returned (.bool true) ∧ Sat w0 w' (Row 9 1 A K.length c (strs K) :: Row 9 1 B L.length e (strs L) :: F) := by
  have hq : K.length ≤ L.length := by
    have := congrArg List.length hK
    rw [List.length_take] at this
    omega
  have h2 := row_strs_take hS.r2 hq
  rw [← hK] at h2
  refine (Fr.same_any _ _ K K w (row_strs hS) h2 (by omega) (by omega)).mono ?_
  rintro en w' ⟨rfl, n, rfl⟩
  exact ⟨by simp, hS.drewN n⟩
end
/-- the few, the many -/
structure FewMany (recs few many : List ByteArray) (t : Nat) : Prop where
  f : few = recs.take few.length
  m : many = recs.take many.length
  t : t ≤ few.length
  fm : few.length ≤ many.length
  mr : many.length ≤ recs.length
section
variable {M : MD} {J : JS} {snap : ByteArray} {recs : List ByteArray} {t : Nat}
theorem take_few (recs : List ByteArray) (q : Nat) (h : q ≤ recs.length) : (recs.take q).length = q := by rw [List.length_take]; omega
theorem few_le (gen : Nat) (snap : ByteArray) (recs : List ByteArray) (m : Nat) : fewN gen snap recs m ≤ recs.length := fit_le _ _
theorem few_mono (gen : Nat) (snap : ByteArray) (recs : List ByteArray) {m k : Nat} (h : m ≤ k) : fewN gen snap recs m ≤ fewN gen snap recs k := fit_mono _ _ _ (by omega)
theorem crash_plan (h : Told M J snap recs t) {a b : Nat} (hab : a ≤ b) : ∃ (M1 M2 M4 : MD) (few many : List ByteArray) (m1 m2 m4 : Nat), crashM M a = M1 ∧ crashM M b = M2 ∧ crashM (openM M1) b = M4 ∧
    CutG M1 J.file J.gen snap recs m1 ∧ recs.take (fewN J.gen snap recs m1) = few ∧ CutG M2 J.file J.gen snap recs m2 ∧ recs.take (fewN J.gen snap recs m2) = many ∧ (openM M1).Ok ∧
    CutG M4 J.file J.gen snap few m4 ∧ few.take (fewN J.gen snap few m4) = few ∧ FewMany recs few many t := by
  obtain ⟨hC1, hQ1⟩ := h.good.crash h.safe a
  obtain ⟨hC2, hQ2⟩ := h.good.crash h.safe b
  have hkm := kept_mono M hab J.file
  obtain ⟨M1, hM1⟩ : ∃ x, crashM M a = x := ⟨_, rfl⟩
  obtain ⟨M2, hM2⟩ : ∃ x, crashM M b = x := ⟨_, rfl⟩
  obtain ⟨m1, hm1⟩ : ∃ x, keptN M a J.file = x := ⟨_, rfl⟩
  obtain ⟨m2, hm2⟩ : ∃ x, keptN M b J.file = x := ⟨_, rfl⟩
  rw [hM1, hm1] at hC1
  rw [hM2, hm2] at hC2
  rw [hm1] at hQ1
  rw [hm2] at hQ2
  rw [hm1, hm2] at hkm
  obtain ⟨hG3, hS3⟩ := hC1.open_
  have l1 := take_few recs _ (few_le J.gen snap recs m1)
  have l2 := take_few recs _ (few_le J.gen snap recs m2)
  have l3 := few_mono J.gen snap recs hkm
  have hF : FewMany recs (recs.take (fewN J.gen snap recs m1)) (recs.take (fewN J.gen snap recs m2)) t :=
    ⟨by rw [l1], by rw [l2], by rw [l1]; exact hQ1, by rw [l1, l2]; exact l3, by rw [l2]; exact few_le _ _ _ _⟩
  obtain ⟨few, hf⟩ : ∃ x, recs.take (fewN J.gen snap recs m1) = x := ⟨_, rfl⟩
  rw [hf] at hG3 hS3 hF
  obtain ⟨hC4, hQ4⟩ := hG3.crash (safe_all hG3 hS3) b
  obtain ⟨M4, hM4⟩ : ∃ x, crashM (openM M1) b = x := ⟨_, rfl⟩
  obtain ⟨m4, hm4⟩ : ∃ x, keptN (openM M1) b J.file = x := ⟨_, rfl⟩
  simp only at hC4 hQ4
  rw [hM4, hm4] at hC4
  rw [hm4] at hQ4
  refine ⟨M1, M2, M4, few, _, m1, m2, m4, hM1, hM2, hM4, hC1, hf, hC2, rfl, hG3.ok, hC4, ?_, hF⟩
  exact List.take_of_length_le hQ4
end
set_option maxHeartbeats 6400000 in
theorem journalCrash_walk (room : Int) (A : Option Addr) (n c : Nat) (l : List JOp) (keep more : Int) (w : World) (hT : Table w) (w0 : (Lit.int .i64 room).wf = true) (w1 : JOpsAt w A n c l) (_ : n * 32 ≤ 140737488351232)
    (w2 : (Lit.int .i64 keep).wf = true) (w3 : (Lit.int .i64 more).wf = true) :
    Calls Tryd.prog 8 #[.int .i64 room, .slice A n c, .int .i64 keep, .int .i64 more] w fun e w' => e = .returned (.bool true) ∧ Below w.heap.size w w' := by
  have H1 := Lib.hid (plays_any room A n c l (Sat.start w) (by simp) hT (i64_of w0) w1)
  have HK : Hid (wf64 keep) := i64_of w2
  have HM : Hid (wf64 more) := i64_of w3
  clear w0 w1 w2 w3
  rcases Int.lt_trichotomy keep more with hcmp | hcmp | hcmp
  case inl =>
    go_enter Tryd.func8, Tryd.ntmps8
    go_wp2_with fail
    refine H1.out.mono ?_
    rintro e w2 ⟨d, j, v, M, J, snap, recs, t, B, cB, rfl, hTD, h2⟩
    have h3 := h2.new #[.string snap, .slice B recs.length cB, .int .i64 t] 49
    obtain ⟨g, hg⟩ : ∃ g, w2.heap.size = g := ⟨_, rfl⟩
    rw [hg] at h3
    have hab : (keep).toNat ≤ (more).toNat := by omega
    have HLN := Lib.hid hTD.len
    have HCP := Lib.hid (copy_sat h3.r3 hTD.good.ok)
    obtain ⟨M1, M2, M4, few, many, m1, m2, m4, e1, e2, e4, hC1, hf1, hC2, hf2, hok, hC4, hf4, hF⟩ := crash_plan hTD hab
    have HCR1 := Lib.hid (fun (w1 : World) (v : Nat → Value) (F : List HP) (h : Sat w w1 (DiskV d v M :: F)) => crash_sat h hTD.good.ok keep HK.out)
    have HCR2 := Lib.hid (fun (w1 : World) (d2 : Nat) (v : Nat → Value) (F : List HP) (h : Sat w w1 (DiskV d2 v M :: F)) => crash_sat h hTD.good.ok more HM.out)
    have HCR4 := Lib.hid (fun (w1 : World) (v : Nat → Value) (F : List HP) (h : Sat w w1 (DiskV d v (openM M1) :: F)) => crash_sat h hok more HM.out)
    rw [e1] at HCR1
    rw [e2] at HCR2
    rw [e4] at HCR4
    have HO1 := Lib.hid (fun (w1 : World) (v : Nat → Value) (F : List HP) (h : Sat w w1 (DiskV d v M1 :: F)) (hO : Old w ∈ F) => open_cut h hC1 hO hT)
    have HO2 := Lib.hid (fun (w1 : World) (d2 : Nat) (v : Nat → Value) (F : List HP) (h : Sat w w1 (DiskV d2 v M2 :: F)) (hO : Old w ∈ F) => open_cut h hC2 hO hT)
    have HO4 := Lib.hid (fun (w1 : World) (v : Nat → Value) (F : List HP) (h : Sat w w1 (DiskV d v M4 :: F)) (hO : Old w ∈ F) => open_cut h hC4 hO hT)
    rw [hf1] at HO1
    rw [hf2] at HO2
    rw [hf4] at HO4
    have HF := Lib.hid hF
    have q1 := hF.t
    have q2 := hF.fm
    have q3 := hF.mr
    clear e1 e2 e4 hC1 hC2 hC4 hf1 hf2 hf4 hok hF hTD hab h2 h3
    go_wp2_with fail
    refine HCP.out.mono ?_
    rintro e w3 ⟨d2, v2, rfl, h4⟩
    clear HCP hcmp hg
    go_wp2_with fail
    refine (HCR1.out _ _ _ h4.r2).mono ?_
    rintro e w4 ⟨rfl, v4, h5⟩
    clear HCR1 h4
    go_wp2_with fail
    refine (HCR2.out _ _ _ _ h5.r2).mono ?_
    rintro e w5 ⟨rfl, v5, h6⟩
    clear HCR2 h5
    go_wp2_with fail
    refine (HO1.out _ _ _ h6.r2 (by simp)).mono ?_
    rintro e w6 ⟨j1, A1, c1, v6, rfl, h7⟩
    clear HO1 h6
    go_wp2_with fail
    refine (HO2.out _ _ _ _ h7.r3 (by simp)).mono ?_
    rintro e w7 ⟨j2, A2, c2, v7, rfl, h8⟩
    clear HO2 h7
    have hcap := row_le h8.r7
    have x0 : w7.cell? ⟨g, 0, none⟩ = some (.string snap) := h8.r5.blk.cell 0
    have x1 : w7.cell? ⟨g, 1, none⟩ = some (.slice B recs.length cB) := h8.r5.blk.cell 1
    have x2 : w7.cell? ⟨g, 2, none⟩ = some (.int .i64 t) := h8.r5.blk.cell 2
    have i1 := str_yes snap
    have i2 : decide ((few.length : Int) < (t : Int)) = false := decide_eq_false (by omega)
    have i3 : decide ((many.length : Int) < (few.length : Int)) = false := decide_eq_false (by omega)
    have i4 : decide ((recs.length : Int) < (many.length : Int)) = false := decide_eq_false (by omega)
    have hln := HLN.out
    have HSM := Lib.hid (same_pre h8.r7.r4 HF.out.f (by omega))
    go_wp2_with fail
    refine HSM.out.mono ?_
    rintro e w8 ⟨rfl, h9⟩
    clear HSM h8 x0 x1 x2
    have x0 : w8.cell? ⟨g, 0, none⟩ = some (.string snap) := h9.r6.blk.cell 0
    have x1 : w8.cell? ⟨g, 1, none⟩ = some (.slice B recs.length cB) := h9.r6.blk.cell 1
    have HSM := Lib.hid (same_pre h9.r2.r3 HF.out.m (by omega))
    go_wp2_with fail
    refine HSM.out.mono ?_
    rintro e w9 ⟨rfl, h10⟩
    clear HSM h9 x0 x1
    go_wp2_with fail
    refine (HCR4.out _ _ _ h10.r5).mono ?_
    rintro e w10 ⟨rfl, v10, h11⟩
    clear HCR4 h10
    go_wp2_with fail
    refine (HO4.out _ _ _ h11 (by simp)).mono ?_
    rintro e w11 ⟨j4, A4, c4, v11, rfl, h12⟩
    clear HO4 h11
    have x0 : w11.cell? ⟨g, 0, none⟩ = some (.string snap) := h12.r7.blk.cell 0
    have HSM := Lib.hid (same_sat (L := few) (K := few) h12.r5.r2 (by omega) (by omega))
    rw [decide_eq_true (rfl : few = few)] at HSM
    go_wp2_with fail
    refine HSM.out.mono ?_
    rintro e w12 ⟨rfl, h13⟩
    go_wp2_with fail
    go_ret
    exact ⟨rfl, h13.old (by simp)⟩
  case inr.inl =>
    subst hcmp
    have hcmp := True.intro
    go_enter Tryd.func8, Tryd.ntmps8
    go_wp2_with fail
    refine H1.out.mono ?_
    rintro e w2 ⟨d, j, v, M, J, snap, recs, t, B, cB, rfl, hTD, h2⟩
    have h3 := h2.new #[.string snap, .slice B recs.length cB, .int .i64 t] 49
    obtain ⟨g, hg⟩ : ∃ g, w2.heap.size = g := ⟨_, rfl⟩
    rw [hg] at h3
    have hab : (keep).toNat ≤ (keep).toNat := by omega
    have HLN := Lib.hid hTD.len
    have HCP := Lib.hid (copy_sat h3.r3 hTD.good.ok)
    obtain ⟨M1, M2, M4, few, many, m1, m2, m4, e1, e2, e4, hC1, hf1, hC2, hf2, hok, hC4, hf4, hF⟩ := crash_plan hTD hab
    have HCR1 := Lib.hid (fun (w1 : World) (v : Nat → Value) (F : List HP) (h : Sat w w1 (DiskV d v M :: F)) => crash_sat h hTD.good.ok keep HK.out)
    have HCR2 := Lib.hid (fun (w1 : World) (d2 : Nat) (v : Nat → Value) (F : List HP) (h : Sat w w1 (DiskV d2 v M :: F)) => crash_sat h hTD.good.ok keep HK.out)
    have HCR4 := Lib.hid (fun (w1 : World) (v : Nat → Value) (F : List HP) (h : Sat w w1 (DiskV d v (openM M1) :: F)) => crash_sat h hok keep HK.out)
    rw [e1] at HCR1
    rw [e2] at HCR2
    rw [e4] at HCR4
    have HO1 := Lib.hid (fun (w1 : World) (v : Nat → Value) (F : List HP) (h : Sat w w1 (DiskV d v M1 :: F)) (hO : Old w ∈ F) => open_cut h hC1 hO hT)
    have HO2 := Lib.hid (fun (w1 : World) (d2 : Nat) (v : Nat → Value) (F : List HP) (h : Sat w w1 (DiskV d2 v M2 :: F)) (hO : Old w ∈ F) => open_cut h hC2 hO hT)
    have HO4 := Lib.hid (fun (w1 : World) (v : Nat → Value) (F : List HP) (h : Sat w w1 (DiskV d v M4 :: F)) (hO : Old w ∈ F) => open_cut h hC4 hO hT)
    rw [hf1] at HO1
    rw [hf2] at HO2
    rw [hf4] at HO4
    have HF := Lib.hid hF
    have q1 := hF.t
    have q2 := hF.fm
    have q3 := hF.mr
    clear e1 e2 e4 hC1 hC2 hC4 hf1 hf2 hf4 hok hF hTD hab h2 h3
    go_wp2_with fail
    refine HCP.out.mono ?_
    rintro e w3 ⟨d2, v2, rfl, h4⟩
    clear HCP hcmp hg
    go_wp2_with fail
    refine (HCR1.out _ _ _ h4.r2).mono ?_
    rintro e w4 ⟨rfl, v4, h5⟩
    clear HCR1 h4
    go_wp2_with fail
    refine (HCR2.out _ _ _ _ h5.r2).mono ?_
    rintro e w5 ⟨rfl, v5, h6⟩
    clear HCR2 h5
    go_wp2_with fail
    refine (HO1.out _ _ _ h6.r2 (by simp)).mono ?_
    rintro e w6 ⟨j1, A1, c1, v6, rfl, h7⟩
    clear HO1 h6
    go_wp2_with fail
    refine (HO2.out _ _ _ _ h7.r3 (by simp)).mono ?_
    rintro e w7 ⟨j2, A2, c2, v7, rfl, h8⟩
    clear HO2 h7
    have hcap := row_le h8.r7
    have x0 : w7.cell? ⟨g, 0, none⟩ = some (.string snap) := h8.r5.blk.cell 0
    have x1 : w7.cell? ⟨g, 1, none⟩ = some (.slice B recs.length cB) := h8.r5.blk.cell 1
    have x2 : w7.cell? ⟨g, 2, none⟩ = some (.int .i64 t) := h8.r5.blk.cell 2
    have i1 := str_yes snap
    have i2 : decide ((few.length : Int) < (t : Int)) = false := decide_eq_false (by omega)
    have i3 : decide ((many.length : Int) < (few.length : Int)) = false := decide_eq_false (by omega)
    have i4 : decide ((recs.length : Int) < (many.length : Int)) = false := decide_eq_false (by omega)
    have hln := HLN.out
    have HSM := Lib.hid (same_pre h8.r7.r4 HF.out.f (by omega))
    go_wp2_with fail
    refine HSM.out.mono ?_
    rintro e w8 ⟨rfl, h9⟩
    clear HSM h8 x0 x1 x2
    have x0 : w8.cell? ⟨g, 0, none⟩ = some (.string snap) := h9.r6.blk.cell 0
    have x1 : w8.cell? ⟨g, 1, none⟩ = some (.slice B recs.length cB) := h9.r6.blk.cell 1
    have HSM := Lib.hid (same_pre h9.r2.r3 HF.out.m (by omega))
    go_wp2_with fail
    refine HSM.out.mono ?_
    rintro e w9 ⟨rfl, h10⟩
    clear HSM h9 x0 x1
    go_wp2_with fail
    refine (HCR4.out _ _ _ h10.r5).mono ?_
    rintro e w10 ⟨rfl, v10, h11⟩
    clear HCR4 h10
    go_wp2_with fail
    refine (HO4.out _ _ _ h11 (by simp)).mono ?_
    rintro e w11 ⟨j4, A4, c4, v11, rfl, h12⟩
    clear HO4 h11
    have x0 : w11.cell? ⟨g, 0, none⟩ = some (.string snap) := h12.r7.blk.cell 0
    have HSM := Lib.hid (same_sat (L := few) (K := few) h12.r5.r2 (by omega) (by omega))
    rw [decide_eq_true (rfl : few = few)] at HSM
    go_wp2_with fail
    refine HSM.out.mono ?_
    rintro e w12 ⟨rfl, h13⟩
    go_wp2_with fail
    go_ret
    exact ⟨rfl, h13.old (by simp)⟩
  case inr.inr =>
    go_enter Tryd.func8, Tryd.ntmps8
    go_wp2_with fail
    refine H1.out.mono ?_
    rintro e w2 ⟨d, j, v, M, J, snap, recs, t, B, cB, rfl, hTD, h2⟩
    have h3 := h2.new #[.string snap, .slice B recs.length cB, .int .i64 t] 49
    obtain ⟨g, hg⟩ : ∃ g, w2.heap.size = g := ⟨_, rfl⟩
    rw [hg] at h3
    have hab : (more).toNat ≤ (keep).toNat := by omega
    have HLN := Lib.hid hTD.len
    have HCP := Lib.hid (copy_sat h3.r3 hTD.good.ok)
    obtain ⟨M1, M2, M4, few, many, m1, m2, m4, e1, e2, e4, hC1, hf1, hC2, hf2, hok, hC4, hf4, hF⟩ := crash_plan hTD hab
    have HCR1 := Lib.hid (fun (w1 : World) (v : Nat → Value) (F : List HP) (h : Sat w w1 (DiskV d v M :: F)) => crash_sat h hTD.good.ok more HM.out)
    have HCR2 := Lib.hid (fun (w1 : World) (d2 : Nat) (v : Nat → Value) (F : List HP) (h : Sat w w1 (DiskV d2 v M :: F)) => crash_sat h hTD.good.ok keep HK.out)
    have HCR4 := Lib.hid (fun (w1 : World) (v : Nat → Value) (F : List HP) (h : Sat w w1 (DiskV d v (openM M1) :: F)) => crash_sat h hok keep HK.out)
    rw [e1] at HCR1
    rw [e2] at HCR2
    rw [e4] at HCR4
    have HO1 := Lib.hid (fun (w1 : World) (v : Nat → Value) (F : List HP) (h : Sat w w1 (DiskV d v M1 :: F)) (hO : Old w ∈ F) => open_cut h hC1 hO hT)
    have HO2 := Lib.hid (fun (w1 : World) (d2 : Nat) (v : Nat → Value) (F : List HP) (h : Sat w w1 (DiskV d2 v M2 :: F)) (hO : Old w ∈ F) => open_cut h hC2 hO hT)
    have HO4 := Lib.hid (fun (w1 : World) (v : Nat → Value) (F : List HP) (h : Sat w w1 (DiskV d v M4 :: F)) (hO : Old w ∈ F) => open_cut h hC4 hO hT)
    rw [hf1] at HO1
    rw [hf2] at HO2
    rw [hf4] at HO4
    have HF := Lib.hid hF
    have q1 := hF.t
    have q2 := hF.fm
    have q3 := hF.mr
    clear e1 e2 e4 hC1 hC2 hC4 hf1 hf2 hf4 hok hF hTD hab h2 h3
    go_wp2_with fail
    refine HCP.out.mono ?_
    rintro e w3 ⟨d2, v2, rfl, h4⟩
    clear HCP hcmp hg
    go_wp2_with fail
    refine (HCR1.out _ _ _ h4.r2).mono ?_
    rintro e w4 ⟨rfl, v4, h5⟩
    clear HCR1 h4
    go_wp2_with fail
    refine (HCR2.out _ _ _ _ h5.r2).mono ?_
    rintro e w5 ⟨rfl, v5, h6⟩
    clear HCR2 h5
    go_wp2_with fail
    refine (HO1.out _ _ _ h6.r2 (by simp)).mono ?_
    rintro e w6 ⟨j1, A1, c1, v6, rfl, h7⟩
    clear HO1 h6
    go_wp2_with fail
    refine (HO2.out _ _ _ _ h7.r3 (by simp)).mono ?_
    rintro e w7 ⟨j2, A2, c2, v7, rfl, h8⟩
    clear HO2 h7
    have hcap := row_le h8.r7
    have x0 : w7.cell? ⟨g, 0, none⟩ = some (.string snap) := h8.r5.blk.cell 0
    have x1 : w7.cell? ⟨g, 1, none⟩ = some (.slice B recs.length cB) := h8.r5.blk.cell 1
    have x2 : w7.cell? ⟨g, 2, none⟩ = some (.int .i64 t) := h8.r5.blk.cell 2
    have i1 := str_yes snap
    have i2 : decide ((few.length : Int) < (t : Int)) = false := decide_eq_false (by omega)
    have i3 : decide ((many.length : Int) < (few.length : Int)) = false := decide_eq_false (by omega)
    have i4 : decide ((recs.length : Int) < (many.length : Int)) = false := decide_eq_false (by omega)
    have hln := HLN.out
    have HSM := Lib.hid (same_pre h8.r7.r4 HF.out.f (by omega))
    go_wp2_with fail
    refine HSM.out.mono ?_
    rintro e w8 ⟨rfl, h9⟩
    clear HSM h8 x0 x1 x2
    have x0 : w8.cell? ⟨g, 0, none⟩ = some (.string snap) := h9.r6.blk.cell 0
    have x1 : w8.cell? ⟨g, 1, none⟩ = some (.slice B recs.length cB) := h9.r6.blk.cell 1
    have HSM := Lib.hid (same_pre h9.r2.r3 HF.out.m (by omega))
    go_wp2_with fail
    refine HSM.out.mono ?_
    rintro e w9 ⟨rfl, h10⟩
    clear HSM h9 x0 x1
    go_wp2_with fail
    refine (HCR4.out _ _ _ h10.r5).mono ?_
    rintro e w10 ⟨rfl, v10, h11⟩
    clear HCR4 h10
    go_wp2_with fail
    refine (HO4.out _ _ _ h11 (by simp)).mono ?_
    rintro e w11 ⟨j4, A4, c4, v11, rfl, h12⟩
    clear HO4 h11
    have x0 : w11.cell? ⟨g, 0, none⟩ = some (.string snap) := h12.r7.blk.cell 0
    have HSM := Lib.hid (same_sat (L := few) (K := few) h12.r5.r2 (by omega) (by omega))
    rw [decide_eq_true (rfl : few = few)] at HSM
    go_wp2_with fail
    refine HSM.out.mono ?_
    rintro e w12 ⟨rfl, h13⟩
    go_wp2_with fail
    go_ret
    exact ⟨rfl, h13.old (by simp)⟩
end Go.Proofs.YtjlpgjfgeikdeaaDoor
