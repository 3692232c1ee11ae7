import Derived.Test.YtjlpgjfgeikdeaaDoorJ3
import Derived.Test.YtjlpgjfgeikdeaaDoorD2
section
/- Open: the program's. -/
set_option linter.unusedVariables false
set_option linter.unusedSimpArgs false
set_option linter.unnecessarySimpa false
set_option maxRecDepth 100000
namespace Go.Proofs.YtjlpgjfgeikdeaaDoor
open Go.RowKit Go.ChangeShapes Go.WideShapes Go.ChangeAt
open Fr (strOfNats strOfNats_size strOfNats_bytes bytesOf Table restOf wrapS)
/-- what the files have; which one is taken -/
def foundM (M : MD) (i : Nat) : FB := foundB (scanB (M.f i).b)
def taken (M : MD) : Nat := if (foundM M 0).gen < (foundM M 1).gen then 1 else 0
def takenF (M : MD) : FB := foundM M (taken M)
/-- the disk that Open leaves -/
def openM (M : MD) : MD := (syncR (cutR (cutR M ((1 - taken M : Nat) : Int) 0).1 ((taken M : Nat) : Int) (((takenF M).size : Nat) : Int)).1 ((taken M : Nat) : Int)).1
theorem openM_ok {M : MD} (h : M.Ok) : (openM M).Ok := sync_ok (cut_ok (cut_ok h _ _) _ _) _
section
variable {w0 w : World} {F : List HP} {d : Nat} {v : Nat → Value} {M : MD}
theorem open_nil (w : World) : Calls Tryd.prog 14 #[.pointer none] w fun e w' => e = .returned (.tuple #[.pointer none, .string ⟨#[]⟩, .slice none 0 0, .int .i64 1]) ∧ w' = w := by
  go_enter Tryd.func14, Tryd.ntmps14
  go_wp2_with fail
  (try simp only [Exit.inBlock, Exit.then])
  refine bodyPost_ret (results_tmp4 rfl _ _ _) rfl ?_
  exact ⟨rfl, rfl⟩
theorem ropen_nil (w : World) : Calls Tryd.prog 50 #[.pointer none] w fun e w' => e = .returned (.tuple #[.pointer none, .string ⟨#[]⟩, .slice none 0 0, .int .i64 1]) ∧ w' = w := by
  go_enter Tryd.func50, Tryd.ntmps50
  go_wp2_with fail
  (try simp only [Exit.inBlock, Exit.then])
  refine bodyPost_ret (results_tmp4 rfl _ _ _) rfl ?_
  exact ⟨rfl, rfl⟩
/-- what Open leaves -/
def OpOut (w0 : World) (F : List HP) (d : Nat) (M : MD) (e : Ending) (w' : World) : Prop :=
  ((takenF M).gen = 0 ∧ e = .returned (.tuple #[.pointer none, .string ⟨#[]⟩, .slice none 0 0, .int .i64 61]) ∧ ∃ v', Sat w0 w' (DiskV d v' M :: F)) ∨
  ((takenF M).gen ≠ 0 ∧ ∃ j A c v', e = .returned (.tuple #[.pointer (some ⟨j, 0, none⟩), .string (takenF M).snap, .slice A (takenF M).recs.length c, .int .i64 0]) ∧
    Sat w0 w' (Row 9 1 A (takenF M).recs.length c (strs (takenF M).recs) :: JB j d ⟨taken M, (takenF M).gen, (takenF M).recs.length⟩ :: DiskV d v' (openM M) :: F))
set_option maxHeartbeats 1600000 in
theorem open_any (hS : Sat w0 w (DiskV d v M :: F)) (hok : M.Ok) (hO : Old w0 ∈ F) (hT : Table w0) : Calls Tryd.prog 14 #[.pointer (some ⟨d, 0, none⟩)] w (OpOut w0 F d M) := by
  have HOK := Lib.hid hok
  have HL := Lib.hid (fun (w1 : World) (F1 : List HP) (i : Nat) (hi : i < 4) (h1 : Sat w0 w1 (DiskV d v M :: F1)) (hO1 : Old w0 ∈ F1) => look_any h1 hok i hi hO1 hT)
  have hTk : taken M = if (foundM M 0).gen < (foundM M 1).gen then 1 else 0 := rfl
  have hTF : takenF M = foundM M (taken M) := rfl
  have hOM : openM M = (syncR (cutR (cutR M ((1 - taken M : Nat) : Int) 0).1 ((taken M : Nat) : Int) (((takenF M).size : Nat) : Int)).1 ((taken M : Nat) : Int)).1 := rfl
  have HL0 := Lib.hid (HL.out w F 0 (by decide) hS hO)
  have HL1 := Lib.hid (fun (w1 : World) (F1 : List HP) h1 h2 => HL.out w1 F1 1 (by decide) h1 h2)
  change Hid (Calls Tryd.prog 41 _ _ (LkOut w0 (DiskV d v M :: F) (foundM M 0))) at HL0
  change Hid (∀ w1 F1 h1 h2, Calls Tryd.prog 41 _ _ (LkOut w0 (DiskV d v M :: F1) (foundM M 1))) at HL1
  obtain ⟨f0, hf0⟩ : ∃ f, foundM M 0 = f := ⟨_, rfl⟩
  obtain ⟨f1, hf1⟩ : ∃ f, foundM M 1 = f := ⟨_, rfl⟩
  have HF0 := Lib.hid hf0
  have HF1 := Lib.hid hf1
  rw [hf0] at HL0 hTk
  rw [hf1] at HL1 hTk
  obtain ⟨g0, s0, r0, z0⟩ := f0
  obtain ⟨g1, s1, r1, z1⟩ := f1
  simp only at HL0 HL1 hTk
  unfold LkOut at HL0 HL1
  simp only at HL0 HL1
  clear hf0 hf1
  by_cases hg : g0 < g1
  · rw [if_pos hg] at hTk
    have t0 : decide ((g1 : Int) > (g0 : Int)) = true := decide_eq_true (by omega)
    have t1 : decide ((g0 : Int) < (g1 : Int)) = true := decide_eq_true (by omega)
    have t2 : ((g1 : Int) == 0) = false := by rw [beq_eq_false_iff_ne]; omega
    have hgn : g1 ≠ 0 := by omega
    have HGN := Lib.hid hgn
    rw [hTk, HF1.out] at hTF
    rw [hTk, hTF] at hOM
    have HTK := Lib.hid hTk
    have HTF := Lib.hid hTF
    have HOM : Hid (openM M = (syncR (cutR (cutR M 0 0).1 1 (z1 : Int)).1 1).1) := hOM
    unfold OpOut
    have t3 : decide (g0 < g1) = true := decide_eq_true hg
    clear hgn hTk hTF hOM hok HF0 HF1 HL
    go_enter Tryd.func14, Tryd.ntmps14
    go_wp2_with fail
    refine HL0.out.mono ?_
    rintro e w1 ⟨A0, c0, rfl, h1⟩
    have h2 := Lib.hid (h1.new #[.int .i64 g0, .string s0, .slice A0 r0.length c0, .int .i64 z0] 90)
    clear hS h1
    go_wp2_with fail
    refine (HL1.out _ _ h2.out.r3 (by simp [hO])).mono ?_
    rintro e w2 ⟨A1, c1, rfl, h3⟩
    obtain ⟨g7, hg7⟩ : ∃ g, w1.heap.size = g := ⟨_, rfl⟩
    rw [hg7] at h3 ⊢
    have h4 := h3.new #[.int .i64 g1, .string s1, .slice A1 r1.length c1, .int .i64 z1] 90
    obtain ⟨w3, hw3⟩ : ∃ w', w2.alloc (.cells #[.int .i64 g1, .string s1, .slice A1 r1.length c1, .int .i64 z1] 90) = w' := ⟨_, rfl⟩
    have HW := Lib.hid hw3
    rw [hw3] at h4
    have h5 := h4.r4
    have x0 := h5.blk.cell 0
    have x1 := h5.blk.cell 1
    have x2 := h5.blk.cell 2
    have x3 := h5.blk.cell 3
    have f0 := h5.blk.free 0
    have f1 := h5.blk.free 1
    have f2 := h5.blk.free 2
    have f3 := h5.blk.free 3
    have y0 := h4.blk.cell 0
    have y1 := h4.blk.cell 1
    have y2 := h4.blk.cell 2
    have y3 := h4.blk.cell 3
    clear h2 h3 hg7 h4
    have H6 := Lib.hid ((((h5.set 0 (.int .i64 g1)).set 1 (.string s1)).set 2 (.slice A1 r1.length c1)).set 3 (.int .i64 z1))
    clear h5
    go_wp2_with (rw [hw3]; clear hw3)
    go_region
    have H7 := Lib.hid H6.out.drew
    obtain ⟨w4, hw4⟩ : ∃ w', ((((w3.setCell ⟨g7, 0, none⟩ (.int .i64 g1)).setCell ⟨g7, 1, none⟩ (.string s1)).setCell ⟨g7, 2, none⟩ (.slice A1 r1.length c1)).setCell ⟨g7, 3, none⟩ (.int .i64 z1)).drew = w' := ⟨_, rfl⟩
    rw [hw4] at H7 ⊢
    have hD := H7.out.r5.tail.r2.tail.r3
    clear hw4 H6 H7 x0 x1 x2 x3 y0 y1 y2 y3 f0 f1 f2 f3
    have u0 := hD.r2.blk.cell 0
    have u1 := hD.r2.blk.cell 1
    have u2 := hD.r2.blk.cell 2
    have u3 := hD.r2.blk.cell 3
    go_wp2_with fail
    refine (cut_sat hD HOK.out (0 : Int) 0).mono ?_
    rintro e w5 ⟨rfl, v5, h5⟩
    have v0 := h5.r2.blk.cell 0
    have v1 := h5.r2.blk.cell 1
    have v2 := h5.r2.blk.cell 2
    have v3 := h5.r2.blk.cell 3
    have HOK2 : Hid ((cutR M (0 : Int) 0).1.Ok) := cut_ok HOK.out _ _
    obtain ⟨M5, hM5⟩ : ∃ x, (cutR M (0 : Int) 0).1 = x := ⟨_, rfl⟩
    rw [hM5] at h5 HOM HOK2
    clear hM5 u0 u1 u2 u3 hD
    go_wp2_with fail
    refine (cut_sat h5 HOK2.out (1 : Int) (z1 : Int)).mono ?_
    rintro e w6 ⟨rfl, v6, h6⟩
    have u0 := h6.r2.blk.cell 0
    have u1 := h6.r2.blk.cell 1
    have u2 := h6.r2.blk.cell 2
    have u3 := h6.r2.blk.cell 3
    obtain ⟨M6, hM6⟩ : ∃ x, (cutR M5 (1 : Int) (z1 : Int)).1 = x := ⟨_, rfl⟩
    rw [hM6] at h6 HOM
    clear hM6 v0 v1 v2 v3 h5
    go_wp2_with fail
    refine (sync_sat h6 (1 : Int)).mono ?_
    rintro e w7 ⟨rfl, v7, h7⟩
    rw [← HOM.out] at h7
    have v0 := h7.r2.blk.cell 0
    have v1 := h7.r2.blk.cell 1
    have v2 := h7.r2.blk.cell 2
    have v3 := h7.r2.blk.cell 3
    clear u0 u1 u2 u3 h6
    go_wp2_with fail
    have hA := h7.new #[.pointer (some ⟨d, 0, none⟩), .int .i64 (1 : Int), .int .i64 g1, .int .i64 r1.length] 78
    have u0 := hA.r3.blk.cell 0
    have u1 := hA.r3.blk.cell 1
    have u2 := hA.r3.blk.cell 2
    have u3 := hA.r3.blk.cell 3
    have HA := Lib.hid hA
    clear hA h7
    go_region
    go_wp2_with fail
    (try simp only [Exit.inBlock, Exit.then])
    refine bodyPost_ret (results_tmp4 rfl _ _ _) rfl ?_
    rw [HTF.out, HTK.out]
    exact .inr ⟨HGN.out, _, _, _, rfl, v7, HA.out.drew.r3.tail.r3⟩
  · rw [if_neg hg] at hTk
    have t0 : decide ((g1 : Int) > (g0 : Int)) = false := decide_eq_false (by omega)
    have t1 : decide ((g0 : Int) < (g1 : Int)) = false := decide_eq_false (by omega)
    have t3 : decide (g0 < g1) = false := decide_eq_false hg
    rw [hTk, HF0.out] at hTF
    rw [hTk, hTF] at hOM
    have HTK := Lib.hid hTk
    have HTF := Lib.hid hTF
    have HOM : Hid (openM M = (syncR (cutR (cutR M 1 0).1 0 (z0 : Int)).1 0).1) := hOM
    unfold OpOut
    clear hTk hTF hOM hok HF0 HF1 HL
    go_enter Tryd.func14, Tryd.ntmps14
    go_wp2_with fail
    refine HL0.out.mono ?_
    rintro e w1 ⟨A0, c0, rfl, h1⟩
    have h2 := Lib.hid (h1.new #[.int .i64 g0, .string s0, .slice A0 r0.length c0, .int .i64 z0] 90)
    clear hS h1
    go_wp2_with fail
    refine (HL1.out _ _ h2.out.r3 (by simp [hO])).mono ?_
    rintro e w2 ⟨A1, c1, rfl, h3⟩
    obtain ⟨g7, hg7⟩ : ∃ g, w1.heap.size = g := ⟨_, rfl⟩
    rw [hg7] at h3 ⊢
    have h4 := h3.new #[.int .i64 g1, .string s1, .slice A1 r1.length c1, .int .i64 z1] 90
    obtain ⟨w3, hw3⟩ : ∃ w', w2.alloc (.cells #[.int .i64 g1, .string s1, .slice A1 r1.length c1, .int .i64 z1] 90) = w' := ⟨_, rfl⟩
    rw [hw3] at h4
    have h5 := h4.r4
    have x0 := h5.blk.cell 0
    have y0 := h4.blk.cell 0
    have hD := h4.tail.tail
    clear h2 h3 hg7 h4 h5
    by_cases hz : g0 = 0
    · subst hz
      go_wp2_with (rw [hw3]; clear hw3)
      (try simp only [Exit.inBlock, Exit.then])
      refine bodyPost_ret (results_tmp4 rfl _ _ _) rfl ?_
      rw [HTF.out]
      exact .inl ⟨rfl, rfl, v, hD.r2.tail.r2.tail⟩
    · have t2 : ((g0 : Int) == 0) = false := by rw [beq_eq_false_iff_ne]; omega
      have HGN := Lib.hid hz
      have u0 := hD.r2.blk.cell 0
      have u1 := hD.r2.blk.cell 1
      have u2 := hD.r2.blk.cell 2
      have u3 := hD.r2.blk.cell 3
      go_wp2_with (rw [hw3]; clear hw3)
      refine (cut_sat hD HOK.out (1 : Int) 0).mono ?_
      rintro e w5 ⟨rfl, v5, h5⟩
      have v0 := h5.r2.blk.cell 0
      have v1 := h5.r2.blk.cell 1
      have v2 := h5.r2.blk.cell 2
      have v3 := h5.r2.blk.cell 3
      have HOK2 : Hid ((cutR M (1 : Int) 0).1.Ok) := cut_ok HOK.out _ _
      obtain ⟨M5, hM5⟩ : ∃ x, (cutR M (1 : Int) 0).1 = x := ⟨_, rfl⟩
      rw [hM5] at h5 HOM HOK2
      clear hM5 u0 u1 u2 u3 hD
      go_wp2_with fail
      refine (cut_sat h5 HOK2.out (0 : Int) (z0 : Int)).mono ?_
      rintro e w6 ⟨rfl, v6, h6⟩
      have u0 := h6.r2.blk.cell 0
      have u1 := h6.r2.blk.cell 1
      have u2 := h6.r2.blk.cell 2
      have u3 := h6.r2.blk.cell 3
      obtain ⟨M6, hM6⟩ : ∃ x, (cutR M5 (0 : Int) (z0 : Int)).1 = x := ⟨_, rfl⟩
      rw [hM6] at h6 HOM
      clear hM6 v0 v1 v2 v3 h5
      go_wp2_with fail
      refine (sync_sat h6 (0 : Int)).mono ?_
      rintro e w7 ⟨rfl, v7, h7⟩
      rw [← HOM.out] at h7
      have v0 := h7.r2.blk.cell 0
      have v1 := h7.r2.blk.cell 1
      have v2 := h7.r2.blk.cell 2
      have v3 := h7.r2.blk.cell 3
      clear u0 u1 u2 u3 h6
      go_wp2_with fail
      have hA := h7.new #[.pointer (some ⟨d, 0, none⟩), .int .i64 (0 : Int), .int .i64 g0, .int .i64 r0.length] 78
      have u0 := hA.r3.blk.cell 0
      have u1 := hA.r3.blk.cell 1
      have u2 := hA.r3.blk.cell 2
      have u3 := hA.r3.blk.cell 3
      have HA := Lib.hid hA
      clear hA h7
      go_region
      go_wp2_with fail
      (try simp only [Exit.inBlock, Exit.then])
      refine bodyPost_ret (results_tmp4 rfl _ _ _) rfl ?_
      rw [HTF.out, HTK.out]
      exact .inr ⟨HGN.out, _, _, _, rfl, v7, HA.out.drew.r3.tail.r3⟩
end
end Go.Proofs.YtjlpgjfgeikdeaaDoor
end

section
/- Open: the document's. -/
set_option linter.unusedVariables false
set_option linter.unusedSimpArgs false
set_option linter.unnecessarySimpa false
set_option maxRecDepth 100000
namespace Go.Proofs.YtjlpgjfgeikdeaaDoor
open Go.RowKit Go.ChangeShapes Go.WideShapes Go.ChangeAt
open Fr (strOfNats strOfNats_size strOfNats_bytes bytesOf Table restOf wrapS)
section
variable {w0 w : World} {F : List HP} {r : Nat} {M : MD}
/-- what Open leaves -/
def ROpOut (w0 : World) (F : List HP) (r : Nat) (M : MD) (e : Ending) (w' : World) : Prop :=
  ((takenF M).gen = 0 ∧ e = .returned (.tuple #[.pointer none, .string ⟨#[]⟩, .slice none 0 0, .int .i64 61]) ∧ Sat w0 w' (Blk r 83 (cellsR M) :: F)) ∨
  ((takenF M).gen ≠ 0 ∧ ∃ y A c, e = .returned (.tuple #[.pointer (some ⟨y, 0, none⟩), .string (takenF M).snap, .slice A (takenF M).recs.length c, .int .i64 0]) ∧
    Sat w0 w' (Row 9 1 A (takenF M).recs.length c (strs (takenF M).recs) :: RB y r ⟨taken M, (takenF M).gen, (takenF M).recs.length⟩ :: Blk r 83 (cellsR (openM M)) :: F))
set_option maxHeartbeats 1600000 in
theorem ropen_any (hS : Sat w0 w (Blk r 83 (cellsR M) :: F)) (hok : M.Ok) : Calls Tryd.prog 50 #[.pointer (some ⟨r, 0, none⟩)] w (ROpOut w0 F r M) := by
  have HOK := Lib.hid hok
  have hTk : taken M = if (foundM M 0).gen < (foundM M 1).gen then 1 else 0 := rfl
  have hTF : takenF M = foundM M (taken M) := rfl
  have hOM : openM M = (syncR (cutR (cutR M ((1 - taken M : Nat) : Int) 0).1 ((taken M : Nat) : Int) (((takenF M).size : Nat) : Int)).1 ((taken M : Nat) : Int)).1 := rfl
  have l0 := ok_len hok (i := 0) (by decide)
  have l1 := ok_len hok (i := 1) (by decide)
  have HL0 := Lib.hid (fun (w1 : World) (F1 : List HP) (h1 : Sat w0 w1 F1) => rfound_any h1 (M.f 0).b l0)
  have HL1 := Lib.hid (fun (w1 : World) (F1 : List HP) (h1 : Sat w0 w1 F1) => rfound_any h1 (M.f 1).b l1)
  change Hid (∀ w1 F1 h1, Calls Tryd.prog 61 _ _ (FdOut w0 F1 (foundM M 0))) at HL0
  change Hid (∀ w1 F1 h1, Calls Tryd.prog 61 _ _ (FdOut w0 F1 (foundM M 1))) at HL1
  have HR0 := Lib.hid (cellsR_row M 0 (by decide))
  have HR1 := Lib.hid (cellsR_row M 1 (by decide))
  have m0 := hS.blk.cell (0 * 2)
  rw [HR0.out] at m0
  obtain ⟨b0, hb0⟩ : ∃ b, (M.f 0).b = b := ⟨_, rfl⟩
  obtain ⟨b1, hb1⟩ : ∃ b, (M.f 1).b = b := ⟨_, rfl⟩
  have HB1 := Lib.hid hb1
  rw [hb0] at m0 HL0
  rw [hb1] at HL1 HR1
  obtain ⟨f0, hf0⟩ : ∃ f, foundM M 0 = f := ⟨_, rfl⟩
  obtain ⟨f1, hf1⟩ : ∃ f, foundM M 1 = f := ⟨_, rfl⟩
  have HF0 := Lib.hid hf0
  have HF1 := Lib.hid hf1
  rw [hf0] at HL0 hTk
  rw [hf1] at HL1 hTk
  obtain ⟨g0, s0, r0, z0⟩ := f0
  obtain ⟨g1, s1, r1, z1⟩ := f1
  simp only at HL0 HL1 hTk
  unfold FdOut at HL0 HL1
  simp only at HL0 HL1
  clear hf0 hf1 hb0 hb1 l0 l1 HR0 HB1
  by_cases hg : g0 < g1
  · rw [if_pos hg] at hTk
    have t0 : decide ((g1 : Int) > (g0 : Int)) = true := decide_eq_true (by omega)
    have t1 : decide ((g0 : Int) < (g1 : Int)) = true := decide_eq_true (by omega)
    have t2 : ((g1 : Int) == 0) = false := by rw [beq_eq_false_iff_ne]; omega
    have t3 : decide (g0 < g1) = true := decide_eq_true hg
    have hgn : g1 ≠ 0 := by omega
    have HGN := Lib.hid hgn
    rw [hTk, HF1.out] at hTF
    rw [hTk, hTF] at hOM
    have HTK := Lib.hid hTk
    have HTF := Lib.hid hTF
    have HOM : Hid (openM M = (syncR (cutR (cutR M 0 0).1 1 (z1 : Int)).1 1).1) := hOM
    unfold ROpOut
    clear hgn hTk hTF hOM hok HF0 HF1
    go_enter Tryd.func50, Tryd.ntmps50
    go_wp2_with fail
    refine (HL0.out _ _ hS).mono ?_
    rintro e w1 ⟨A0, c0, rfl, h1⟩
    have m1 := h1.r2.blk.cell (1 * 2)
    rw [HR1.out] at m1
    clear hS m0
    go_wp2_with fail
    refine (HL1.out _ _ h1).mono ?_
    rintro e w2 ⟨A1, c1, rfl, h2⟩
    clear m1 h1
    have hD := h2.r2.tail
    clear h2
    go_wp2_with fail
    refine (rcut_sat hD HOK.out (0 : Int) 0).mono ?_
    rintro e w5 ⟨rfl, h5⟩
    have HOK2 : Hid ((cutR M (0 : Int) 0).1.Ok) := cut_ok HOK.out _ _
    obtain ⟨M5, hM5⟩ : ∃ x, (cutR M (0 : Int) 0).1 = x := ⟨_, rfl⟩
    rw [hM5] at h5 HOM HOK2
    clear hM5 hD
    go_wp2_with fail
    refine (rcut_sat h5 HOK2.out (1 : Int) (z1 : Int)).mono ?_
    rintro e w6 ⟨rfl, h6⟩
    obtain ⟨M6, hM6⟩ : ∃ x, (cutR M5 (1 : Int) (z1 : Int)).1 = x := ⟨_, rfl⟩
    rw [hM6] at h6 HOM
    clear hM6 h5
    go_wp2_with fail
    refine (rsync_sat h6 (1 : Int)).mono ?_
    rintro e w7 ⟨rfl, h7⟩
    rw [← HOM.out] at h7
    clear h6
    have HA := Lib.hid (h7.new #[.pointer (some ⟨r, 0, none⟩), .int .i64 (1 : Int), .int .i64 g1, .int .i64 r1.length] 86)
    clear h7
    go_wp2_with fail
    (try simp only [Exit.inBlock, Exit.then])
    refine bodyPost_ret (results_tmp4 rfl _ _ _) rfl ?_
    rw [HTF.out, HTK.out]
    exact .inr ⟨HGN.out, _, _, _, rfl, HA.out.r2⟩
  · rw [if_neg hg] at hTk
    have t0 : decide ((g1 : Int) > (g0 : Int)) = false := decide_eq_false (by omega)
    have t1 : decide ((g0 : Int) < (g1 : Int)) = false := decide_eq_false (by omega)
    have t3 : decide (g0 < g1) = false := decide_eq_false hg
    rw [hTk, HF0.out] at hTF
    rw [hTk, hTF] at hOM
    have HTK := Lib.hid hTk
    have HTF := Lib.hid hTF
    have HOM : Hid (openM M = (syncR (cutR (cutR M 1 0).1 0 (z0 : Int)).1 0).1) := hOM
    unfold ROpOut
    clear hTk hTF hOM hok HF0 HF1
    go_enter Tryd.func50, Tryd.ntmps50
    go_wp2_with fail
    refine (HL0.out _ _ hS).mono ?_
    rintro e w1 ⟨A0, c0, rfl, h1⟩
    have m1 := h1.r2.blk.cell (1 * 2)
    rw [HR1.out] at m1
    clear hS m0
    go_wp2_with fail
    refine (HL1.out _ _ h1).mono ?_
    rintro e w2 ⟨A1, c1, rfl, h2⟩
    clear m1 h1
    have hD := h2.tail
    clear h2
    by_cases hz : g0 = 0
    · subst hz
      go_wp2_with fail
      (try simp only [Exit.inBlock, Exit.then])
      refine bodyPost_ret (results_tmp4 rfl _ _ _) rfl ?_
      rw [HTF.out]
      exact .inl ⟨rfl, rfl, hD.tail⟩
    · have t2 : ((g0 : Int) == 0) = false := by rw [beq_eq_false_iff_ne]; omega
      have HGN := Lib.hid hz
      go_wp2_with fail
      refine (rcut_sat hD HOK.out (1 : Int) 0).mono ?_
      rintro e w5 ⟨rfl, h5⟩
      have HOK2 : Hid ((cutR M (1 : Int) 0).1.Ok) := cut_ok HOK.out _ _
      obtain ⟨M5, hM5⟩ : ∃ x, (cutR M (1 : Int) 0).1 = x := ⟨_, rfl⟩
      rw [hM5] at h5 HOM HOK2
      clear hM5 hD
      go_wp2_with fail
      refine (rcut_sat h5 HOK2.out (0 : Int) (z0 : Int)).mono ?_
      rintro e w6 ⟨rfl, h6⟩
      obtain ⟨M6, hM6⟩ : ∃ x, (cutR M5 (0 : Int) (z0 : Int)).1 = x := ⟨_, rfl⟩
      rw [hM6] at h6 HOM
      clear hM6 h5
      go_wp2_with fail
      refine (rsync_sat h6 (0 : Int)).mono ?_
      rintro e w7 ⟨rfl, h7⟩
      rw [← HOM.out] at h7
      clear h6
      have HA := Lib.hid (h7.new #[.pointer (some ⟨r, 0, none⟩), .int .i64 (0 : Int), .int .i64 g0, .int .i64 r0.length] 86)
      clear h7
      go_wp2_with fail
      (try simp only [Exit.inBlock, Exit.then])
      refine bodyPost_ret (results_tmp4 rfl _ _ _) rfl ?_
      rw [HTF.out, HTK.out]
      exact .inr ⟨HGN.out, _, _, _, rfl, HA.out.r2⟩
end
end Go.Proofs.YtjlpgjfgeikdeaaDoor
end

section
/- The law's own functions: alike. -/
set_option linter.unusedVariables false
set_option linter.unusedSimpArgs false
set_option linter.unnecessarySimpa false
set_option maxRecDepth 100000
namespace Go.Proofs.YtjlpgjfgeikdeaaDoor
open Go.RowKit Go.ChangeShapes Go.WideShapes Go.ChangeAt
open Fr (strOfNats strOfNats_size strOfNats_bytes bytesOf Table restOf wrapS)
section
variable {w0 w : World} {F : List HP} {d r : Nat} {v : Nat → Value} {M : MD}
def LoopRel (w0 : World) (G : List HP) (n : Nat) (i : Value) (wr : World) : Prop := ∃ k : Nat, k ≤ n ∧ i = .int .i64 k ∧ Sat w0 wr G
def DrewRel (w : World) (n : Nat) (i : Value) (wr : World) : Prop := ∃ k m : Nat, k ≤ n ∧ i = .int .i64 k ∧ wr = w.drewN m
theorem int_same (a : Nat) : (((a : Int) != (a : Int))) = false := by simp
set_option maxHeartbeats 800000 in
theorem alike_any (hS : Sat w0 w (DiskV d v M :: Blk r 83 (cellsR M) :: F)) (hok : M.Ok) :
    Calls Tryd.prog 13 #[.pointer (some ⟨d, 0, none⟩), .pointer (some ⟨r, 0, none⟩)] w fun e w' => e = .returned (.bool true) ∧ ∃ m, w' = w.drewN m := by
  go_enter Tryd.func13, Tryd.ntmps13
  go_wp2_with fail
  go_loopw [5] (DrewRel w 4) (fun i _ => 4 - (intOf i).toNat)
  case atStart => exact ⟨0, 0, by omega, rfl, rfl⟩
  case round =>
    obtain ⟨k, m0, hk, rfl, rfl⟩ := hrel
    have hT := hS.drewN m0
    have HSS := Lib.hid hS
    clear hS
    by_cases hlt : k < 4
    · have H1 := Lib.hid (fun (w1 : World) (h1 : Sat w0 w1 (DiskV d v M :: Blk r 83 (cellsR M) :: F)) => read_sat h1 (k : Int))
      have H2 := Lib.hid (fun (w1 : World) (h1 : Sat w0 w1 (DiskV d v M :: Blk r 83 (cellsR M) :: F)) => rread_sat h1 (k : Int))
      have H3 := Lib.hid (fun (w1 : World) (h1 : Sat w0 w1 (DiskV d v M :: Blk r 83 (cellsR M) :: F)) => size_sat h1 (k : Int))
      have H4 := Lib.hid (fun (w1 : World) (h1 : Sat w0 w1 (DiskV d v M :: Blk r 83 (cellsR M) :: F)) => rsize_sat h1 (k : Int))
      obtain ⟨⟨b, e1⟩, hb⟩ : ∃ x, readV M (k : Int) = x := ⟨_, rfl⟩
      obtain ⟨⟨z, y, e2⟩, hz⟩ : ∃ x, sizeV M (k : Int) = x := ⟨_, rfl⟩
      rw [hb] at H1 H2
      rw [hz] at H3 H4
      simp only at H1 H2 H3 H4
      have hs := str_same b b rfl
      have i1 : (z != z) = false := by simp
      have i2 : (y != y) = false := by simp
      clear hb hz
      go_wp2_with fail
      refine (H1.out _ hT).mono ?_
      rintro e w1 ⟨rfl, rfl⟩
      go_wp2_with fail
      refine (H2.out _ hT).mono ?_
      rintro e w2 ⟨rfl, rfl⟩
      go_wp2_with fail
      refine (H3.out _ hT).mono ?_
      rintro e w3 ⟨rfl, m1, rfl⟩
      go_wp2_with fail
      refine (H4.out _ (HSS.out.drewN _)).mono ?_
      rintro e w4 ⟨rfl, m2, rfl⟩
      go_wp2_with fail
      go_roundw
      case rel => exact ⟨k + 1, _, by omega, by go_num, rfl⟩
      case measure => simp [intOf]; omega
    · have hk4 : k = 4 := by omega
      subst hk4
      go_wp2_with fail
      go_ret
      exact ⟨rfl, m0, rfl⟩
end
end Go.Proofs.YtjlpgjfgeikdeaaDoor
end

section
/- The law's own functions: stat of a pair, lists compared, a list written over. -/
set_option linter.unusedVariables false
set_option linter.unusedSimpArgs false
set_option linter.unnecessarySimpa false
set_option maxRecDepth 100000
namespace Go.Proofs.YtjlpgjfgeikdeaaDoor
open Go.RowKit Go.ChangeShapes Go.WideShapes Go.ChangeAt
open Fr (strOfNats strOfNats_size strOfNats_bytes bytesOf Table restOf wrapS)
section
variable {w0 w : World} {F : List HP} {d r j y p : Nat} {v : Nat → Value} {M : MD} {J : JS}
/-- the pair's cell -/
def PB (p d j r y : Nat) : HP := Blk p 56 [.pointer (some ⟨d, 0, none⟩), .pointer (some ⟨j, 0, none⟩), .pointer (some ⟨r, 0, none⟩), .pointer (some ⟨y, 0, none⟩)]
/-- what stands: both journals and both disks -/
def Two (d j r y : Nat) (v : Nat → Value) (M : MD) (J : JS) (F : List HP) : List HP := JB j d J :: DiskV d v M :: RB y r J :: Blk r 83 (cellsR M) :: F
set_option maxHeartbeats 800000 in
theorem statP_any (hS : Sat w0 w (PB p d j r y :: Two d j r y v M J F)) (hf : J.file < 4) :
    Calls Tryd.prog 24 #[.pointer (some ⟨p, 0, none⟩)] w fun e w' => e = .returned (.bool true) ∧ Sat w0 w' (PB p d j r y :: Two d j r y v M J F) := by
  unfold Two at hS ⊢
  have x1 : w.cell? ⟨p, 1, none⟩ = some (.pointer (some ⟨j, 0, none⟩)) := hS.blk.cell 1
  have H1 := Lib.hid (stat_any (F := PB p d j r y :: RB y r J :: Blk r 83 (cellsR M) :: F) hS.r3.r3 hf)
  have H2 := Lib.hid (fun (w1 : World) (h1 : Sat w0 w1 (RB y r J :: Blk r 83 (cellsR M) :: JB j d J :: DiskV d v M :: PB p d j r y :: F)) => rstat_any h1 hf)
  unfold statE at H1 H2
  obtain ⟨file, gen, n⟩ := J
  simp only at H1 H2
  obtain ⟨z, hz⟩ : ∃ z, (M.f file).b.size = z := ⟨_, rfl⟩
  rw [hz] at H1 H2
  have i1 : ((z : Int) == z) = true := by simp
  have i2 : ((gen : Int) == gen) = true := by simp
  have i3 : ((n : Int) == n) = true := by simp
  clear hz hf
  go_enter Tryd.func24, Tryd.ntmps24
  go_wp2_with fail
  refine H1.out.mono ?_
  rintro e w1 ⟨rfl, h1⟩
  clear x1
  have h2 := h1.r3
  have x3 : w1.cell? ⟨p, 3, none⟩ = some (.pointer (some ⟨y, 0, none⟩)) := h2.blk.cell 3
  have h3 := h1.r5.r5
  go_wp2_with fail
  refine (H2.out _ h3).mono ?_
  rintro e w2 ⟨rfl, h4⟩
  go_wp2_with fail
  go_ret
  exact ⟨rfl, h4.r4.r4.r5⟩
theorem row_strs {A : Option Addr} {c : Nat} {L : List ByteArray} (hS : Sat w0 w (Row 9 1 A L.length c (strs L) :: F)) : Fr.Strs w (.slice A L.length c) L := by
  refine ⟨A, c, rfl, ?_⟩
  by_cases h0 : L = []
  · exact .inl h0
  · obtain ⟨g, rfl, hc⟩ := row_str hS (List.length_pos_iff.2 h0)
    refine .inr ⟨_, rfl, fun i hi => ?_⟩
    have := hc i hi
    rw [show (Addr.mk g 0 none).add i = ⟨g, i, none⟩ by unfold Addr.add; split <;> simp_all, this]
    simp [hi]
theorem same_sat {A B : Option Addr} {c e : Nat} {L K : List ByteArray} (hS : Sat w0 w (Row 9 1 A L.length c (strs L) :: Row 9 1 B K.length e (strs K) :: F)) (hl : L.length ≤ 1048576) (hk : K.length ≤ 1048576) :
    Calls Tryd.prog 18 #[.slice A L.length c, .slice B K.length e] w fun en w' => en = .returned (.bool (decide (L = K))) ∧ Sat w0 w' (Row 9 1 A L.length c (strs L) :: Row 9 1 B K.length e (strs K) :: F) := by
  refine (Fr.same_any _ _ L K w (row_strs hS) (row_strs hS.r2) (by omega) (by omega)).mono ?_
  rintro en w' ⟨rfl, n, rfl⟩
  exact ⟨rfl, hS.drewN n⟩
def wrt : ByteArray := ⟨#[119, 114, 105, 116, 116, 101, 110]⟩
def ovr : ByteArray := ⟨#[111, 118, 101, 114]⟩
def FilRel (w0 : World) (F : List HP) (A : Option Addr) (c : Nat) (L : List ByteArray) (i : Value) (wr : World) : Prop :=
  ∃ (k : Nat) (K : List ByteArray), K.length = L.length ∧ k ≤ L.length ∧ i = .int .i64 k ∧ Sat w0 wr (Row 9 1 A L.length c (strs K) :: F)
theorem filled_last {A' : Option Addr} {c' : Nat} {L K : List ByteArray} (hKL : K.length = L.length) (hT2 : Sat w0 w (Row 9 1 A' (L.length + 2) c' (strs K ++ [.string ovr, .string ovr]) :: F)) :
    ∃ g', w.cell? ⟨g', L.length + 1, none⟩ = some (.string ovr) ∧ w.frozen? ⟨g', L.length + 1, none⟩ = false ∧ Hid (Sat w0 (w.setCell ⟨g', L.length + 1, none⟩ (.string ⟨#[97, 108, 108]⟩)) F) ∧ A' = some ⟨g', 0, none⟩ := by
  obtain ⟨g', rfl, hc', hfr'⟩ := hT2.rowCell (by simp)
  refine ⟨g', ?_, hfr' _, Lib.hid (hT2.rowSet (L.length + 1) (.string ⟨#[97, 108, 108]⟩)).tail, rfl⟩
  rw [hc' (L.length + 1) (by simp [strs, hKL]), List.getElem?_append_right (by simp [strs, hKL])]
  simp [strs, hKL]
set_option maxHeartbeats 800000 in
theorem filled_any {A : Option Addr} {c : Nat} {L : List ByteArray} (hS : Sat w0 w (Row 9 1 A L.length c (strs L) :: F)) (hl : L.length ≤ 1048576) :
    Calls Tryd.prog 51 #[.slice A L.length c] w fun e w' => e = .returned (.tuple #[]) ∧ Sat w0 w' F := by
  obtain ⟨ii, hi, hz, hsz9, hby⟩ := info_parts info9
  go_enter Tryd.func51, Tryd.ntmps51
  go_wp2_with fail
  go_loopw [2] (FilRel w0 F A c L) (fun i _ => L.length - (intOf i).toNat)
  case atStart => exact ⟨0, L, rfl, by omega, rfl, hS⟩
  case round =>
    obtain ⟨k, K, hKL, hk, rfl, hT⟩ := hrel
    clear hS
    by_cases hlt : k < L.length
    · obtain ⟨g, rfl, hc, hfr⟩ := hT.rowCell (by intro e; have := strs_len K; rw [e] at this; simp at this; omega)
      have x := hc k (by rw [strs_len]; omega)
      rw [show (strs K)[k]? = some (.string (K[k]'(by omega))) by simp [strs, show k < K.length by omega]] at x
      have f := hfr k
      have hT2 := Lib.hid (hT.rowSet k (.string wrt))
      unfold wrt at hT2
      clear hc hfr
      go_wp2_with fail
      go_roundw
      case rel => exact ⟨k + 1, K.set k wrt, by simp [hKL], by omega, by go_num, by rw [show strs (K.set k wrt) = (strs K).set k (.string wrt) by simp [strs, List.map_set]]; exact hT2.out⟩
      case measure => simp [intOf]; omega
    · have hm1 : L.length + 2 ≤ maxLen := by unfold maxLen; omega
      have hm2 : (L.length + 2) * 16 ≤ 140737488355328 := by omega
      have hNB := hT.new #[.string ovr, .string ovr] 9
      unfold ovr at hNB
      go_wp2_with (at_builtin; refine wpList_appS rfl (.tmp 12) (.tmp 13) 37 rfl 9 ii (.string ⟨#[]⟩) 1 16 Tryd.underlying37 hi hz hsz9 hby rfl (by decide) (by rfl) hNB.tail (by rfl) (hNB.rdBlk 2 1 (by simp)) (strs_one [ovr, ovr]) hm1 hm2 ?_; intro A' c' w' hT2; obtain ⟨g', x, f, HT3, rfl⟩ := filled_last hKL hT2; clear hT2 hNB; unfold ovr at x)
      go_end0
      exact ⟨rfl, HT3.out⟩
end
end Go.Proofs.YtjlpgjfgeikdeaaDoor
end

section
/- The law's own functions: Open on both. -/
set_option linter.unusedVariables false
set_option linter.unusedSimpArgs false
set_option linter.unnecessarySimpa false
set_option maxRecDepth 100000
namespace Go.Proofs.YtjlpgjfgeikdeaaDoor
open Go.RowKit Go.ChangeShapes Go.WideShapes Go.ChangeAt
open Fr (strOfNats strOfNats_size strOfNats_bytes bytesOf Table restOf wrapS)
theorem shortB_len (l : List ByteArray) : (shortB l).length ≤ l.length := by
  induction l with
  | nil => simp [shortB]
  | cons r l ih => simp only [shortB]; split <;> simp_all
theorem foundB_len (l : List ByteArray) : (foundB l).recs.length ≤ l.length := by
  cases l with
  | nil => exact Nat.zero_le _
  | cons h t =>
    rw [foundB]
    split
    · have := shortB_len t
      simp only [List.length_cons]
      omega
    · exact Nat.zero_le _
theorem foundM_len {M : MD} (hok : M.Ok) {i : Nat} (hi : i < 4) : (foundM M i).recs.length ≤ 131072 := by
  have h1 := ok_len hok hi
  have h2 := foundB_len (scanB (M.f i).b)
  have h3 := sizeB_scan (M.f i).b
  have h4 := sizeB_len (scanB (M.f i).b)
  unfold foundM
  omega
theorem taken_lt (M : MD) : taken M < 2 := by unfold taken; split <;> decide
theorem takenF_len {M : MD} (hok : M.Ok) : (takenF M).recs.length ≤ 131072 := foundM_len hok (by have := taken_lt M; omega)
section
variable {w0 w : World} {F : List HP} {d r j y p : Nat} {v : Nat → Value} {M : MD} {J : JS}
theorem Sat.r7 {A B C D E G H : HP} {L : List HP} (h : Sat w0 w (A :: B :: C :: D :: E :: G :: H :: L)) : Sat w0 w (H :: A :: B :: C :: D :: E :: G :: L) := h.perm (List.perm_middle (l₁ := [A, B, C, D, E, G]))
def nilP : Value := .pointer none
/-- behind Open on both -/
def OpsOut (w0 : World) (F : List HP) (p d r : Nat) (M : MD) (e : Ending) (w' : World) : Prop := e = .returned (.bool true) ∧
  (((takenF M).gen = 0 ∧ ∃ v', Sat w0 w' (Blk p 56 [.pointer (some ⟨d, 0, none⟩), .pointer none, .pointer (some ⟨r, 0, none⟩), .pointer none] :: DiskV d v' M :: Blk r 83 (cellsR M) :: F)) ∨
   ((takenF M).gen ≠ 0 ∧ ∃ j y v', Sat w0 w' (PB p d j r y :: Two d j r y v' (openM M) ⟨taken M, (takenF M).gen, (takenF M).recs.length⟩ F)))
set_option maxHeartbeats 1600000 in
theorem opens_any {a b : Value} (hS : Sat w0 w (Blk p 56 [.pointer (some ⟨d, 0, none⟩), a, .pointer (some ⟨r, 0, none⟩), b] :: DiskV d v M :: Blk r 83 (cellsR M) :: F)) (hok : M.Ok) (hO : Old w0 ∈ F) (hT : Table w0) :
    Calls Tryd.prog 26 #[.pointer (some ⟨p, 0, none⟩)] w (OpsOut w0 F p d r M) := by
  have H1 := Lib.hid (open_any hS.r2 hok (by simp [hO]) hT)
  have H2 := Lib.hid (fun (w1 : World) (F1 : List HP) (h1 : Sat w0 w1 (Blk r 83 (cellsR M) :: F1)) => ropen_any h1 hok)
  have x0 : w.cell? ⟨p, 0, none⟩ = some (.pointer (some ⟨d, 0, none⟩)) := hS.blk.cell 0
  have hln := takenF_len hok
  have hfl := taken_lt M
  have hok2 := openM_ok hok
  unfold OpsOut
  by_cases hg : (takenF M).gen = 0
  · have HG := Lib.hid hg
    unfold OpOut at H1
    unfold ROpOut at H2
    have hsn := str_yes ⟨#[]⟩
    have HOK := Lib.hid hok
    clear hok hok2 hln hfl
    go_enter Tryd.func26, Tryd.ntmps26
    go_wp2_with fail
    refine H1.out.mono ?_
    rintro e w1 (⟨_, rfl, v1, h1⟩ | ⟨hz, _⟩)
    case inr => exact absurd hg hz
    clear x0 hS H1
    have h2 := h1.r2
    have x2 : w1.cell? ⟨p, 2, none⟩ = some (.pointer (some ⟨r, 0, none⟩)) := h2.blk.cell 2
    have h3 := h1.r3
    go_wp2_with fail
    refine (H2.out _ _ h3).mono ?_
    rintro e w2 (⟨_, rfl, h4⟩ | ⟨hz, _⟩)
    case inr => exact absurd hg hz
    clear h1 h2 x2 h3 H2 hg
    obtain ⟨L, hL⟩ : ∃ L, L = Blk r 83 (cellsR M) :: DiskV d v1 M :: Blk p 56 [.pointer (some ⟨d, 0, none⟩), a, .pointer (some ⟨r, 0, none⟩), b] :: F := ⟨_, rfl⟩
    have hIn : Sat w0 w2 L := by rw [hL]; exact h4
    have op : ∀ w', Sat w0 w' L → Sat w0 w' (Blk r 83 (cellsR M) :: DiskV d v1 M :: Blk p 56 [.pointer (some ⟨d, 0, none⟩), a, .pointer (some ⟨r, 0, none⟩), b] :: F) := fun w' h => by rw [hL] at h; exact h
    have f0 : ∀ x : In w0 L, x.w.cell? ⟨p, 0, none⟩ = some (.pointer (some ⟨d, 0, none⟩)) := fun x => (op _ x.ok).r3.blk.cell 0
    have f2 : ∀ x : In w0 L, x.w.cell? ⟨p, 2, none⟩ = some (.pointer (some ⟨r, 0, none⟩)) := fun x => (op _ x.ok).r3.blk.cell 2
    have c18 : Hid (∀ x : In w0 L, Calls Tryd.prog 18 #[.slice none 0 0, .slice none 0 0] x.w fun e w' => e = .returned (.bool true) ∧ ∃ y : In w0 L, w' = y.w) := by
      show ∀ x, _
      intro x
      have hc := Fr.same_any (.slice none 0 0) (.slice none 0 0) [] [] x.w ⟨none, 0, rfl, .inl rfl⟩ ⟨none, 0, rfl, .inl rfl⟩ (by decide) (by decide)
      rw [decide_eq_true (rfl : ([] : List ByteArray) = [])] at hc
      exact Calls.in_drewN hc
    have c13 : Hid (∀ x : In w0 L, Calls Tryd.prog 13 #[.pointer (some ⟨d, 0, none⟩), .pointer (some ⟨r, 0, none⟩)] x.w fun e w' => e = .returned (.bool true) ∧ ∃ y : In w0 L, w' = y.w) := by
      show ∀ x, _
      intro x
      have h := (op _ x.ok).r2
      exact Calls.in_drewN (alike_any h HOK.out)
    have HIN := Lib.hid hIn
    have HOP := Lib.hid op
    haveI hne : Nonempty (In w0 L) := ⟨⟨_, hIn⟩⟩
    clear hL op hIn h4
    go_wp2_with fail
    refine wp_region_in HIN.out (by kernel_rfl) (by kernel_rfl) ?_
    repeat go_big_quiet_step ((first | (go_at_call 18; exact c18.out _) | (go_at_call 13; exact c13.out _)))
    refine wpQuiet_nil ?_
    intro w7 hw'
    obtain ⟨x7, hw7⟩ := hw'
    have h7 := x7.ok
    rw [← hw7] at h7
    clear hw7 x7
    clear f0 f2 hne c18 c13
    have h8 := HOP.out _ h7
    clear h7 HIN HOP
    go_wp2_with fail
    refine (filled_any (L := []) (h8.nilRow 9 1) (by decide)).mono ?_
    rintro e w8 ⟨rfl, h9⟩
    have h10 := h9.r3
    have x1 := h10.blk.cell 1
    have x3 := h10.blk.cell 3
    have f1 := h10.blk.free 1
    have f3 := h10.blk.free 3
    have H11 := Lib.hid ((h10.set 1 (.pointer none)).set 3 (.pointer none)).r2.r3.r3
    clear h8 h9 h10
    go_wp2_with fail
    go_ret
    exact ⟨rfl, .inl ⟨HG.out, v1, H11.out⟩⟩
  · obtain ⟨Q, hQ⟩ : ∃ Q, takenF M = Q := ⟨_, rfl⟩
    obtain ⟨N, hN⟩ : ∃ N, openM M = N := ⟨_, rfl⟩
    obtain ⟨fl, hf⟩ : ∃ fl, taken M = fl := ⟨_, rfl⟩
    unfold OpOut at H1
    unfold ROpOut at H2
    rw [hQ, hN, hf] at H1 H2
    rw [hQ] at hg hln ⊢
    rw [hN] at hok2 ⊢
    rw [hf] at hfl ⊢
    clear hQ hN hf
    obtain ⟨gn, sn, rs, sz⟩ := Q
    simp only at H1 H2 hg hln
    have HG := Lib.hid hg
    have hsn := str_yes sn
    obtain ⟨n, hn⟩ : ∃ n, rs.length = n := ⟨_, rfl⟩
    have HN := Lib.hid hn
    have HOK := Lib.hid hok2
    clear hok hok2 hn
    go_enter Tryd.func26, Tryd.ntmps26
    go_wp2_with fail
    refine H1.out.mono ?_
    rintro e w1 (⟨hz, _⟩ | ⟨_, j, A, c, v1, rfl, h1⟩)
    · exact absurd hz hg
    clear x0 hS H1
    have h2 := h1.r4
    have x2 : w1.cell? ⟨p, 2, none⟩ = some (.pointer (some ⟨r, 0, none⟩)) := h2.blk.cell 2
    have h3 := h1.r5
    go_wp2_with fail
    refine (H2.out _ _ h3).mono ?_
    rintro e w2 (⟨hz, _⟩ | ⟨_, y, B, cB, rfl, h4⟩)
    · exact absurd hz hg
    clear h1 h2 x2 h3 H2 hg
    obtain ⟨L, hL⟩ : ∃ L, L = Row 9 1 B rs.length cB (strs rs) :: RB y r ⟨fl, gn, rs.length⟩ :: Blk r 83 (cellsR N) :: Row 9 1 A rs.length c (strs rs) :: JB j d ⟨fl, gn, rs.length⟩ :: DiskV d v1 N :: Blk p 56 [.pointer (some ⟨d, 0, none⟩), a, .pointer (some ⟨r, 0, none⟩), b] :: F := ⟨_, rfl⟩
    have hIn : Sat w0 w2 L := by rw [hL]; exact h4
    have op : ∀ w', Sat w0 w' L → Sat w0 w' (Row 9 1 B rs.length cB (strs rs) :: RB y r ⟨fl, gn, rs.length⟩ :: Blk r 83 (cellsR N) :: Row 9 1 A rs.length c (strs rs) :: JB j d ⟨fl, gn, rs.length⟩ :: DiskV d v1 N :: Blk p 56 [.pointer (some ⟨d, 0, none⟩), a, .pointer (some ⟨r, 0, none⟩), b] :: F) := fun w' h => by rw [hL] at h; exact h
    have f0 : ∀ x : In w0 L, x.w.cell? ⟨p, 0, none⟩ = some (.pointer (some ⟨d, 0, none⟩)) := fun x => (op _ x.ok).r7.blk.cell 0
    have f2 : ∀ x : In w0 L, x.w.cell? ⟨p, 2, none⟩ = some (.pointer (some ⟨r, 0, none⟩)) := fun x => (op _ x.ok).r7.blk.cell 2
    have c18 : Hid (∀ x : In w0 L, Calls Tryd.prog 18 #[.slice A rs.length c, .slice B rs.length cB] x.w fun e w' => e = .returned (.bool true) ∧ ∃ y : In w0 L, w' = y.w) := by
      show ∀ x, _
      intro x
      have h := (op _ x.ok).r4
      have hc := Fr.same_any _ _ rs rs x.w (row_strs h) (row_strs h.r2) (by omega) (by omega)
      rw [decide_eq_true (rfl : rs = rs)] at hc
      exact Calls.in_drewN hc
    have c13 : Hid (∀ x : In w0 L, Calls Tryd.prog 13 #[.pointer (some ⟨d, 0, none⟩), .pointer (some ⟨r, 0, none⟩)] x.w fun e w' => e = .returned (.bool true) ∧ ∃ y : In w0 L, w' = y.w) := by
      show ∀ x, _
      intro x
      have h := (op _ x.ok).r6.r4.r2
      exact Calls.in_drewN (alike_any h HOK.out)
    have HIN := Lib.hid hIn
    have HOP := Lib.hid op
    haveI hne : Nonempty (In w0 L) := ⟨⟨_, hIn⟩⟩
    clear hL op hIn h4
    go_wp2_with fail
    refine wp_region_in HIN.out (by kernel_rfl) (by kernel_rfl) ?_
    repeat go_big_quiet_step ((first | (go_at_call 18; exact c18.out _) | (go_at_call 13; exact c13.out _)))
    refine wpQuiet_nil ?_
    intro w7 hw'
    obtain ⟨x7, hw7⟩ := hw'
    have h7 := x7.ok
    rw [← hw7] at h7
    clear hw7 x7
    clear f0 f2 hne c18 c13
    have h8 := HOP.out _ h7
    clear h7 HIN HOP
    go_wp2_with fail
    refine (filled_any h8.r4 (by omega)).mono ?_
    rintro e w8 ⟨rfl, h9⟩
    have h10 := h9.tail.r5
    have x1 := h10.blk.cell 1
    have x3 := h10.blk.cell 3
    have f1 := h10.blk.free 1
    have f3 := h10.blk.free 3
    have H11 := Lib.hid ((h10.set 1 (.pointer (some ⟨j, 0, none⟩))).set 3 (.pointer (some ⟨y, 0, none⟩))).r5.r5.r3
    clear h8 h9 h10
    go_wp2_with fail
    refine (statP_any H11.out (by show fl < 4; omega)).mono ?_
    rintro e w9 ⟨rfl, h12⟩
    go_wp2_with fail
    go_ret
    exact ⟨rfl, .inr ⟨HG.out, j, y, v1, h12⟩⟩
end
end Go.Proofs.YtjlpgjfgeikdeaaDoor
end
