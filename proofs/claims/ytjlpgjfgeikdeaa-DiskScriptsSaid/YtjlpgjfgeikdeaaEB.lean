/- A call on both disks. -/
import Derived.Test.YtjlpgjfgeikdeaaEA
set_option linter.unusedVariables false
set_option linter.unusedSimpArgs false
set_option linter.unnecessarySimpa false
namespace Go.Proofs.Ytjlpgjfgeikdeaa
open Go.RowKit Go.ChangeShapes Go.WideShapes Go.ChangeAt
set_option maxRecDepth 100000 in
set_option maxHeartbeats 800000 in
theorem does_app {w0 w : World} {F : List HP} {d r : Nat} {v : Nat → Value} {M : MD} (act disk file num : Int) (s : ByteArray) (hS : Sat w0 w (DiskV d v M :: Blk r 69 (cellsR M) :: F)) (hok : M.Ok) (hwf : (DOp.mk act disk file num s).wf) (ha : act = 0) :
    Calls Try.prog 25 #[.agg #[.pointer (some ⟨d, 0, none⟩), .pointer (some ⟨r, 0, none⟩)], .agg #[.int .i64 act, .int .i64 disk, .int .i64 file, .int .i64 num, .string s]] w fun e w' =>
      e = .returned (.bool true) ∧ ∃ v', Sat w0 w' (DiskV d v' (stepM M ⟨act, disk, file, num, s⟩) :: Blk r 69 (cellsR (stepM M ⟨act, disk, file, num, s⟩)) :: F) := by
  obtain ⟨o1, o2, o3⟩ := hwf
  simp only at o1 o2 o3
  have HO2 := Lib.hid o2
  have HOK := Lib.hid hok
  have h1 := ((hS.new #[.pointer (some ⟨d, 0, none⟩), .pointer (some ⟨r, 0, none⟩)] 31).new #[.int .i64 act, .int .i64 disk, .int .i64 file, .int .i64 num, .string s] 48).r3.r4.r2
  have hq : (w.alloc (.cells #[.pointer (some ⟨d, 0, none⟩), .pointer (some ⟨r, 0, none⟩)] 31)).heap.size = w.heap.size + 1 := by simp
  rw [hq] at h1
  have H1 := Lib.hid h1
  have fin : ∀ (w' : World) (v' : Nat → Value) (M' : MD) (Q P : HP), Sat w0 w' (DiskV d v' M' :: Blk r 69 (cellsR M') :: Q :: P :: F) → Sat w0 w' (DiskV d v' M' :: Blk r 69 (cellsR M') :: F) := fun w' v' M' Q P h => h.r3.tail.r3.tail
  have FIN := Lib.hid fin
  clear hq o1 o2 hok h1 hS fin
  subst ha
  have HST : Hid (stepM M ⟨0, disk, file, num, s⟩ = (appR M file s).1) := by show _ = _; unfold stepM; rw [if_pos rfl]
  rw [HST.out]
  go_enter Try.func25, Try.ntmps25
  go_wp2_with fail
  have h1 := H1.out
  generalize (w.alloc (.cells #[.pointer (some ⟨d, 0, none⟩), .pointer (some ⟨r, 0, none⟩)] 31)).alloc (.cells #[.int .i64 0, .int .i64 disk, .int .i64 file, .int .i64 num, .string s] 48) = W at h1 ⊢
  obtain ⟨p, hp⟩ : ∃ p, w.heap.size = p := ⟨_, rfl⟩
  rw [hp] at h1 ⊢
  clear hp H1
  have x0 : W.cell? ⟨p, 0, none⟩ = some (.pointer (some ⟨d, 0, none⟩)) := h1.r4.blk.cell 0
  have x1 : W.cell? ⟨p, 1, none⟩ = some (.pointer (some ⟨r, 0, none⟩)) := h1.r4.blk.cell 1
  have x2 : W.cell? ⟨p + 1, 2, none⟩ = some (.int .i64 file) := h1.r3.blk.cell 2
  have x4 : W.cell? ⟨p + 1, 4, none⟩ = some (.string s) := h1.r3.blk.cell 4
  go_region_held3 (fun w' => w'.cell? ⟨p, 0, none⟩ = some (.pointer (some ⟨d, 0, none⟩)) ∧ w'.cell? ⟨p, 1, none⟩ = some (.pointer (some ⟨r, 0, none⟩)) ∧ w'.cell? ⟨p + 1, 2, none⟩ = some (.int .i64 file) ∧ w'.cell? ⟨p + 1, 4, none⟩ = some (.string s))
    (first | exact ⟨x0, x1, x2, x4⟩ | exact ⟨y0, y1, y2, y4⟩ | exact ⟨z0, z1, z2, z4⟩)
    (first
      | (go_at_call 19; refine (app_sat h1.drew HOK.out file s o3).mono ?_; rintro e w5 ⟨rfl, v5, h5⟩; have y0 : w5.cell? ⟨p, 0, none⟩ = some (.pointer (some ⟨d, 0, none⟩)) := h5.r4.blk.cell 0; have y1 : w5.cell? ⟨p, 1, none⟩ = some (.pointer (some ⟨r, 0, none⟩)) := h5.r4.blk.cell 1; have y2 : w5.cell? ⟨p + 1, 2, none⟩ = some (.int .i64 file) := h5.r3.blk.cell 2; have y4 : w5.cell? ⟨p + 1, 4, none⟩ = some (.string s) := h5.r3.blk.cell 4)
      | (go_at_call 33; refine (rapp_sat h5 HOK.out file s o3).mono ?_; rintro e w6 ⟨rfl, h6⟩; have z0 : w6.cell? ⟨p, 0, none⟩ = some (.pointer (some ⟨d, 0, none⟩)) := h6.r4.blk.cell 0; have z1 : w6.cell? ⟨p, 1, none⟩ = some (.pointer (some ⟨r, 0, none⟩)) := h6.r4.blk.cell 1; have z2 : w6.cell? ⟨p + 1, 2, none⟩ = some (.int .i64 file) := h6.r3.blk.cell 2; have z4 : w6.cell? ⟨p + 1, 4, none⟩ = some (.string s) := h6.r3.blk.cell 4)
      | (go_at_call 33; refine (rapp_sat h1.drew HOK.out file s o3).mono ?_; rintro e w5 ⟨rfl, h5⟩; have y0 : w5.cell? ⟨p, 0, none⟩ = some (.pointer (some ⟨d, 0, none⟩)) := h5.r4.blk.cell 0; have y1 : w5.cell? ⟨p, 1, none⟩ = some (.pointer (some ⟨r, 0, none⟩)) := h5.r4.blk.cell 1; have y2 : w5.cell? ⟨p + 1, 2, none⟩ = some (.int .i64 file) := h5.r3.blk.cell 2; have y4 : w5.cell? ⟨p + 1, 4, none⟩ = some (.string s) := h5.r3.blk.cell 4)
      | (go_at_call 19; refine (app_sat h5 HOK.out file s o3).mono ?_; rintro e w6 ⟨rfl, v5, h6⟩; have z0 : w6.cell? ⟨p, 0, none⟩ = some (.pointer (some ⟨d, 0, none⟩)) := h6.r4.blk.cell 0; have z1 : w6.cell? ⟨p, 1, none⟩ = some (.pointer (some ⟨r, 0, none⟩)) := h6.r4.blk.cell 1; have z2 : w6.cell? ⟨p + 1, 2, none⟩ = some (.int .i64 file) := h6.r3.blk.cell 2; have z4 : w6.cell? ⟨p + 1, 4, none⟩ = some (.string s) := h6.r3.blk.cell 4))
  all_goals
    go_wp2_with fail
    go_ret
    exact ⟨rfl, v5, FIN.out _ _ _ _ _ h6⟩
set_option maxRecDepth 100000 in
set_option maxHeartbeats 800000 in
theorem does_sync {w0 w : World} {F : List HP} {d r : Nat} {v : Nat → Value} {M : MD} (act disk file num : Int) (s : ByteArray) (hS : Sat w0 w (DiskV d v M :: Blk r 69 (cellsR M) :: F)) (hok : M.Ok) (hwf : (DOp.mk act disk file num s).wf) (ha : act = 1) :
    Calls Try.prog 25 #[.agg #[.pointer (some ⟨d, 0, none⟩), .pointer (some ⟨r, 0, none⟩)], .agg #[.int .i64 act, .int .i64 disk, .int .i64 file, .int .i64 num, .string s]] w fun e w' =>
      e = .returned (.bool true) ∧ ∃ v', Sat w0 w' (DiskV d v' (stepM M ⟨act, disk, file, num, s⟩) :: Blk r 69 (cellsR (stepM M ⟨act, disk, file, num, s⟩)) :: F) := by
  obtain ⟨o1, o2, o3⟩ := hwf
  simp only at o1 o2 o3
  have HO2 := Lib.hid o2
  have HOK := Lib.hid hok
  have h1 := ((hS.new #[.pointer (some ⟨d, 0, none⟩), .pointer (some ⟨r, 0, none⟩)] 31).new #[.int .i64 act, .int .i64 disk, .int .i64 file, .int .i64 num, .string s] 48).r3.r4.r2
  have hq : (w.alloc (.cells #[.pointer (some ⟨d, 0, none⟩), .pointer (some ⟨r, 0, none⟩)] 31)).heap.size = w.heap.size + 1 := by simp
  rw [hq] at h1
  have H1 := Lib.hid h1
  have fin : ∀ (w' : World) (v' : Nat → Value) (M' : MD) (Q P : HP), Sat w0 w' (DiskV d v' M' :: Blk r 69 (cellsR M') :: Q :: P :: F) → Sat w0 w' (DiskV d v' M' :: Blk r 69 (cellsR M') :: F) := fun w' v' M' Q P h => h.r3.tail.r3.tail
  have FIN := Lib.hid fin
  clear hq o1 o2 hok h1 hS fin
  subst ha
  have HST : Hid (stepM M ⟨1, disk, file, num, s⟩ = (syncR M file).1) := by show _ = _; unfold stepM; rw [if_neg (by simp), if_pos rfl]
  rw [HST.out]
  go_enter Try.func25, Try.ntmps25
  go_wp2_with fail
  have h1 := H1.out
  generalize (w.alloc (.cells #[.pointer (some ⟨d, 0, none⟩), .pointer (some ⟨r, 0, none⟩)] 31)).alloc (.cells #[.int .i64 1, .int .i64 disk, .int .i64 file, .int .i64 num, .string s] 48) = W at h1 ⊢
  obtain ⟨p, hp⟩ : ∃ p, w.heap.size = p := ⟨_, rfl⟩
  rw [hp] at h1 ⊢
  clear hp H1
  have x0 : W.cell? ⟨p, 0, none⟩ = some (.pointer (some ⟨d, 0, none⟩)) := h1.r4.blk.cell 0
  have x1 : W.cell? ⟨p, 1, none⟩ = some (.pointer (some ⟨r, 0, none⟩)) := h1.r4.blk.cell 1
  have x2 : W.cell? ⟨p + 1, 2, none⟩ = some (.int .i64 file) := h1.r3.blk.cell 2
  go_region_held3 (fun w' => w'.cell? ⟨p, 0, none⟩ = some (.pointer (some ⟨d, 0, none⟩)) ∧ w'.cell? ⟨p, 1, none⟩ = some (.pointer (some ⟨r, 0, none⟩)) ∧ w'.cell? ⟨p + 1, 2, none⟩ = some (.int .i64 file))
    (first | exact ⟨x0, x1, x2⟩ | exact ⟨y0, y1, y2⟩ | exact ⟨z0, z1, z2⟩)
    (first
      | (go_at_call 17; refine (sync_sat h1.drew file).mono ?_; rintro e w5 ⟨rfl, v5, h5⟩; have y0 : w5.cell? ⟨p, 0, none⟩ = some (.pointer (some ⟨d, 0, none⟩)) := h5.r4.blk.cell 0; have y1 : w5.cell? ⟨p, 1, none⟩ = some (.pointer (some ⟨r, 0, none⟩)) := h5.r4.blk.cell 1; have y2 : w5.cell? ⟨p + 1, 2, none⟩ = some (.int .i64 file) := h5.r3.blk.cell 2)
      | (go_at_call 34; refine (rsync_sat h5 file).mono ?_; rintro e w6 ⟨rfl, h6⟩; have z0 : w6.cell? ⟨p, 0, none⟩ = some (.pointer (some ⟨d, 0, none⟩)) := h6.r4.blk.cell 0; have z1 : w6.cell? ⟨p, 1, none⟩ = some (.pointer (some ⟨r, 0, none⟩)) := h6.r4.blk.cell 1; have z2 : w6.cell? ⟨p + 1, 2, none⟩ = some (.int .i64 file) := h6.r3.blk.cell 2)
      | (go_at_call 34; refine (rsync_sat h1.drew file).mono ?_; rintro e w5 ⟨rfl, h5⟩; have y0 : w5.cell? ⟨p, 0, none⟩ = some (.pointer (some ⟨d, 0, none⟩)) := h5.r4.blk.cell 0; have y1 : w5.cell? ⟨p, 1, none⟩ = some (.pointer (some ⟨r, 0, none⟩)) := h5.r4.blk.cell 1; have y2 : w5.cell? ⟨p + 1, 2, none⟩ = some (.int .i64 file) := h5.r3.blk.cell 2)
      | (go_at_call 17; refine (sync_sat h5 file).mono ?_; rintro e w6 ⟨rfl, v5, h6⟩; have z0 : w6.cell? ⟨p, 0, none⟩ = some (.pointer (some ⟨d, 0, none⟩)) := h6.r4.blk.cell 0; have z1 : w6.cell? ⟨p, 1, none⟩ = some (.pointer (some ⟨r, 0, none⟩)) := h6.r4.blk.cell 1; have z2 : w6.cell? ⟨p + 1, 2, none⟩ = some (.int .i64 file) := h6.r3.blk.cell 2))
  all_goals
    go_wp2_with fail
    go_ret
    exact ⟨rfl, v5, FIN.out _ _ _ _ _ h6⟩
set_option maxRecDepth 100000 in
set_option maxHeartbeats 800000 in
theorem does_cut {w0 w : World} {F : List HP} {d r : Nat} {v : Nat → Value} {M : MD} (act disk file num : Int) (s : ByteArray) (hS : Sat w0 w (DiskV d v M :: Blk r 69 (cellsR M) :: F)) (hok : M.Ok) (hwf : (DOp.mk act disk file num s).wf) (ha : act = 2) :
    Calls Try.prog 25 #[.agg #[.pointer (some ⟨d, 0, none⟩), .pointer (some ⟨r, 0, none⟩)], .agg #[.int .i64 act, .int .i64 disk, .int .i64 file, .int .i64 num, .string s]] w fun e w' =>
      e = .returned (.bool true) ∧ ∃ v', Sat w0 w' (DiskV d v' (stepM M ⟨act, disk, file, num, s⟩) :: Blk r 69 (cellsR (stepM M ⟨act, disk, file, num, s⟩)) :: F) := by
  obtain ⟨o1, o2, o3⟩ := hwf
  simp only at o1 o2 o3
  have HO2 := Lib.hid o2
  have HOK := Lib.hid hok
  have h1 := ((hS.new #[.pointer (some ⟨d, 0, none⟩), .pointer (some ⟨r, 0, none⟩)] 31).new #[.int .i64 act, .int .i64 disk, .int .i64 file, .int .i64 num, .string s] 48).r3.r4.r2
  have hq : (w.alloc (.cells #[.pointer (some ⟨d, 0, none⟩), .pointer (some ⟨r, 0, none⟩)] 31)).heap.size = w.heap.size + 1 := by simp
  rw [hq] at h1
  have H1 := Lib.hid h1
  have fin : ∀ (w' : World) (v' : Nat → Value) (M' : MD) (Q P : HP), Sat w0 w' (DiskV d v' M' :: Blk r 69 (cellsR M') :: Q :: P :: F) → Sat w0 w' (DiskV d v' M' :: Blk r 69 (cellsR M') :: F) := fun w' v' M' Q P h => h.r3.tail.r3.tail
  have FIN := Lib.hid fin
  clear hq o1 o2 hok h1 hS fin
  subst ha
  have HST : Hid (stepM M ⟨2, disk, file, num, s⟩ = (cutR M file num).1) := by show _ = _; unfold stepM; rw [if_neg (by simp), if_neg (by simp), if_pos rfl]
  rw [HST.out]
  go_enter Try.func25, Try.ntmps25
  go_wp2_with fail
  have h1 := H1.out
  generalize (w.alloc (.cells #[.pointer (some ⟨d, 0, none⟩), .pointer (some ⟨r, 0, none⟩)] 31)).alloc (.cells #[.int .i64 2, .int .i64 disk, .int .i64 file, .int .i64 num, .string s] 48) = W at h1 ⊢
  obtain ⟨p, hp⟩ : ∃ p, w.heap.size = p := ⟨_, rfl⟩
  rw [hp] at h1 ⊢
  clear hp H1
  have x0 : W.cell? ⟨p, 0, none⟩ = some (.pointer (some ⟨d, 0, none⟩)) := h1.r4.blk.cell 0
  have x1 : W.cell? ⟨p, 1, none⟩ = some (.pointer (some ⟨r, 0, none⟩)) := h1.r4.blk.cell 1
  have x2 : W.cell? ⟨p + 1, 2, none⟩ = some (.int .i64 file) := h1.r3.blk.cell 2
  have x3 : W.cell? ⟨p + 1, 3, none⟩ = some (.int .i64 num) := h1.r3.blk.cell 3
  go_region_held3 (fun w' => w'.cell? ⟨p, 0, none⟩ = some (.pointer (some ⟨d, 0, none⟩)) ∧ w'.cell? ⟨p, 1, none⟩ = some (.pointer (some ⟨r, 0, none⟩)) ∧ w'.cell? ⟨p + 1, 2, none⟩ = some (.int .i64 file) ∧ w'.cell? ⟨p + 1, 3, none⟩ = some (.int .i64 num))
    (first | exact ⟨x0, x1, x2, x3⟩ | exact ⟨y0, y1, y2, y3⟩ | exact ⟨z0, z1, z2, z3⟩)
    (first
      | (go_at_call 22; refine (cut_sat h1.drew HOK.out file num).mono ?_; rintro e w5 ⟨rfl, v5, h5⟩; have y0 : w5.cell? ⟨p, 0, none⟩ = some (.pointer (some ⟨d, 0, none⟩)) := h5.r4.blk.cell 0; have y1 : w5.cell? ⟨p, 1, none⟩ = some (.pointer (some ⟨r, 0, none⟩)) := h5.r4.blk.cell 1; have y2 : w5.cell? ⟨p + 1, 2, none⟩ = some (.int .i64 file) := h5.r3.blk.cell 2; have y3 : w5.cell? ⟨p + 1, 3, none⟩ = some (.int .i64 num) := h5.r3.blk.cell 3)
      | (go_at_call 35; refine (rcut_sat h5 HOK.out file num).mono ?_; rintro e w6 ⟨rfl, h6⟩; have z0 : w6.cell? ⟨p, 0, none⟩ = some (.pointer (some ⟨d, 0, none⟩)) := h6.r4.blk.cell 0; have z1 : w6.cell? ⟨p, 1, none⟩ = some (.pointer (some ⟨r, 0, none⟩)) := h6.r4.blk.cell 1; have z2 : w6.cell? ⟨p + 1, 2, none⟩ = some (.int .i64 file) := h6.r3.blk.cell 2; have z3 : w6.cell? ⟨p + 1, 3, none⟩ = some (.int .i64 num) := h6.r3.blk.cell 3)
      | (go_at_call 35; refine (rcut_sat h1.drew HOK.out file num).mono ?_; rintro e w5 ⟨rfl, h5⟩; have y0 : w5.cell? ⟨p, 0, none⟩ = some (.pointer (some ⟨d, 0, none⟩)) := h5.r4.blk.cell 0; have y1 : w5.cell? ⟨p, 1, none⟩ = some (.pointer (some ⟨r, 0, none⟩)) := h5.r4.blk.cell 1; have y2 : w5.cell? ⟨p + 1, 2, none⟩ = some (.int .i64 file) := h5.r3.blk.cell 2; have y3 : w5.cell? ⟨p + 1, 3, none⟩ = some (.int .i64 num) := h5.r3.blk.cell 3)
      | (go_at_call 22; refine (cut_sat h5 HOK.out file num).mono ?_; rintro e w6 ⟨rfl, v5, h6⟩; have z0 : w6.cell? ⟨p, 0, none⟩ = some (.pointer (some ⟨d, 0, none⟩)) := h6.r4.blk.cell 0; have z1 : w6.cell? ⟨p, 1, none⟩ = some (.pointer (some ⟨r, 0, none⟩)) := h6.r4.blk.cell 1; have z2 : w6.cell? ⟨p + 1, 2, none⟩ = some (.int .i64 file) := h6.r3.blk.cell 2; have z3 : w6.cell? ⟨p + 1, 3, none⟩ = some (.int .i64 num) := h6.r3.blk.cell 3))
  all_goals
    go_wp2_with fail
    go_ret
    exact ⟨rfl, v5, FIN.out _ _ _ _ _ h6⟩
set_option maxRecDepth 100000 in
set_option maxHeartbeats 800000 in
theorem does_read {w0 w : World} {F : List HP} {d r : Nat} {v : Nat → Value} {M : MD} (act disk file num : Int) (s : ByteArray) (hS : Sat w0 w (DiskV d v M :: Blk r 69 (cellsR M) :: F)) (hok : M.Ok) (hwf : (DOp.mk act disk file num s).wf) (ha : act = 3) :
    Calls Try.prog 25 #[.agg #[.pointer (some ⟨d, 0, none⟩), .pointer (some ⟨r, 0, none⟩)], .agg #[.int .i64 act, .int .i64 disk, .int .i64 file, .int .i64 num, .string s]] w fun e w' =>
      e = .returned (.bool true) ∧ ∃ v', Sat w0 w' (DiskV d v' (stepM M ⟨act, disk, file, num, s⟩) :: Blk r 69 (cellsR (stepM M ⟨act, disk, file, num, s⟩)) :: F) := by
  obtain ⟨o1, o2, o3⟩ := hwf
  simp only at o1 o2 o3
  have HO2 := Lib.hid o2
  have HOK := Lib.hid hok
  have h1 := ((hS.new #[.pointer (some ⟨d, 0, none⟩), .pointer (some ⟨r, 0, none⟩)] 31).new #[.int .i64 act, .int .i64 disk, .int .i64 file, .int .i64 num, .string s] 48).r3.r4.r2
  have hq : (w.alloc (.cells #[.pointer (some ⟨d, 0, none⟩), .pointer (some ⟨r, 0, none⟩)] 31)).heap.size = w.heap.size + 1 := by simp
  rw [hq] at h1
  have H1 := Lib.hid h1
  have fin : ∀ (w' : World) (v' : Nat → Value) (M' : MD) (Q P : HP), Sat w0 w' (DiskV d v' M' :: Blk r 69 (cellsR M') :: Q :: P :: F) → Sat w0 w' (DiskV d v' M' :: Blk r 69 (cellsR M') :: F) := fun w' v' M' Q P h => h.r3.tail.r3.tail
  have FIN := Lib.hid fin
  clear hq o1 o2 hok h1 hS fin
  subst ha
  have HST : Hid (stepM M ⟨3, disk, file, num, s⟩ = M) := by show _ = _; unfold stepM; rw [if_neg (by simp), if_neg (by simp), if_neg (by simp), if_neg (by simp)]
  rw [HST.out]
  go_enter Try.func25, Try.ntmps25
  go_wp2_with fail
  have h1 := H1.out
  generalize (w.alloc (.cells #[.pointer (some ⟨d, 0, none⟩), .pointer (some ⟨r, 0, none⟩)] 31)).alloc (.cells #[.int .i64 3, .int .i64 disk, .int .i64 file, .int .i64 num, .string s] 48) = W at h1 ⊢
  obtain ⟨p, hp⟩ : ∃ p, w.heap.size = p := ⟨_, rfl⟩
  rw [hp] at h1 ⊢
  clear hp H1
  have x0 : W.cell? ⟨p, 0, none⟩ = some (.pointer (some ⟨d, 0, none⟩)) := h1.r4.blk.cell 0
  have x1 : W.cell? ⟨p, 1, none⟩ = some (.pointer (some ⟨r, 0, none⟩)) := h1.r4.blk.cell 1
  have x2 : W.cell? ⟨p + 1, 2, none⟩ = some (.int .i64 file) := h1.r3.blk.cell 2
  go_wp2_with fail
  refine (read_sat h1 file).mono ?_
  rintro e w5 ⟨rfl, rfl⟩
  go_wp2_with fail
  refine (rread_sat h1 file).mono ?_
  rintro e w5 ⟨rfl, rfl⟩
  go_wp2_with fail
  go_ret
  exact ⟨rfl, v, FIN.out _ _ _ _ _ h1⟩
set_option maxRecDepth 100000 in
set_option maxHeartbeats 800000 in
theorem does_size {w0 w : World} {F : List HP} {d r : Nat} {v : Nat → Value} {M : MD} (act disk file num : Int) (s : ByteArray) (hS : Sat w0 w (DiskV d v M :: Blk r 69 (cellsR M) :: F)) (hok : M.Ok) (hwf : (DOp.mk act disk file num s).wf) (ha : act = 4) :
    Calls Try.prog 25 #[.agg #[.pointer (some ⟨d, 0, none⟩), .pointer (some ⟨r, 0, none⟩)], .agg #[.int .i64 act, .int .i64 disk, .int .i64 file, .int .i64 num, .string s]] w fun e w' =>
      e = .returned (.bool true) ∧ ∃ v', Sat w0 w' (DiskV d v' (stepM M ⟨act, disk, file, num, s⟩) :: Blk r 69 (cellsR (stepM M ⟨act, disk, file, num, s⟩)) :: F) := by
  obtain ⟨o1, o2, o3⟩ := hwf
  simp only at o1 o2 o3
  have HO2 := Lib.hid o2
  have HOK := Lib.hid hok
  have h1 := ((hS.new #[.pointer (some ⟨d, 0, none⟩), .pointer (some ⟨r, 0, none⟩)] 31).new #[.int .i64 act, .int .i64 disk, .int .i64 file, .int .i64 num, .string s] 48).r3.r4.r2
  have hq : (w.alloc (.cells #[.pointer (some ⟨d, 0, none⟩), .pointer (some ⟨r, 0, none⟩)] 31)).heap.size = w.heap.size + 1 := by simp
  rw [hq] at h1
  have H1 := Lib.hid h1
  have fin : ∀ (w' : World) (v' : Nat → Value) (M' : MD) (Q P : HP), Sat w0 w' (DiskV d v' M' :: Blk r 69 (cellsR M') :: Q :: P :: F) → Sat w0 w' (DiskV d v' M' :: Blk r 69 (cellsR M') :: F) := fun w' v' M' Q P h => h.r3.tail.r3.tail
  have FIN := Lib.hid fin
  clear hq o1 o2 hok h1 hS fin
  subst ha
  have HST : Hid (stepM M ⟨4, disk, file, num, s⟩ = M) := by show _ = _; unfold stepM; rw [if_neg (by simp), if_neg (by simp), if_neg (by simp), if_neg (by simp)]
  rw [HST.out]
  go_enter Try.func25, Try.ntmps25
  go_wp2_with fail
  have h1 := H1.out
  generalize (w.alloc (.cells #[.pointer (some ⟨d, 0, none⟩), .pointer (some ⟨r, 0, none⟩)] 31)).alloc (.cells #[.int .i64 4, .int .i64 disk, .int .i64 file, .int .i64 num, .string s] 48) = W at h1 ⊢
  obtain ⟨p, hp⟩ : ∃ p, w.heap.size = p := ⟨_, rfl⟩
  rw [hp] at h1 ⊢
  clear hp H1
  have x0 : W.cell? ⟨p, 0, none⟩ = some (.pointer (some ⟨d, 0, none⟩)) := h1.r4.blk.cell 0
  have x1 : W.cell? ⟨p, 1, none⟩ = some (.pointer (some ⟨r, 0, none⟩)) := h1.r4.blk.cell 1
  have x2 : W.cell? ⟨p + 1, 2, none⟩ = some (.int .i64 file) := h1.r3.blk.cell 2
  go_wp2_with fail
  refine (size_sat h1 file).mono ?_
  rintro e w5 ⟨rfl, m, rfl⟩
  go_wp2_with fail
  refine (rsize_sat (h1.drewN m) file).mono ?_
  rintro e w5 ⟨rfl, m2, rfl⟩
  go_wp2_with fail
  go_ret
  exact ⟨rfl, v, FIN.out _ _ _ _ _ (h1.drewN (m + m2))⟩
set_option maxRecDepth 100000 in
set_option maxHeartbeats 800000 in
theorem does_crash {w0 w : World} {F : List HP} {d r : Nat} {v : Nat → Value} {M : MD} (act disk file num : Int) (s : ByteArray) (hS : Sat w0 w (DiskV d v M :: Blk r 69 (cellsR M) :: F)) (hok : M.Ok) (hwf : (DOp.mk act disk file num s).wf) (ha : act = 5) :
    Calls Try.prog 25 #[.agg #[.pointer (some ⟨d, 0, none⟩), .pointer (some ⟨r, 0, none⟩)], .agg #[.int .i64 act, .int .i64 disk, .int .i64 file, .int .i64 num, .string s]] w fun e w' =>
      e = .returned (.bool true) ∧ ∃ v', Sat w0 w' (DiskV d v' (stepM M ⟨act, disk, file, num, s⟩) :: Blk r 69 (cellsR (stepM M ⟨act, disk, file, num, s⟩)) :: F) := by
  obtain ⟨o1, o2, o3⟩ := hwf
  simp only at o1 o2 o3
  have HO2 := Lib.hid o2
  have HOK := Lib.hid hok
  have h1 := ((hS.new #[.pointer (some ⟨d, 0, none⟩), .pointer (some ⟨r, 0, none⟩)] 31).new #[.int .i64 act, .int .i64 disk, .int .i64 file, .int .i64 num, .string s] 48).r3.r4.r2
  have hq : (w.alloc (.cells #[.pointer (some ⟨d, 0, none⟩), .pointer (some ⟨r, 0, none⟩)] 31)).heap.size = w.heap.size + 1 := by simp
  rw [hq] at h1
  have H1 := Lib.hid h1
  have fin : ∀ (w' : World) (v' : Nat → Value) (M' : MD) (Q P : HP), Sat w0 w' (DiskV d v' M' :: Blk r 69 (cellsR M') :: Q :: P :: F) → Sat w0 w' (DiskV d v' M' :: Blk r 69 (cellsR M') :: F) := fun w' v' M' Q P h => h.r3.tail.r3.tail
  have FIN := Lib.hid fin
  clear hq o1 o2 hok h1 hS fin
  subst ha
  have HST : Hid (stepM M ⟨5, disk, file, num, s⟩ = crashM M num.toNat) := by show _ = _; unfold stepM; rw [if_neg (by simp), if_neg (by simp), if_neg (by simp), if_pos rfl]
  rw [HST.out]
  go_enter Try.func25, Try.ntmps25
  go_wp2_with fail
  have h1 := H1.out
  generalize (w.alloc (.cells #[.pointer (some ⟨d, 0, none⟩), .pointer (some ⟨r, 0, none⟩)] 31)).alloc (.cells #[.int .i64 5, .int .i64 disk, .int .i64 file, .int .i64 num, .string s] 48) = W at h1 ⊢
  obtain ⟨p, hp⟩ : ∃ p, w.heap.size = p := ⟨_, rfl⟩
  rw [hp] at h1 ⊢
  clear hp H1
  have x0 : W.cell? ⟨p, 0, none⟩ = some (.pointer (some ⟨d, 0, none⟩)) := h1.r4.blk.cell 0
  have x1 : W.cell? ⟨p, 1, none⟩ = some (.pointer (some ⟨r, 0, none⟩)) := h1.r4.blk.cell 1
  have x3 : W.cell? ⟨p + 1, 3, none⟩ = some (.int .i64 num) := h1.r3.blk.cell 3
  go_wp2_with fail
  refine (crash_sat h1 HOK.out num HO2.out).mono ?_
  rintro e w5 ⟨rfl, v5, h5⟩
  have y0 : w5.cell? ⟨p, 0, none⟩ = some (.pointer (some ⟨d, 0, none⟩)) := h5.r4.blk.cell 0
  have y1 : w5.cell? ⟨p, 1, none⟩ = some (.pointer (some ⟨r, 0, none⟩)) := h5.r4.blk.cell 1
  have y3 : w5.cell? ⟨p + 1, 3, none⟩ = some (.int .i64 num) := h5.r3.blk.cell 3
  go_wp2_with fail
  refine (rcrash_sat h5 HOK.out num HO2.out).mono ?_
  rintro e w6 ⟨rfl, h6⟩
  go_wp2_with fail
  go_ret
  exact ⟨rfl, v5, FIN.out _ _ _ _ _ h6⟩
set_option maxRecDepth 100000 in
set_option maxHeartbeats 800000 in
theorem does_used {w0 w : World} {F : List HP} {d r : Nat} {v : Nat → Value} {M : MD} (act disk file num : Int) (s : ByteArray) (hS : Sat w0 w (DiskV d v M :: Blk r 69 (cellsR M) :: F)) (hok : M.Ok) (hwf : (DOp.mk act disk file num s).wf) (ha : act = 6) :
    Calls Try.prog 25 #[.agg #[.pointer (some ⟨d, 0, none⟩), .pointer (some ⟨r, 0, none⟩)], .agg #[.int .i64 act, .int .i64 disk, .int .i64 file, .int .i64 num, .string s]] w fun e w' =>
      e = .returned (.bool true) ∧ ∃ v', Sat w0 w' (DiskV d v' (stepM M ⟨act, disk, file, num, s⟩) :: Blk r 69 (cellsR (stepM M ⟨act, disk, file, num, s⟩)) :: F) := by
  obtain ⟨o1, o2, o3⟩ := hwf
  simp only at o1 o2 o3
  have HO2 := Lib.hid o2
  have HOK := Lib.hid hok
  have h1 := ((hS.new #[.pointer (some ⟨d, 0, none⟩), .pointer (some ⟨r, 0, none⟩)] 31).new #[.int .i64 act, .int .i64 disk, .int .i64 file, .int .i64 num, .string s] 48).r3.r4.r2
  have hq : (w.alloc (.cells #[.pointer (some ⟨d, 0, none⟩), .pointer (some ⟨r, 0, none⟩)] 31)).heap.size = w.heap.size + 1 := by simp
  rw [hq] at h1
  have H1 := Lib.hid h1
  have fin : ∀ (w' : World) (v' : Nat → Value) (M' : MD) (Q P : HP), Sat w0 w' (DiskV d v' M' :: Blk r 69 (cellsR M') :: Q :: P :: F) → Sat w0 w' (DiskV d v' M' :: Blk r 69 (cellsR M') :: F) := fun w' v' M' Q P h => h.r3.tail.r3.tail
  have FIN := Lib.hid fin
  clear hq o1 o2 hok h1 hS fin
  subst ha
  have HST : Hid (stepM M ⟨6, disk, file, num, s⟩ = M) := by show _ = _; unfold stepM; rw [if_neg (by simp), if_neg (by simp), if_neg (by simp), if_neg (by simp)]
  rw [HST.out]
  go_enter Try.func25, Try.ntmps25
  go_wp2_with fail
  have h1 := H1.out
  generalize (w.alloc (.cells #[.pointer (some ⟨d, 0, none⟩), .pointer (some ⟨r, 0, none⟩)] 31)).alloc (.cells #[.int .i64 6, .int .i64 disk, .int .i64 file, .int .i64 num, .string s] 48) = W at h1 ⊢
  obtain ⟨p, hp⟩ : ∃ p, w.heap.size = p := ⟨_, rfl⟩
  rw [hp] at h1 ⊢
  clear hp H1
  have hM : M.used ≤ 1048576 := by obtain ⟨_, h2, h3, _⟩ := HOK.out; omega
  have HMU := Lib.hid hM
  obtain ⟨L, hL⟩ : ∃ L, L = (DiskV d v M :: Blk r 69 (cellsR M) :: Blk (p + 1) 48 [.int .i64 6, .int .i64 disk, .int .i64 file, .int .i64 num, .string s] :: Blk p 31 [.pointer (some ⟨d, 0, none⟩), .pointer (some ⟨r, 0, none⟩)] :: F) := ⟨_, rfl⟩
  have op : ∀ w', Sat w0 w' L → Sat w0 w' (DiskV d v M :: Blk r 69 (cellsR M) :: Blk (p + 1) 48 [.int .i64 6, .int .i64 disk, .int .i64 file, .int .i64 num, .string s] :: Blk p 31 [.pointer (some ⟨d, 0, none⟩), .pointer (some ⟨r, 0, none⟩)] :: F) := fun w' h => by rw [hL] at h; exact h
  have hIn : Sat w0 W L := by rw [hL]; exact h1
  have f0 : ∀ x : In w0 L, x.w.cell? ⟨p, 0, none⟩ = some (.pointer (some ⟨d, 0, none⟩)) := fun x => (op _ x.ok).r4.blk.cell 0
  have f1 : ∀ x : In w0 L, x.w.cell? ⟨p, 1, none⟩ = some (.pointer (some ⟨r, 0, none⟩)) := fun x => (op _ x.ok).r4.blk.cell 1
  have c20 : Hid (∀ x : In w0 L, Calls Try.prog 20 #[.pointer (some ⟨d, 0, none⟩)] x.w fun e w' => e = .returned (.int .i64 M.used) ∧ ∃ y : In w0 L, w' = y.w) := by
    show ∀ x, _
    intro x
    have h := op _ x.ok
    exact Calls.in_below (used_any d v M x.w h.disk hM)
  have c21 : Hid (∀ x : In w0 L, Calls Try.prog 21 #[.pointer (some ⟨d, 0, none⟩)] x.w fun e w' => e = .returned (.int .i64 M.room) ∧ ∃ y : In w0 L, w' = y.w) := by
    show ∀ x, _
    intro x
    have h := op _ x.ok
    exact Calls.in_same (room_sat h)
  have c27 : Hid (∀ x : In w0 L, Calls Try.prog 27 #[.pointer (some ⟨r, 0, none⟩)] x.w fun e w' => e = .returned (.int .i64 M.used) ∧ ∃ y : In w0 L, w' = y.w) := by
    show ∀ x, _
    intro x
    have h := op _ x.ok
    exact Calls.in_drewN (rused_any r M x.w h.r2.blk hM)
  have c28 : Hid (∀ x : In w0 L, Calls Try.prog 28 #[.pointer (some ⟨r, 0, none⟩)] x.w fun e w' => e = .returned (.int .i64 M.room) ∧ ∃ y : In w0 L, w' = y.w) := by
    show ∀ x, _
    intro x
    have h := op _ x.ok
    exact Calls.in_same (rroom_any r M.room x.w (h.r2.blk.cell 8))
  have HOP := Lib.hid op
  have HIN := Lib.hid hIn
  haveI hne : Nonempty (In w0 L) := ⟨⟨_, hIn⟩⟩
  clear hL op hIn h1 hM
  refine wp_region_in HIN.out (by kernel_rfl) (by kernel_rfl) ?_
  repeat go_big_quiet_step ((first | (go_at_call 20; exact c20.out _) | (go_at_call 21; exact c21.out _) | (go_at_call 27; exact c27.out _) | (go_at_call 28; exact c28.out _)))
  refine wpQuiet_nil ?_
  intro _ hw'
  obtain ⟨⟨w7, h7⟩, rfl⟩ := hw'
  replace h7 := HOP.out _ h7
  clear f0 f1 hne c20 c21 c27 c28
  go_wp2_with fail
  go_ret
  exact ⟨rfl, v, FIN.out _ _ _ _ _ h7⟩
set_option maxRecDepth 100000 in
set_option maxHeartbeats 800000 in
theorem does_none {w0 w : World} {F : List HP} {d r : Nat} {v : Nat → Value} {M : MD} (act disk file num : Int) (s : ByteArray) (hS : Sat w0 w (DiskV d v M :: Blk r 69 (cellsR M) :: F)) (hok : M.Ok) (hwf : (DOp.mk act disk file num s).wf) (ha : ¬ act = 0 ∧ ¬ act = 1 ∧ ¬ act = 2 ∧ ¬ act = 3 ∧ ¬ act = 4 ∧ ¬ act = 5 ∧ ¬ act = 6) :
    Calls Try.prog 25 #[.agg #[.pointer (some ⟨d, 0, none⟩), .pointer (some ⟨r, 0, none⟩)], .agg #[.int .i64 act, .int .i64 disk, .int .i64 file, .int .i64 num, .string s]] w fun e w' =>
      e = .returned (.bool true) ∧ ∃ v', Sat w0 w' (DiskV d v' (stepM M ⟨act, disk, file, num, s⟩) :: Blk r 69 (cellsR (stepM M ⟨act, disk, file, num, s⟩)) :: F) := by
  obtain ⟨o1, o2, o3⟩ := hwf
  simp only at o1 o2 o3
  have HO2 := Lib.hid o2
  have HOK := Lib.hid hok
  have h1 := ((hS.new #[.pointer (some ⟨d, 0, none⟩), .pointer (some ⟨r, 0, none⟩)] 31).new #[.int .i64 act, .int .i64 disk, .int .i64 file, .int .i64 num, .string s] 48).r3.r4.r2
  have hq : (w.alloc (.cells #[.pointer (some ⟨d, 0, none⟩), .pointer (some ⟨r, 0, none⟩)] 31)).heap.size = w.heap.size + 1 := by simp
  rw [hq] at h1
  have H1 := Lib.hid h1
  have fin : ∀ (w' : World) (v' : Nat → Value) (M' : MD) (Q P : HP), Sat w0 w' (DiskV d v' M' :: Blk r 69 (cellsR M') :: Q :: P :: F) → Sat w0 w' (DiskV d v' M' :: Blk r 69 (cellsR M') :: F) := fun w' v' M' Q P h => h.r3.tail.r3.tail
  have FIN := Lib.hid fin
  clear hq o1 o2 hok h1 hS fin
  obtain ⟨a0, a1, a2, a3, a4, a5, a6⟩ := ha
  have HST : Hid (stepM M ⟨act, disk, file, num, s⟩ = M) := by show _ = _; unfold stepM; rw [if_neg a0, if_neg a1, if_neg a2, if_neg a5]
  rw [HST.out]
  have t0 : (act == 0) = false := by rw [beq_eq_false_iff_ne]; exact a0
  have t1 : (act == 1) = false := by rw [beq_eq_false_iff_ne]; exact a1
  have t2 : (act == 2) = false := by rw [beq_eq_false_iff_ne]; exact a2
  have t3 : (act == 3) = false := by rw [beq_eq_false_iff_ne]; exact a3
  have t4 : (act == 4) = false := by rw [beq_eq_false_iff_ne]; exact a4
  have t5 : (act == 5) = false := by rw [beq_eq_false_iff_ne]; exact a5
  have t6 : (act == 6) = false := by rw [beq_eq_false_iff_ne]; exact a6
  clear a0 a1 a2 a3 a4 a5 a6
  go_enter Try.func25, Try.ntmps25
  go_wp2_with fail
  go_ret
  exact ⟨rfl, v, FIN.out _ _ _ _ _ H1.out⟩
theorem does_sat {w0 w : World} {F : List HP} {d r : Nat} {v : Nat → Value} {M : MD} (o : DOp) (hS : Sat w0 w (DiskV d v M :: Blk r 69 (cellsR M) :: F)) (hok : M.Ok) (hwf : o.wf) :
    Calls Try.prog 25 #[.agg #[.pointer (some ⟨d, 0, none⟩), .pointer (some ⟨r, 0, none⟩)], .agg #[.int .i64 o.act, .int .i64 o.disk, .int .i64 o.file, .int .i64 o.num, .string o.s]] w fun e w' =>
      e = .returned (.bool true) ∧ ∃ v', Sat w0 w' (DiskV d v' (stepM M o) :: Blk r 69 (cellsR (stepM M o)) :: F) := by
  obtain ⟨act, disk, file, num, s⟩ := o
  by_cases a0 : act = 0
  · exact does_app act disk file num s hS hok hwf a0
  by_cases a1 : act = 1
  · exact does_sync act disk file num s hS hok hwf a1
  by_cases a2 : act = 2
  · exact does_cut act disk file num s hS hok hwf a2
  by_cases a3 : act = 3
  · exact does_read act disk file num s hS hok hwf a3
  by_cases a4 : act = 4
  · exact does_size act disk file num s hS hok hwf a4
  by_cases a5 : act = 5
  · exact does_crash act disk file num s hS hok hwf a5
  by_cases a6 : act = 6
  · exact does_used act disk file num s hS hok hwf a6
  · exact does_none act disk file num s hS hok hwf ⟨a0, a1, a2, a3, a4, a5, a6⟩
end Go.Proofs.Ytjlpgjfgeikdeaa
