import Derived.Test.YtjlpgjfgeikdeaaDoorJ1
import Derived.ScopeJumps
import Derived.WalkMore
section
/- Add, Sync and Stat of both journals. -/
set_option linter.unusedVariables false
set_option linter.unusedSimpArgs false
set_option linter.unnecessarySimpa false
set_option maxRecDepth 100000
namespace Go.Proofs.YtjlpgjfgeikdeaaDoor
open Go.RowKit Go.ChangeShapes Go.WideShapes Go.ChangeAt
open Fr (strOfNats strOfNats_size strOfNats_bytes bytesOf Table restOf wrapS)
def addR (M : MD) (J : JS) (rec : ByteArray) : MD × JS × Int :=
  if 4000 < rec.size then (M, J, 2) else if (appR M J.file (wrapS rec)).2 = 0 then ((appR M J.file (wrapS rec)).1, ⟨J.file, J.gen, J.n + 1⟩, 0) else (M, J, (appR M J.file (wrapS rec)).2)
/-- behind a call that answers a code -/
def POut (w0 : World) (F : List HP) (j d : Nat) (R : MD × JS × Int) (e : Ending) (w' : World) : Prop := e = .returned (.int .i64 R.2.2) ∧ ∃ v', Sat w0 w' (JB j d R.2.1 :: DiskV d v' R.1 :: F)
def ROut (w0 : World) (F : List HP) (y r : Nat) (R : MD × JS × Int) (e : Ending) (w' : World) : Prop := e = .returned (.int .i64 R.2.2) ∧ Sat w0 w' (RB y r R.2.1 :: Blk r 83 (cellsR R.1) :: F)
section
variable {w0 w : World} {F : List HP} {d r j y : Nat} {v : Nat → Value} {M : MD} {J : JS}
set_option maxHeartbeats 800000 in
theorem add_any (hS : Sat w0 w (JB j d J :: DiskV d v M :: F)) (hok : M.Ok) (rec : ByteArray) (hs : rec.size ≤ 9223372036854775807) (hn : J.n ≤ 1099511627776) (hO : Old w0 ∈ F) (hT : Table w0) :
    Calls Tryd.prog 34 #[.pointer (some ⟨j, 0, none⟩), .string rec] w (POut w0 F j d (addR M J rec)) := by
  obtain ⟨file, gen, n⟩ := J
  simp only at hn
  have HOK := Lib.hid hok
  have HT := Lib.hid (hS.table (List.mem_cons_of_mem _ (List.mem_cons_of_mem _ hO)) hT)
  clear hok
  by_cases hl : 4000 < rec.size
  · have HR : Hid (addR M ⟨file, gen, n⟩ rec = (M, ⟨file, gen, n⟩, 2)) := by show _ = _; unfold addR; rw [if_pos hl]
    have t0 : decide ((rec.size : Int) > 4000) = true := by simp; omega
    have t1 : decide (4000 < (rec.size : Int)) = true := by simp; omega
    clear hl
    go_enter Tryd.func34, Tryd.ntmps34
    go_wp2_with fail
    go_ret
    rw [HR.out]
    exact ⟨rfl, v, hS⟩
  · have t0 : decide ((rec.size : Int) > 4000) = false := by simp; omega
    have t1 : decide (4000 < (rec.size : Int)) = false := by simp; omega
    have HWR := Lib.hid (Fr.wrap_fits rec w (by omega) HT.out)
    have HHS : Hid ((wrapS rec).size ≤ 9223372036854775807) := by show _ ≤ _; rw [wrapS_size]; omega
    have har : addR M ⟨file, gen, n⟩ rec = if (appR M file (wrapS rec)).2 = 0 then ((appR M file (wrapS rec)).1, ⟨file, gen, n + 1⟩, 0) else (M, ⟨file, gen, n⟩, (appR M file (wrapS rec)).2) := by unfold addR; rw [if_neg hl]
    have HAR := Lib.hid har
    obtain ⟨H, hH⟩ : ∃ H, wrapS rec = H := ⟨_, rfl⟩
    rw [hH] at HWR HHS HAR
    have HA := Lib.hid (fun h => app_no (M := M) (n := (file : Int)) (s := H) h)
    have hap := Lib.hid (fun (w1 : World) (hS1 : Sat w0 w1 (DiskV d v M :: JB j d ⟨file, gen, n⟩ :: F)) => app_sat hS1 HOK.out (file : Int) H HHS.out)
    obtain ⟨⟨M1, e1⟩, hA⟩ : ∃ x, appR M (file : Int) H = x := ⟨_, rfl⟩
    rw [hA] at HA HAR hap
    simp only at HA HAR hap
    clear hl hH hA har
    go_enter Tryd.func34, Tryd.ntmps34
    go_wp2_with fail
    refine HWR.out.mono ?_
    rintro e w1 ⟨rfl, hb⟩
    have h1 := hS.below hb
    have x0 : w1.cell? ⟨j, 0, none⟩ = some (.pointer (some ⟨d, 0, none⟩)) := h1.blk.cell 0
    have x1 : w1.cell? ⟨j, 1, none⟩ = some (.int .i64 file) := h1.blk.cell 1
    clear hb hS
    go_wp2_with fail
    go_region_held3 (fun w' => w'.cell? ⟨j, 0, none⟩ = some (.pointer (some ⟨d, 0, none⟩)) ∧ w'.cell? ⟨j, 1, none⟩ = some (.int .i64 file))
      (first | exact ⟨x0, x1⟩ | exact ⟨y0, y1⟩)
      (first
        | (go_at_call 30; refine (hap.out _ h1.r2.drew).mono ?_; rintro e w5 ⟨rfl, v5, h5⟩; have y0 : w5.cell? ⟨j, 0, none⟩ = some (.pointer (some ⟨d, 0, none⟩)) := h5.r2.blk.cell 0; have y1 : w5.cell? ⟨j, 1, none⟩ = some (.int .i64 file) := h5.r2.blk.cell 1))
    have h6 := h5.r2
    clear h5 h1 hap x0 x1
    by_cases he : e1 = 0
    · rw [if_pos he] at HAR
      subst he
      have y3 := h6.blk.cell 3
      have f3 := h6.blk.free 3
      have H7 : Hid (Sat w0 (w5.setCell ⟨j, 3, none⟩ (.int .i64 ((n + 1 : Nat) : Int))) (JB j d ⟨file, gen, n + 1⟩ :: DiskV d v5 M1 :: F)) := h6.set 3 (.int .i64 ((n + 1 : Nat) : Int))
      go_wp2_with fail
      go_ret
      rw [HAR.out]
      exact ⟨rfl, v5, H7.out⟩
    · rw [if_neg he] at HAR
      have t2 : (e1 == 0) = false := by rw [beq_eq_false_iff_ne]; exact he
      have t3 : (e1 != 0) = true := by simp [he]
      have HA1 := Lib.hid (HA.out he)
      clear he HA
      rw [HA1.out] at h6
      go_wp2_with fail
      go_ret
      rw [HAR.out]
      exact ⟨rfl, v5, h6⟩
set_option maxHeartbeats 800000 in
theorem radd_any (hS : Sat w0 w (RB y r J :: Blk r 83 (cellsR M) :: F)) (hok : M.Ok) (rec : ByteArray) (hs : rec.size ≤ 9223372036854775807) (hn : J.n ≤ 1099511627776) :
    Calls Tryd.prog 46 #[.pointer (some ⟨y, 0, none⟩), .string rec] w (ROut w0 F y r (addR M J rec)) := by
  obtain ⟨file, gen, n⟩ := J
  simp only at hn
  have HOK := Lib.hid hok
  clear hok
  by_cases hl : 4000 < rec.size
  · have HR : Hid (addR M ⟨file, gen, n⟩ rec = (M, ⟨file, gen, n⟩, 2)) := by show _ = _; unfold addR; rw [if_pos hl]
    have t0 : decide ((rec.size : Int) > 4000) = true := by simp; omega
    have t1 : decide (4000 < (rec.size : Int)) = true := by simp; omega
    clear hl
    go_enter Tryd.func46, Tryd.ntmps46
    go_wp2_with fail
    go_ret
    rw [HR.out]
    exact ⟨rfl, hS⟩
  · have t0 : decide ((rec.size : Int) > 4000) = false := by simp; omega
    have t1 : decide (4000 < (rec.size : Int)) = false := by simp; omega
    have HWR := Lib.hid (Fr.rwrap_fits rec w (by omega))
    have HHS : Hid ((wrapS rec).size ≤ 9223372036854775807) := by show _ ≤ _; rw [wrapS_size]; omega
    have har : addR M ⟨file, gen, n⟩ rec = if (appR M file (wrapS rec)).2 = 0 then ((appR M file (wrapS rec)).1, ⟨file, gen, n + 1⟩, 0) else (M, ⟨file, gen, n⟩, (appR M file (wrapS rec)).2) := by unfold addR; rw [if_neg hl]
    have HAR := Lib.hid har
    obtain ⟨H, hH⟩ : ∃ H, wrapS rec = H := ⟨_, rfl⟩
    rw [hH] at HWR HHS HAR
    have HA := Lib.hid (fun h => app_no (M := M) (n := (file : Int)) (s := H) h)
    have hap := Lib.hid (fun (w1 : World) (hS1 : Sat w0 w1 (RB y r ⟨file, gen, n⟩ :: Blk r 83 (cellsR M) :: F)) => rapp_sat hS1 HOK.out (file : Int) H HHS.out)
    obtain ⟨⟨M1, e1⟩, hA⟩ : ∃ x, appR M (file : Int) H = x := ⟨_, rfl⟩
    rw [hA] at HA HAR hap
    simp only at HA HAR hap
    clear hl hH hA har
    go_enter Tryd.func46, Tryd.ntmps46
    go_wp2_with fail
    refine HWR.out.mono ?_
    rintro e w1 ⟨rfl, hb⟩
    have h1 := hS.below hb
    have x0 : w1.cell? ⟨y, 0, none⟩ = some (.pointer (some ⟨r, 0, none⟩)) := h1.blk.cell 0
    have x1 : w1.cell? ⟨y, 1, none⟩ = some (.int .i64 file) := h1.blk.cell 1
    clear hb hS
    go_wp2_with fail
    go_region_held3 (fun w' => w'.cell? ⟨y, 0, none⟩ = some (.pointer (some ⟨r, 0, none⟩)) ∧ w'.cell? ⟨y, 1, none⟩ = some (.int .i64 file))
      (first | exact ⟨x0, x1⟩ | exact ⟨y0, y1⟩)
      (first
        | (go_at_call 32; refine (hap.out _ h1.drew).mono ?_; rintro e w5 ⟨rfl, h5⟩; have y0 : w5.cell? ⟨y, 0, none⟩ = some (.pointer (some ⟨r, 0, none⟩)) := h5.blk.cell 0; have y1 : w5.cell? ⟨y, 1, none⟩ = some (.int .i64 file) := h5.blk.cell 1))
    have h6 := h5
    clear h5 h1 hap x0 x1
    by_cases he : e1 = 0
    · rw [if_pos he] at HAR
      subst he
      have y3 := h6.blk.cell 3
      have f3 := h6.blk.free 3
      have H7 : Hid (Sat w0 (w5.setCell ⟨y, 3, none⟩ (.int .i64 ((n + 1 : Nat) : Int))) (RB y r ⟨file, gen, n + 1⟩ :: Blk r 83 (cellsR M1) :: F)) := h6.set 3 (.int .i64 ((n + 1 : Nat) : Int))
      go_wp2_with fail
      go_ret
      rw [HAR.out]
      exact ⟨rfl, H7.out⟩
    · rw [if_neg he] at HAR
      have t2 : (e1 == 0) = false := by rw [beq_eq_false_iff_ne]; exact he
      have t3 : (e1 != 0) = true := by simp [he]
      have HA1 := Lib.hid (HA.out he)
      clear he HA
      rw [HA1.out] at h6
      go_wp2_with fail
      go_ret
      rw [HAR.out]
      exact ⟨rfl, h6⟩
end
end Go.Proofs.YtjlpgjfgeikdeaaDoor
end

section
/- Sync and Stat of both journals. -/
set_option linter.unusedVariables false
set_option linter.unusedSimpArgs false
set_option linter.unnecessarySimpa false
set_option maxRecDepth 100000
namespace Go.Proofs.YtjlpgjfgeikdeaaDoor
open Go.RowKit Go.ChangeShapes Go.WideShapes Go.ChangeAt
open Fr (strOfNats strOfNats_size strOfNats_bytes bytesOf Table restOf wrapS)
def jsyncR (M : MD) (J : JS) : MD × JS × Int := ((syncR M J.file).1, J, (syncR M J.file).2)
section
variable {w0 w : World} {F : List HP} {d r j y : Nat} {v : Nat → Value} {M : MD} {J : JS}
set_option maxHeartbeats 800000 in
theorem jsync_any (hS : Sat w0 w (JB j d J :: DiskV d v M :: F)) :
    Calls Tryd.prog 35 #[.pointer (some ⟨j, 0, none⟩)] w (POut w0 F j d (jsyncR M J)) := by
  obtain ⟨file, gen, n⟩ := J
  have h1 := hS
  have x0 : w.cell? ⟨j, 0, none⟩ = some (.pointer (some ⟨d, 0, none⟩)) := h1.blk.cell 0
  have x1 : w.cell? ⟨j, 1, none⟩ = some (.int .i64 file) := h1.blk.cell 1
  clear hS
  go_enter Tryd.func35, Tryd.ntmps35
  go_wp2_with fail
  go_region_held3 (fun w' => w'.cell? ⟨j, 0, none⟩ = some (.pointer (some ⟨d, 0, none⟩)) ∧ w'.cell? ⟨j, 1, none⟩ = some (.int .i64 file))
    (first | exact ⟨x0, x1⟩ | exact ⟨y0, y1⟩)
    (first
      | (go_at_call 31; refine (sync_sat h1.r2.drew (file : Int)).mono ?_; rintro e w5 ⟨rfl, v5, h5⟩; have y0 : w5.cell? ⟨j, 0, none⟩ = some (.pointer (some ⟨d, 0, none⟩)) := h5.r2.blk.cell 0; have y1 : w5.cell? ⟨j, 1, none⟩ = some (.int .i64 file) := h5.r2.blk.cell 1))
  go_wp2_with fail
  go_ret
  exact ⟨rfl, v5, h5.r2⟩
set_option maxHeartbeats 800000 in
theorem rjsync_any (hS : Sat w0 w (RB y r J :: Blk r 83 (cellsR M) :: F)) :
    Calls Tryd.prog 47 #[.pointer (some ⟨y, 0, none⟩)] w (ROut w0 F y r (jsyncR M J)) := by
  obtain ⟨file, gen, n⟩ := J
  have h1 := hS
  have x0 : w.cell? ⟨y, 0, none⟩ = some (.pointer (some ⟨r, 0, none⟩)) := h1.blk.cell 0
  have x1 : w.cell? ⟨y, 1, none⟩ = some (.int .i64 file) := h1.blk.cell 1
  clear hS
  go_enter Tryd.func47, Tryd.ntmps47
  go_wp2_with fail
  go_region_held3 (fun w' => w'.cell? ⟨y, 0, none⟩ = some (.pointer (some ⟨r, 0, none⟩)) ∧ w'.cell? ⟨y, 1, none⟩ = some (.int .i64 file))
    (first | exact ⟨x0, x1⟩ | exact ⟨y0, y1⟩)
    (first
      | (go_at_call 33; refine (rsync_sat h1.drew (file : Int)).mono ?_; rintro e w5 ⟨rfl, h5⟩; have y0 : w5.cell? ⟨y, 0, none⟩ = some (.pointer (some ⟨r, 0, none⟩)) := h5.blk.cell 0; have y1 : w5.cell? ⟨y, 1, none⟩ = some (.int .i64 file) := h5.blk.cell 1))
  go_wp2_with fail
  go_ret
  exact ⟨rfl, h5⟩
/-- what Stat answers -/
def statE (M : MD) (J : JS) : Ending := .returned (.tuple #[.int .i64 J.gen, .int .i64 J.n, .int .i64 (M.f J.file).b.size])
set_option maxHeartbeats 800000 in
theorem stat_any (hS : Sat w0 w (JB j d J :: DiskV d v M :: F)) (hf : J.file < 4) :
    Calls Tryd.prog 16 #[.pointer (some ⟨j, 0, none⟩)] w fun e w' => e = statE M J ∧ Sat w0 w' (JB j d J :: DiskV d v M :: F) := by
  obtain ⟨file, gen, n⟩ := J
  simp only at hf
  obtain ⟨L, hL⟩ : ∃ L, L = JB j d ⟨file, gen, n⟩ :: DiskV d v M :: F := ⟨_, rfl⟩
  have op : ∀ w', Sat w0 w' L → Sat w0 w' (JB j d ⟨file, gen, n⟩ :: DiskV d v M :: F) := fun w' h => by rw [hL] at h; exact h
  have hIn : Sat w0 w L := by rw [hL]; exact hS
  have f0 : ∀ x : In w0 L, x.w.cell? ⟨j, 0, none⟩ = some (.pointer (some ⟨d, 0, none⟩)) := fun x => (op _ x.ok).blk.cell 0
  have f1 : ∀ x : In w0 L, x.w.cell? ⟨j, 1, none⟩ = some (.int .i64 file) := fun x => (op _ x.ok).blk.cell 1
  have HE : Hid (statE M ⟨file, gen, n⟩ = .returned (.tuple #[.int .i64 gen, .int .i64 n, .int .i64 (M.f file).b.size])) := rfl
  obtain ⟨z, hz⟩ : ∃ z, (M.f file).b.size = z := ⟨_, rfl⟩
  obtain ⟨sf, hsf⟩ : ∃ z, (M.f file).safe = z := ⟨_, rfl⟩
  have c15 : Hid (∀ x : In w0 L, Calls Tryd.prog 15 #[.pointer (some ⟨d, 0, none⟩), .int .i64 file] x.w fun e w' => e = .returned (.tuple #[.int .i64 z, .int .i64 sf, .int .i64 0]) ∧ ∃ y : In w0 L, w' = y.w) := by
    show ∀ x, _
    intro x
    have h := op _ x.ok
    have hc := size_any d v M file x.w hf h.r2.disk
    rw [hz, hsf] at hc
    exact Calls.in_drewN hc
  rw [hz] at HE
  have HIN := Lib.hid hIn
  have HOP := Lib.hid op
  haveI hne : Nonempty (In w0 L) := ⟨⟨_, hIn⟩⟩
  clear hL op hIn hS hz hsf
  go_enter Tryd.func16, Tryd.ntmps16
  go_wp2_with fail
  refine wp_region_in HIN.out (by kernel_rfl) (by kernel_rfl) ?_
  repeat go_big_quiet_step ((first | (go_at_call 15; exact c15.out _)))
  refine wpQuiet_nil ?_
  intro w7 hw'
  obtain ⟨x7, hw7⟩ := hw'
  have h7 := x7.ok
  rw [← hw7] at h7
  clear hw7 x7
  clear f0 f1 hne c15
  have h8 := HOP.out _ h7
  have x2 : w7.cell? ⟨j, 2, none⟩ = some (.int .i64 gen) := h8.blk.cell 2
  have x3 : w7.cell? ⟨j, 3, none⟩ = some (.int .i64 n) := h8.blk.cell 3
  clear h7
  go_wp2_with fail
  go_quiet (fail)
  go_wp2_with fail
  go_ret3
  exact ⟨HE.out.symm, h8.drewN _⟩
set_option maxHeartbeats 800000 in
theorem rstat_any (hS : Sat w0 w (RB y r J :: Blk r 83 (cellsR M) :: F)) (hf : J.file < 4) :
    Calls Tryd.prog 45 #[.pointer (some ⟨y, 0, none⟩)] w fun e w' => e = statE M J ∧ Sat w0 w' (RB y r J :: Blk r 83 (cellsR M) :: F) := by
  obtain ⟨file, gen, n⟩ := J
  simp only at hf
  have x0 : w.cell? ⟨y, 0, none⟩ = some (.pointer (some ⟨r, 0, none⟩)) := hS.blk.cell 0
  have x1 : w.cell? ⟨y, 1, none⟩ = some (.int .i64 file) := hS.blk.cell 1
  have x2 : w.cell? ⟨y, 2, none⟩ = some (.int .i64 gen) := hS.blk.cell 2
  have x3 : w.cell? ⟨y, 3, none⟩ = some (.int .i64 n) := hS.blk.cell 3
  have m0 := hS.r2.blk.cell (file * 2)
  rw [cellsR_row M file hf] at m0
  have HE : Hid (statE M ⟨file, gen, n⟩ = .returned (.tuple #[.int .i64 gen, .int .i64 n, .int .i64 (M.f file).b.size])) := rfl
  obtain ⟨b, hb⟩ : ∃ b, (M.f file).b = b := ⟨_, rfl⟩
  rw [hb] at m0 HE
  have HS := Lib.hid hS
  clear hb hS
  go_enter Tryd.func45, Tryd.ntmps45
  go_wp2_with fail
  go_quiet (fail)
  go_wp2_with fail
  go_ret3
  exact ⟨HE.out.symm, HS.out.drewN _⟩
end
end Go.Proofs.YtjlpgjfgeikdeaaDoor
end

section
/- Compact of both journals. -/
set_option linter.unusedVariables false
set_option linter.unusedSimpArgs false
set_option linter.unnecessarySimpa false
set_option maxRecDepth 100000
namespace Go.Proofs.YtjlpgjfgeikdeaaDoor
open Go.RowKit Go.ChangeShapes Go.WideShapes Go.ChangeAt
open Fr (strOfNats strOfNats_size strOfNats_bytes bytesOf Table restOf wrapS)
def compR (M : MD) (J : JS) (snap : ByteArray) : MD × JS × Int :=
  if (laysR M (1 - J.file) (J.gen + 1) snap).2 = 0 then ((cutR (laysR M (1 - J.file) (J.gen + 1) snap).1 J.file 0).1, ⟨1 - J.file, J.gen + 1, 0⟩, 0) else ((laysR M (1 - J.file) (J.gen + 1) snap).1, J, (laysR M (1 - J.file) (J.gen + 1) snap).2)
theorem lays_ok {M : MD} (hok : M.Ok) (file gen : Nat) (snap : ByteArray) : (laysR M file gen snap).1.Ok := by
  unfold laysR
  split
  · split
    · exact sync_ok (app_ok hok _ _) _
    · exact hok
  · exact hok
def JmpRel (w0 : World) (F : List HP) (j d : Nat) (M1 : MD) (J : JS) (snap : ByteArray) (c : Int) (a : Act) (w' : World) : Prop :=
  c = 0 ∧ ∃ (v1 : Nat → Value) (u2 u3 u4 u6 u7 u8 u9 u10 u11 u12 u13 u14 u15 u16 u17 u18 u19 u20 u21 u22 u23 u24 u25 u26 u27 u28 u29 u30 u31 u32 u33 u34 u35 u36 u37 u38 u39 u40 u41 u42 u43 u44 u45 u46 u47 u48 u49 u50 u51 u52 : Value), a = { tmps := #[.pointer (some ⟨j, 0, none⟩), .string snap, u2, u3, u4, .bool true, u6, u7, u8, u9, u10, u11, u12, u13, u14, u15, u16, u17, u18, u19, u20, u21, u22, u23, u24, u25, u26, u27, u28, u29, u30, u31, u32, u33, u34, u35, u36, u37, u38, u39, u40, u41, u42, u43, u44, u45, u46, u47, u48, u49, u50, u51, u52], defers := [] } ∧ Sat w0 w' (JB j d J :: DiskV d v1 M1 :: F)
section
variable {w0 w : World} {F : List HP} {d r j y : Nat} {v : Nat → Value} {M : MD} {J : JS}
set_option maxHeartbeats 800000 in
theorem comp_any (hS : Sat w0 w (JB j d J :: DiskV d v M :: F)) (hok : M.Ok) (snap : ByteArray) (hs : snap.size ≤ 9223372036854775807) (hf : J.file < 2) (hg : J.gen ≤ 1125899906842624) (hO : Old w0 ∈ F) (hT : Table w0) :
    Calls Tryd.prog 20 #[.pointer (some ⟨j, 0, none⟩), .string snap] w (POut w0 F j d (compR M J snap)) := by
  obtain ⟨file, gen, n⟩ := J
  simp only at hf hg
  have HOK := Lib.hid hok
  have HOK1 : Hid ((laysR M (1 - file) (gen + 1) snap).1.Ok) := lays_ok hok _ _ _
  have hcr : compR M ⟨file, gen, n⟩ snap = if (laysR M (1 - file) (gen + 1) snap).2 = 0 then ((cutR (laysR M (1 - file) (gen + 1) snap).1 file 0).1, ⟨1 - file, gen + 1, 0⟩, 0) else ((laysR M (1 - file) (gen + 1) snap).1, ⟨file, gen, n⟩, (laysR M (1 - file) (gen + 1) snap).2) := rfl
  have HCR := Lib.hid hcr
  have hla := Lib.hid (fun (w1 : World) (hS1 : Sat w0 w1 (DiskV d v M :: JB j d ⟨file, gen, n⟩ :: F)) => lays_any (1 - file) (gen + 1) snap hS1 hok (by omega) hs (List.mem_cons_of_mem _ hO) hT)
  obtain ⟨o, ho⟩ : ∃ o, 1 - file = o := ⟨_, rfl⟩
  rw [ho] at HCR HOK1 hla
  have hoi : (1 : Int) - (file : Int) = (o : Int) := by omega
  have hg1 : ((gen + 1 : Nat) : Int) = (gen : Int) + 1 := by omega
  have sw : IntKind.i64.wrap ((gen : Int) + 1) = (gen : Int) + 1 := IntWalk.i64_in _ (by omega)
  rw [hg1] at hla
  obtain ⟨⟨M1, c⟩, hM1⟩ : ∃ x, laysR M o (gen + 1) snap = x := ⟨_, rfl⟩
  rw [hM1] at HCR HOK1 hla
  simp only at HCR HOK1 hla
  have x0 : w.cell? ⟨j, 0, none⟩ = some (.pointer (some ⟨d, 0, none⟩)) := hS.blk.cell 0
  have x1 : w.cell? ⟨j, 1, none⟩ = some (.int .i64 file) := hS.blk.cell 1
  have x2 : w.cell? ⟨j, 2, none⟩ = some (.int .i64 gen) := hS.blk.cell 2
  have HG1 := Lib.hid hg1
  clear hM1 ho hcr hok hg1
  go_enter Tryd.func20, Tryd.ntmps20
  go_wp2_with fail
  refine wp_scope_jumps 0 (JmpRel w0 F j d M1 ⟨file, gen, n⟩ snap c) (fun _ _ => 0) rfl ?_ ?_
  · go_wp2_with fail
    go_step3
    go_wp2_with fail
    go_region_held3 (fun w' => w'.cell? ⟨j, 0, none⟩ = some (.pointer (some ⟨d, 0, none⟩)) ∧ w'.cell? ⟨j, 2, none⟩ = some (.int .i64 gen))
      (first | exact ⟨x0, x2⟩ | exact ⟨y0, y2⟩)
      (first
        | (go_at_call 36; refine (hla.out _ hS.r2.drew).mono ?_; rintro e w5 ⟨rfl, v5, h5⟩; have y0 : w5.cell? ⟨j, 0, none⟩ = some (.pointer (some ⟨d, 0, none⟩)) := h5.r2.blk.cell 0; have y2 : w5.cell? ⟨j, 2, none⟩ = some (.int .i64 gen) := h5.r2.blk.cell 2))
    have h6 := h5.r2
    clear h5 hla x0 x1 x2 hS
    by_cases hc : c = 0
    · subst hc
      rw [if_pos rfl] at HCR
      go_wp2_with fail
      go_step3
      exact ⟨rfl, rfl, v5, _, _, _, _, _, _, _, _, _, _, _, _, _, _, _, _, _, _, _, _, _, _, _, _, _, _, _, _, _, _, _, _, _, _, _, _, _, _, _, _, _, _, _, _, _, _, _, _, _, _, rfl, h6⟩
    · rw [if_neg hc] at HCR
      have t2 : (c == 0) = false := by rw [beq_eq_false_iff_ne]; exact hc
      have t3 : (c != 0) = true := by simp [hc]
      clear hc
      go_wp2_with fail
      simp only [Exit.jump]
      go_ret
      rw [HCR.out]
      exact ⟨rfl, v5, h6⟩
  · rintro a w1 ⟨hc, v1, u2, u3, u4, u6, u7, u8, u9, u10, u11, u12, u13, u14, u15, u16, u17, u18, u19, u20, u21, u22, u23, u24, u25, u26, u27, u28, u29, u30, u31, u32, u33, u34, u35, u36, u37, u38, u39, u40, u41, u42, u43, u44, u45, u46, u47, u48, u49, u50, u51, u52, rfl, h1⟩
    · rw [if_pos hc] at HCR
      clear hc hla hS x0 x1 x2
      have x0 : w1.cell? ⟨j, 0, none⟩ = some (.pointer (some ⟨d, 0, none⟩)) := h1.blk.cell 0
      have x1 : w1.cell? ⟨j, 1, none⟩ = some (.int .i64 file) := h1.blk.cell 1
      go_wp2_with fail
      go_region_held3 (fun w' => w'.cell? ⟨j, 0, none⟩ = some (.pointer (some ⟨d, 0, none⟩)) ∧ w'.cell? ⟨j, 1, none⟩ = some (.int .i64 file))
        (first | exact ⟨x0, x1⟩ | exact ⟨y0, y1⟩)
        (first
          | (go_at_call 42; refine (cut_sat h1.r2.drew HOK1.out (file : Int) 0).mono ?_; rintro e w5 ⟨rfl, v5, h5⟩; have y0 : w5.cell? ⟨j, 0, none⟩ = some (.pointer (some ⟨d, 0, none⟩)) := h5.r2.blk.cell 0; have y1 : w5.cell? ⟨j, 1, none⟩ = some (.int .i64 file) := h5.r2.blk.cell 1))
      have h6 := h5.r2
      have y2 : w5.cell? ⟨j, 2, none⟩ = some (.int .i64 gen) := h6.blk.cell 2
      have y3 : w5.cell? ⟨j, 3, none⟩ = some (.int .i64 n) := h6.blk.cell 3
      have f1 := h6.blk.free 1
      have f2 := h6.blk.free 2
      have f3 := h6.blk.free 3
      have H7 : Hid (Sat w0 (((w5.setCell ⟨j, 1, none⟩ (.int .i64 o)).setCell ⟨j, 2, none⟩ (.int .i64 ((gen : Int) + 1))).setCell ⟨j, 3, none⟩ (.int .i64 0)) (JB j d ⟨o, gen + 1, 0⟩ :: DiskV d v5 (cutR M1 file 0).1 :: F)) := ((h6.set 1 (.int .i64 o)).set 2 (.int .i64 ((gen : Int) + 1))).set 3 (.int .i64 0)
      clear h5 h6 x0 x1 h1
      go_wp2_with fail
      simp only [Exit.jump]
      go_ret
      rw [HCR.out]
      exact ⟨rfl, v5, H7.out⟩
set_option maxHeartbeats 800000 in
theorem rcomp_any (hS : Sat w0 w (RB y r J :: Blk r 83 (cellsR M) :: F)) (hok : M.Ok) (snap : ByteArray) (hs : snap.size ≤ 9223372036854775807) (hf : J.file < 2) (hg : J.gen ≤ 1125899906842624) :
    Calls Tryd.prog 48 #[.pointer (some ⟨y, 0, none⟩), .string snap] w (ROut w0 F y r (compR M J snap)) := by
  obtain ⟨file, gen, n⟩ := J
  simp only at hf hg
  have HOK := Lib.hid hok
  have hcr : compR M ⟨file, gen, n⟩ snap = if (laysR M (1 - file) (gen + 1) snap).2 = 0 then ((cutR (laysR M (1 - file) (gen + 1) snap).1 file 0).1, ⟨1 - file, gen + 1, 0⟩, 0) else ((laysR M (1 - file) (gen + 1) snap).1, ⟨file, gen, n⟩, (laysR M (1 - file) (gen + 1) snap).2) := rfl
  have HCR := Lib.hid hcr
  have x0 : w.cell? ⟨y, 0, none⟩ = some (.pointer (some ⟨r, 0, none⟩)) := hS.blk.cell 0
  have x1 : w.cell? ⟨y, 1, none⟩ = some (.int .i64 file) := hS.blk.cell 1
  have x2 : w.cell? ⟨y, 2, none⟩ = some (.int .i64 gen) := hS.blk.cell 2
  by_cases hh : gen + 1 ≤ 1125899906842624 ∧ snap.size ≤ 190000
  · have hlr : laysR M (1 - file) (gen + 1) snap = if (appR M (1 - file : Nat) (headS (gen + 1) snap)).2 = 0 then ((syncR (appR M (1 - file : Nat) (headS (gen + 1) snap)).1 (1 - file : Nat)).1, 0) else (M, (appR M (1 - file : Nat) (headS (gen + 1) snap)).2) := by
      unfold laysR; rw [if_pos hh]
    obtain ⟨o, ho⟩ : ∃ o, 1 - file = o := ⟨_, rfl⟩
    have ho2 : o < 4 := by omega
    have hoi : (1 : Int) - (file : Int) = (o : Int) := by omega
    rw [ho] at HCR hlr
    have HHS : Hid ((headS (gen + 1) snap).size ≤ 9223372036854775807) := by
      show _ ≤ _
      have := headRS_size hh.1 snap
      unfold headS
      rw [wrapS_size]
      omega
    have HC := Lib.hid (fun (w1 : World) => rhead_ok (gen + 1) snap w1 hh.1 hh.2)
    have hg1 : ((gen + 1 : Nat) : Int) = (gen : Int) + 1 := by omega
    have sw : IntKind.i64.wrap ((gen : Int) + 1) = (gen : Int) + 1 := IntWalk.i64_in _ (by omega)
    have sw2 : IntKind.i64.wrap ((1 : Int) - (file : Int)) = (o : Int) := by rw [hoi]; exact IntWalk.i64_in _ (by omega)
    have swo : IntKind.i64.wrap (o : Int) = (o : Int) := IntWalk.i64_in _ (by omega)
    rw [hg1] at HC
    obtain ⟨H, hH⟩ : ∃ H, headS (gen + 1) snap = H := ⟨_, rfl⟩
    rw [hH] at HHS HC hlr
    have HA := Lib.hid (fun h => app_no (M := M) (n := (o : Int)) (s := H) h)
    have hap := Lib.hid (fun (w1 : World) (hS1 : Sat w0 w1 (RB y r ⟨file, gen, n⟩ :: Blk r 83 (cellsR M) :: F)) => rapp_sat hS1 HOK.out (o : Int) H HHS.out)
    have HOK1 : Hid ((appR M (o : Int) H).1.Ok) := app_ok HOK.out _ _
    obtain ⟨⟨M1, e1⟩, hA⟩ : ∃ x, appR M (o : Int) H = x := ⟨_, rfl⟩
    rw [hA] at HA hap hlr HOK1
    simp only at HA hap hlr HOK1
    rw [hlr] at HCR
    have t0 : decide ((snap.size : Int) > 190000) = false := by simp; omega
    have t1 : decide (190000 < (snap.size : Int)) = false := by simp; omega
    have t2 : decide ((gen : Int) ≥ 1125899906842624) = false := by simp; omega
    have t3 : decide ((1125899906842624 : Int) ≤ (gen : Int)) = false := by simp; omega
    have HG1 := Lib.hid hg1
    clear hlr hH hA hh ho hcr hok hg1
    go_enter Tryd.func48, Tryd.ntmps48
    go_wp2_with fail
    go_region_held3 (fun w' => w'.cell? ⟨y, 0, none⟩ = some (.pointer (some ⟨r, 0, none⟩)) ∧ w'.cell? ⟨y, 1, none⟩ = some (.int .i64 file) ∧ w'.cell? ⟨y, 2, none⟩ = some (.int .i64 gen))
      (first | exact ⟨x0, x1, x2⟩ | exact ⟨y0, y1, y2⟩ | exact ⟨z0, z1, z2⟩)
      (first
        | (go_at_call 37; refine (HC.out _).mono ?_; rintro e w5 ⟨rfl, hb5⟩; have h5 := hS.drew.below hb5; have y0 : w5.cell? ⟨y, 0, none⟩ = some (.pointer (some ⟨r, 0, none⟩)) := h5.blk.cell 0; have y1 : w5.cell? ⟨y, 1, none⟩ = some (.int .i64 file) := h5.blk.cell 1; have y2 : w5.cell? ⟨y, 2, none⟩ = some (.int .i64 gen) := h5.blk.cell 2)
        | (go_at_call 32; refine (hap.out _ h5).mono ?_; rintro e w6 ⟨rfl, h6⟩; have z0 : w6.cell? ⟨y, 0, none⟩ = some (.pointer (some ⟨r, 0, none⟩)) := h6.blk.cell 0; have z1 : w6.cell? ⟨y, 1, none⟩ = some (.int .i64 file) := h6.blk.cell 1; have z2 : w6.cell? ⟨y, 2, none⟩ = some (.int .i64 gen) := h6.blk.cell 2))
    clear h5 x0 x1 x2 y0 y1 y2 hb5 hS hap
    by_cases hc : e1 = 0
    · rw [if_pos hc] at HCR
      simp only [if_true] at HCR
      subst hc
      have HOK2 : Hid ((syncR M1 (o : Int)).1.Ok) := sync_ok HOK1.out _
      obtain ⟨M2, hM2⟩ : ∃ M2, (syncR M1 (o : Int)).1 = M2 := ⟨_, rfl⟩
      have HM2 := Lib.hid hM2
      rw [hM2] at HCR HOK2
      clear hM2
      go_wp2_with fail
      go_region_held3 (fun w' => w'.cell? ⟨y, 0, none⟩ = some (.pointer (some ⟨r, 0, none⟩)) ∧ w'.cell? ⟨y, 1, none⟩ = some (.int .i64 file))
        (first | exact ⟨z0, z1⟩ | exact ⟨y0, y1⟩)
        (first
          | (go_at_call 33; refine (rsync_sat h6.drew (o : Int)).mono ?_; rintro e w7 ⟨rfl, h7⟩; have y0 : w7.cell? ⟨y, 0, none⟩ = some (.pointer (some ⟨r, 0, none⟩)) := h7.blk.cell 0; have y1 : w7.cell? ⟨y, 1, none⟩ = some (.int .i64 file) := h7.blk.cell 1))
      rw [HM2.out] at h7
      clear h6 z0 z1 z2
      go_wp2_with fail
      go_region_held3 (fun w' => w'.cell? ⟨y, 0, none⟩ = some (.pointer (some ⟨r, 0, none⟩)) ∧ w'.cell? ⟨y, 1, none⟩ = some (.int .i64 file))
        (first | exact ⟨z0, z1⟩ | exact ⟨y0, y1⟩)
        (first
          | (go_at_call 60; refine (rcut_sat h7.drew HOK2.out (file : Int) 0).mono ?_; rintro e w8 ⟨rfl, h8⟩; have z0 : w8.cell? ⟨y, 0, none⟩ = some (.pointer (some ⟨r, 0, none⟩)) := h8.blk.cell 0; have z1 : w8.cell? ⟨y, 1, none⟩ = some (.int .i64 file) := h8.blk.cell 1))
      have z2 : w8.cell? ⟨y, 2, none⟩ = some (.int .i64 gen) := h8.blk.cell 2
      have z3 : w8.cell? ⟨y, 3, none⟩ = some (.int .i64 n) := h8.blk.cell 3
      have f1 := h8.blk.free 1
      have f2 := h8.blk.free 2
      have f3 := h8.blk.free 3
      have H9 : Hid (Sat w0 (((w8.setCell ⟨y, 1, none⟩ (.int .i64 o)).setCell ⟨y, 2, none⟩ (.int .i64 ((gen : Int) + 1))).setCell ⟨y, 3, none⟩ (.int .i64 0)) (RB y r ⟨o, gen + 1, 0⟩ :: Blk r 83 (cellsR (cutR M2 file 0).1) :: F)) := ((h8.set 1 (.int .i64 o)).set 2 (.int .i64 ((gen : Int) + 1))).set 3 (.int .i64 0)
      clear h7 h8 y0 y1
      go_wp2_with fail
      go_ret
      rw [HCR.out]
      exact ⟨rfl, H9.out⟩
    · rw [if_neg hc] at HCR
      simp only [if_neg hc] at HCR
      have t4 : (e1 == 0) = false := by rw [beq_eq_false_iff_ne]; exact hc
      have t5 : (e1 != 0) = true := by simp [hc]
      have HA1 := Lib.hid (HA.out hc)
      clear hc HA
      rw [HA1.out] at h6
      go_wp2_with fail
      go_ret
      rw [HCR.out]
      exact ⟨rfl, h6⟩
  · have HCR2 : Hid (compR M ⟨file, gen, n⟩ snap = (M, ⟨file, gen, n⟩, 2)) := by
      show _ = _
      have e : laysR M (1 - file) (gen + 1) snap = (M, 2) := by unfold laysR; rw [if_neg hh]
      rw [hcr, e]
      rfl
    clear hcr HCR
    by_cases hz : 190000 < snap.size
    · have t0 : decide ((snap.size : Int) > 190000) = true := by simp; omega
      have t1 : decide (190000 < (snap.size : Int)) = true := by simp; omega
      clear hh
      go_enter Tryd.func48, Tryd.ntmps48
      go_wp2_with fail
      go_ret
      rw [HCR2.out]
      exact ⟨rfl, hS⟩
    · have t0 : decide ((snap.size : Int) > 190000) = false := by simp; omega
      have t1 : decide (190000 < (snap.size : Int)) = false := by simp; omega
      have t2 : decide ((gen : Int) ≥ 1125899906842624) = true := by simp; omega
      have t3 : decide ((1125899906842624 : Int) ≤ (gen : Int)) = true := by simp; omega
      clear hh hz
      go_enter Tryd.func48, Tryd.ntmps48
      go_wp2_with fail
      go_ret
      rw [HCR2.out]
      exact ⟨rfl, hS⟩
end
end Go.Proofs.YtjlpgjfgeikdeaaDoor
end

section
/- Heads read: the document's ReadHead. -/
set_option linter.unusedVariables false
set_option linter.unusedSimpArgs false
set_option linter.unnecessarySimpa false
set_option maxRecDepth 100000
namespace Go.Proofs.YtjlpgjfgeikdeaaDoor
open Go.RowKit Go.ChangeShapes Go.WideShapes Go.ChangeAt
open Fr (strOfNats strOfNats_size strOfNats_bytes bytesOf Table restOf wrapS)
theorem take_used (f : Nat) : ∀ (k n : Nat) (l : List Nat) (v u : Nat), JnM.takeN f k n l = (v, u, 0) → k + 1 ≤ u ∧ u ≤ k + l.length := by
  induction f with
  | zero => intro k n l v u h; simp [JnM.takeN] at h
  | succ f ih =>
    intro k n l v u h
    cases l with
    | nil => simp [JnM.takeN] at h
    | cons b l =>
      simp only [JnM.takeN] at h
      split at h
      · split at h
        · simp at h
        · simp at h
          simp only [List.length_cons]
          omega
      · have := ih _ _ _ _ _ h
        simp only [List.length_cons]
        omega
/-- is it a head? the number's value and the place behind it -/
def isHead (s : ByteArray) : Prop := 0 < s.size ∧ (restOf s 0).getD 0 0 = 72 ∧ (JnM.takeNum (restOf s 1)).2.2 = 0 ∧ 1 ≤ (JnM.takeNum (restOf s 1)).1 ∧ s.size - (1 + (JnM.takeNum (restOf s 1)).2.1) ≤ 190000
instance (s : ByteArray) : Decidable (isHead s) := by unfold isHead; infer_instance
def headGen (s : ByteArray) : Nat := if isHead s then (JnM.takeNum (restOf s 1)).1 else 0
def headSnap (s : ByteArray) : ByteArray := if isHead s then s.extract (1 + (JnM.takeNum (restOf s 1)).2.1) s.size else ⟨#[]⟩
def rhOut (s : ByteArray) : Ending := .returned (.tuple #[.int .i64 (headGen s), .string (headSnap s), .bool (decide (isHead s))])
theorem head_used {s : ByteArray} (h : (JnM.takeNum (restOf s 1)).2.2 = 0) : 1 + (JnM.takeNum (restOf s 1)).2.1 ≤ s.size := by
  obtain ⟨⟨v, u, e⟩, ht⟩ : ∃ x, JnM.takeNum (restOf s 1) = x := ⟨_, rfl⟩
  rw [ht] at h ⊢
  simp only at h ⊢
  subst h
  have := take_used 8 0 0 _ v u ht
  rw [Fr.rest_length] at this
  omega
theorem first_byte (s : ByteArray) (h : 0 < s.size) : (restOf s 0).getD 0 0 = s[0].toNat := Fr.rest_getD s 0 0 (by omega)
theorem rh_no {s : ByteArray} (h : ¬ isHead s) : rhOut s = .returned (.tuple #[.int .i64 0, .string ⟨#[]⟩, .bool false]) := by
  unfold rhOut headGen headSnap
  rw [if_neg h, if_neg h, decide_eq_false h]
  rfl
theorem rh_yes {s : ByteArray} (h : isHead s) : rhOut s = .returned (.tuple #[.int .i64 (JnM.takeNum (restOf s 1)).1, .string (s.extract (1 + (JnM.takeNum (restOf s 1)).2.1) s.size), .bool true]) := by
  unfold rhOut headGen headSnap
  rw [if_pos h, if_pos h, decide_eq_true h]
set_option maxHeartbeats 800000 in
theorem readHead_any (s : ByteArray) (w : World) (hs : s.size ≤ 140737488351232) : Calls Tryd.prog 70 #[.string s] w fun e w' => e = rhOut s ∧ ∃ m, w' = w.drewN m := by
  by_cases h0 : s.size = 0
  · have HN := Lib.hid (rh_no (s := s) (by rintro ⟨h, _⟩; omega))
    go_enter Tryd.func70, Tryd.ntmps70
    go_wp2_with fail
    go_ret3
    exact ⟨HN.out.symm, 0, rfl⟩
  have hp : 0 < s.size := by omega
  have hfb := first_byte s hp
  have t0 : ((s.size : Int) == 0) = false := by rw [beq_eq_false_iff_ne]; omega
  have hb256 : s[0].toNat < 256 := by have := s[0].toNat_lt; simpa using this
  by_cases h72 : s[0].toNat = 72
  · have HC := Lib.hid (rtakeNum_any s 1 w (by omega) hs)
    have HY := Lib.hid (fun h => rh_yes (s := s) h)
    have HN := Lib.hid (fun h => rh_no (s := s) h)
    have hih : isHead s ↔ ((JnM.takeNum (restOf s 1)).2.2 = 0 ∧ 1 ≤ (JnM.takeNum (restOf s 1)).1 ∧ s.size - (1 + (JnM.takeNum (restOf s 1)).2.1) ≤ 190000) := by
      unfold isHead
      rw [hfb]
      exact ⟨fun h => h.2.2, fun h => ⟨hp, h72, h⟩⟩
    have HU := Lib.hid (fun h => head_used (s := s) h)
    obtain ⟨⟨tv, u, er⟩, ht⟩ : ∃ x, JnM.takeNum (restOf s 1) = x := ⟨_, rfl⟩
    rw [ht] at HC HY hih HU
    simp only at HC HY hih HU
    have HIH := Lib.hid hih
    unfold tkOut at HC
    simp only at HC
    clear hfb ht hih
    by_cases he : er = 0
    · subst he
      have hu := HU.out rfl
      rw [if_pos rfl] at HC
      obtain ⟨at_, hat⟩ : ∃ a, 1 + u = a := ⟨_, rfl⟩
      rw [hat] at HC HY HIH hu
      have sw : IntKind.i64.wrap ((s.size : Int) - (at_ : Int)) = ((s.size - at_ : Nat) : Int) := by rw [IntWalk.i64_in _ (by omega)]; omega
      have sw' : (s.size : Int) - (at_ : Int) = ((s.size - at_ : Nat) : Int) := by omega
      clear hat HU
      by_cases hv : 1 ≤ tv
      · have t1 : decide ((tv : Int) < 1) = false := decide_eq_false (by omega)
        obtain ⟨R, hR⟩ : ∃ R, s.size - at_ = R := ⟨_, rfl⟩
        rw [hR] at sw sw' HIH
        clear hR
        by_cases hl : R ≤ 190000
        · have t2 : decide ((R : Int) > 190000) = false := decide_eq_false (by omega)
          have t3 : decide ((190000 : Int) < (R : Int)) = false := decide_eq_false (by omega)
          have HO := Lib.hid (HY.out (HIH.out.2 ⟨rfl, hv, hl⟩))
          clear hv hl HY HN HIH
          go_enter Tryd.func70, Tryd.ntmps70
          go_wp2_with fail
          refine HC.out.mono ?_
          rintro e w1 ⟨rfl, rfl⟩
          go_wp2_with fail
          go_quiet (fail)
          go_wp2_with fail
          go_ret3
          exact ⟨HO.out.symm, _, rfl⟩
        · have t2 : decide ((R : Int) > 190000) = true := decide_eq_true (by omega)
          have t3 : decide ((190000 : Int) < (R : Int)) = true := decide_eq_true (by omega)
          have HO := Lib.hid (HN.out (fun h => hl (HIH.out.1 h).2.2))
          clear hv hl HY HN HIH
          go_enter Tryd.func70, Tryd.ntmps70
          go_wp2_with fail
          refine HC.out.mono ?_
          rintro e w1 ⟨rfl, rfl⟩
          go_wp2_with fail
          go_ret3
          exact ⟨HO.out.symm, 0, rfl⟩
      · have t1 : decide ((tv : Int) < 1) = true := decide_eq_true (by omega)
        have HO := Lib.hid (HN.out (fun h => hv (HIH.out.1 h).2.1))
        clear hv HY HN HIH
        go_enter Tryd.func70, Tryd.ntmps70
        go_wp2_with fail
        refine HC.out.mono ?_
        rintro e w1 ⟨rfl, rfl⟩
        go_wp2_with fail
        go_ret3
        exact ⟨HO.out.symm, 0, rfl⟩
    · rw [if_neg he] at HC
      have t1 : ((er : Int) == 0) = false := by rw [beq_eq_false_iff_ne]; omega
      have t2 : ((er : Int) != 0) = true := by simp; omega
      have HO := Lib.hid (HN.out (fun h => he (HIH.out.1 h).1))
      clear he HY HN HIH HU
      go_enter Tryd.func70, Tryd.ntmps70
      go_wp2_with fail
      refine HC.out.mono ?_
      rintro e w1 ⟨rfl, rfl⟩
      go_wp2_with fail
      go_ret3
      exact ⟨HO.out.symm, 0, rfl⟩
  · have HO := Lib.hid (rh_no (s := s) (by rintro ⟨_, h, _⟩; rw [hfb] at h; exact h72 h))
    obtain ⟨b, hb⟩ : ∃ b, s[0].toNat = b := ⟨_, rfl⟩
    rw [hb] at h72 hb256
    have t1 : ((b : Int) == 72) = false := by rw [beq_eq_false_iff_ne]; omega
    have t2 : ((b : Int) != 72) = true := by simp; omega
    clear hfb h72
    go_enter Tryd.func70, Tryd.ntmps70
    go_wp2_with fail
    go_ret3
    exact ⟨HO.out.symm, 0, rfl⟩
end Go.Proofs.YtjlpgjfgeikdeaaDoor
end
