/- The law DiskRoom: the walk. -/
import Derived.Test.YtjlpgjfgeikdeaaDT
import Derived.Test.YtjlpgjfgeikdeaaInv
set_option linter.unusedVariables false
set_option linter.unusedSimpArgs false
set_option linter.unnecessarySimpa false
namespace Go.Proofs.Ytjlpgjfgeikdeaa
open Go.RowKit Go.ChangeShapes Go.WideShapes Go.ChangeAt
theorem app_room (M : MD) (n : Int) (s : ByteArray) : (appR M n s).1.room = M.room := by
  unfold appR
  split
  · split <;> rfl
  · rfl
theorem sync_room (M : MD) (n : Int) : (syncR M n).1.room = M.room := by
  unfold syncR
  split <;> rfl
theorem cut_room (M : MD) (n z : Int) : (cutR M n z).1.room = M.room := by
  unfold cutR
  split
  · split <;> rfl
  · rfl
theorem step_room (M : MD) (o : DOp) : (stepM M o).room = M.room := by
  unfold stepM
  split
  · exact app_room _ _ _
  split
  · exact sync_room _ _
  split
  · exact cut_room _ _ _
  split
  · exact crashTo_room _ _ _
  · rfl
theorem play_room (M : MD) (l : List DOp) : (playM M l).room = M.room := by
  induction l generalizing M with
  | nil => rfl
  | cons o l ih => exact (ih (stepM M o)).trans (step_room M o)
section
variable {w0 w : World} {F : List HP} {d : Nat} {v : Nat → Value} {M : MD}
theorem used_sat (hS : Sat w0 w (DiskV d v M :: F)) (hok : M.Ok) : Calls Try.prog 20 #[.pointer (some ⟨d, 0, none⟩)] w fun e w' => e = .returned (.int .i64 M.used) ∧ Sat w0 w' (DiskV d v M :: F) := by
  refine (used_any d v M w hS.disk (by obtain ⟨_, h2, h3, _⟩ := hok; omega)).mono ?_
  rintro e w' ⟨rfl, hb⟩
  exact ⟨rfl, hS.below hb⟩
theorem room_sat (hS : Sat w0 w (DiskV d v M :: F)) : Calls Try.prog 21 #[.pointer (some ⟨d, 0, none⟩)] w fun e w' => e = .returned (.int .i64 M.room) ∧ w' = w :=
  room_any d M.room w (hS.disk.at_.cell 8)
end
theorem size_used (M : MD) (f : Nat) (h : f < 4) : (M.f f).b.size ≤ M.used := by
  have : f = 0 ∨ f = 1 ∨ f = 2 ∨ f = 3 := by omega
  unfold MD.used
  rcases this with rfl | rfl | rfl | rfl <;> omega
theorem str_neq {a b : ByteArray} (h : a = b) : (a.toList == b.toList) = true := by subst h; exact str_yes a
set_option maxRecDepth 100000 in
set_option maxHeartbeats 800000 in
theorem diskRoom_walk (room : Int) (A : Option Addr) (n c : Nat) (l : List DOp) (act dk fl nm : Int) (s : ByteArray) (w : World) (w0 : (Lit.int .i64 room).wf = true) (w1 : OpsAt w A n c l) (_ : n * 48 ≤ 140737488351232)
    (w2 : wf64 fl ∧ wf64 nm ∧ s.size ≤ 9223372036854775807) :
    Calls Try.prog 6 #[.int .i64 room, .slice A n c, .agg #[.int .i64 act, .int .i64 dk, .int .i64 fl, .int .i64 nm, .string s]] w fun e w' => e = .returned (.bool true) ∧ Below w.heap.size w w' := by
  have HE1 := Lib.hid w1.1
  have HW1 := Lib.hid w1.2
  have HR : Hid (wf64 room) := i64_of w0
  have HFL := Lib.hid w2.1
  have HNM := Lib.hid w2.2.1
  have hs := w2.2.2
  have hpr := pickN_lt room 200 (by decide)
  have hpk := pickN_lt fl 4 (by decide)
  obtain ⟨f, hf⟩ : ∃ f, pickN fl 4 = f := ⟨_, rfl⟩
  rw [hf] at hpk
  have HF := Lib.hid hf
  obtain ⟨M0, hM0⟩ : ∃ M0, playM (begM (3 + (pickN room 200 : Nat))) l = M0 := ⟨_, rfl⟩
  have HM0 := Lib.hid hM0
  have HOK : Hid M0.Ok := by show _; rw [← hM0]; exact play_ok (beg_ok (by omega) (by omega)) l
  have HRM : Hid (M0.room ≤ 202) := by
    show _
    rw [← hM0, play_room]
    show (3 + (pickN room 200 : Nat) : Int) ≤ 202
    omega
  clear hf hM0 hpr w0 w1 w2
  have hS0 := (Sat.start w).new #[.int .i64 act, .int .i64 dk, .int .i64 fl, .int .i64 nm, .string s] 48
  go_enter Try.func6, Try.ntmps6
  go_wp2_with fail
  refine (plays_any room A n c l w _ _ hS0 (by simp) HR.out HE1.out HW1.out).mono ?_
  rintro e w1 ⟨g, v, rfl, hS⟩
  rw [HM0.out] at hS
  clear hS0
  obtain ⟨p, hp⟩ : ∃ p, w.heap.size = p := ⟨_, rfl⟩
  rw [hp] at hS ⊢
  have HP := Lib.hid hp
  clear hp
  have x2 := hS.r2.blk.cell 2
  have x3 := hS.r2.blk.cell 3
  have x4 := hS.r2.blk.cell 4
  go_wp2_with fail
  refine (pick_any fl 4 _ HFL.out (by decide) (by decide)).mono ?_
  rintro e w2 ⟨rfl, rfl⟩
  rw [HF.out]
  go_wp2_with fail
  refine (read_any g v M0 f _ hpk hS.disk).mono ?_
  rintro e w3 ⟨rfl, rfl⟩
  go_wp2_with fail
  refine (used_sat hS HOK.out).mono ?_
  rintro e w4 ⟨rfl, hS4⟩
  clear x2 x3 x4 hS
  have x2 := hS4.r2.blk.cell 2
  have x3 := hS4.r2.blk.cell 3
  have x4 := hS4.r2.blk.cell 4
  obtain ⟨b, hb⟩ : ∃ b, (M0.f f).b = b := ⟨_, rfl⟩
  have HB := Lib.hid hb
  have hsz := ok_size HOK.out f hpk
  have hok := HOK.out
  obtain ⟨hr1, hr2, hu, _⟩ := hok
  have hr3 := HRM.out
  have hap : appR M0 (f : Int) s = (if (s.size : Int) ≤ M0.room - M0.used then (M0.set f ⟨b ++ s, (M0.f f).safe⟩, 0) else (M0, 41)) := by
    unfold appR
    rw [if_pos (isB_of f hpk), Int.toNat_natCast, hb]
  have HAP := Lib.hid hap
  have HAO : Hid (appR M0 (f : Int) s).1.Ok := app_ok HOK.out _ _
  have HAR : Hid ((appR M0 (f : Int) s).1.room ≤ 202) := by show _; rw [app_room]; exact hr3
  have HUS := Lib.hid (used_set M0 f ⟨b ++ s, (M0.f f).safe⟩ hpk)
  have HRA := Lib.hid (fun m => room_sat (hS4.drewN m))
  obtain ⟨R, hR⟩ : ∃ R, M0.room = R := ⟨_, rfl⟩
  obtain ⟨U, hU⟩ : ∃ U, M0.used = U := ⟨_, rfl⟩
  have HU0 := Lib.hid hU
  have HR0 := Lib.hid hR
  rw [hR, hU] at HAP
  rw [hU] at HUS
  rw [hR] at HRA hr1 hr2 hr3 hu
  rw [hU] at hu
  rw [hU, hb]
  rw [hb] at hsz HUS
  clear hb hap hR hU
  have sw0 : IntKind.i64.wrap (R - (U : Int)) = R - (U : Int) := IntWalk.i64_in _ (by omega)
  have HMX : Hid ((M0.set f ⟨b ++ s, (M0.f f).safe⟩).used = U + s.size) := by
    show _ = _
    have := HUS.out
    simp only [ByteArray.size_append] at this
    omega
  have HFX : Hid ((M0.set f ⟨b ++ s, (M0.f f).safe⟩).f f = ⟨b ++ s, (M0.f f).safe⟩) := by show _ = _; simp [set_f]
  have t6 : decide ((U : Int) > R) = false := by simp; omega
  have t7 : decide (R < (U : Int)) = false := by simp; omega
  have t8 : decide ((U : Int) < 0) = false := by simp
  by_cases hf : (s.size : Int) ≤ R - U
  case' pos =>
    rw [if_pos hf] at HAP
    have t0 : decide ((s.size : Int) ≤ R - (U : Int)) = true := decide_eq_true hf
    have sw1 : IntKind.i64.wrap ((U : Int) + (s.size : Int)) = ((U + s.size : Nat) : Int) := by rw [IntWalk.i64_in _ (by omega)]; simp
    have HFIT := Lib.hid hf
    clear hf
    go_wp2_with fail
    go_quiet ((go_at_call 21; exact Calls.quiet_of_same (HRA.out _)))
    go_wp2_with fail
    refine (app_sat (hS4.drewN _) HOK.out f s hs).mono ?_
    rintro e w6 ⟨rfl, v6, hS6⟩
    rw [HAP.out] at hS6 ⊢
    clear HRA hS4 x2 x3 x4
    have HOK1 : Hid (M0.set f ⟨b ++ s, (M0.f f).safe⟩).Ok := by have := HAO.out; rw [HAP.out] at this; exact this
    have HR1 : Hid ((M0.set f ⟨b ++ s, (M0.f f).safe⟩).room = R) := HR0.out
    have hs2 : s.size ≤ 202 := by have := HFIT.out; omega
    have hs3 : ¬ 9223372036854775807 < b.size + s.size := by omega
    obtain ⟨M1, hM1⟩ : ∃ M1, M0.set f ⟨b ++ s, (M0.f f).safe⟩ = M1 := ⟨_, rfl⟩
    obtain ⟨sf, hsf⟩ : ∃ sf, (M0.f f).safe = sf := ⟨_, rfl⟩
    rw [hM1, hsf] at HFX
    rw [hM1] at hS6 HOK1 HMX HR1
    obtain ⟨t, ht⟩ : ∃ t, b ++ s = t := ⟨_, rfl⟩
    have t9 : (t.toList == (b ++ s).toList) = true := by rw [ht]; exact str_yes t
    rw [ht] at HFX
    obtain ⟨UU, hUU⟩ : ∃ UU, U + s.size = UU := ⟨_, rfl⟩
    rw [hUU] at HMX
    have t10 : ((UU : Int) != ((U + s.size : Nat) : Int)) = false := by rw [hUU]; simp
    have t11 : ((UU : Int) != ((U : Int) + (s.size : Int))) = false := by simp; omega
    have HUU := Lib.hid hUU
    clear hM1 hsf ht hUU
    have x2 := hS6.r2.blk.cell 2
    have x3 := hS6.r2.blk.cell 3
    have x4 : w6.cell? ⟨p, 4, none⟩ = some (.string s) := hS6.r2.blk.cell 4
    go_wp2_with fail
    have hIn := Lib.hid hS6
    have f4 : ∀ x : In w [DiskV g v6 M1, Blk p 48 [.int .i64 act, .int .i64 dk, .int .i64 fl, .int .i64 nm, .string s], Old w], x.w.cell? ⟨p, 4, none⟩ = some (.string s) := fun x => x.ok.r2.blk.cell 4
    have c21 : Hid (∀ x : In w [DiskV g v6 M1, Blk p 48 [.int .i64 act, .int .i64 dk, .int .i64 fl, .int .i64 nm, .string s], Old w], Calls Try.prog 21 #[.pointer (some ⟨g, 0, none⟩)] x.w fun e w' => e = .returned (.int .i64 R) ∧ ∃ y : In w [DiskV g v6 M1, Blk p 48 [.int .i64 act, .int .i64 dk, .int .i64 fl, .int .i64 nm, .string s], Old w], w' = y.w) := by
      show ∀ x, _
      intro x
      have h := room_sat x.ok
      rw [HR1.out] at h
      exact Calls.in_same h
    have c20 : Hid (∀ x : In w [DiskV g v6 M1, Blk p 48 [.int .i64 act, .int .i64 dk, .int .i64 fl, .int .i64 nm, .string s], Old w], Calls Try.prog 20 #[.pointer (some ⟨g, 0, none⟩)] x.w fun e w' => e = .returned (.int .i64 UU) ∧ ∃ y : In w [DiskV g v6 M1, Blk p 48 [.int .i64 act, .int .i64 dk, .int .i64 fl, .int .i64 nm, .string s], Old w], w' = y.w) := by
      show ∀ x, _
      intro x
      have h := used_sat x.ok HOK1.out
      rw [HMX.out] at h
      exact Calls.in_ h
    clear x2 x3 x4
    haveI hne : Nonempty (In w [DiskV g v6 M1, Blk p 48 [.int .i64 act, .int .i64 dk, .int .i64 fl, .int .i64 nm, .string s], Old w]) := ⟨⟨_, hIn.out⟩⟩
    refine wp_region_in hIn.out (by kernel_rfl) (by kernel_rfl) ?_
    repeat go_big_quiet_step ((first | (go_at_call 21; exact c21.out _) | (go_at_call 20; exact c20.out _)))
    refine wpQuiet_nil ?_
    intro _ hw'
    obtain ⟨⟨w7, hS7⟩, rfl⟩ := hw'
    clear f4 hIn hne c20 c21
    have x3 := hS7.r2.blk.cell 3
    have x4 := hS7.r2.blk.cell 4
    go_wp2_with fail
    refine (read_any g v6 M1 f _ hpk hS7.disk).mono ?_
    rintro e w8 ⟨rfl, rfl⟩
    rw [HFX.out]
    have htz : t.size ≤ UU := by have := size_used M1 f hpk; rw [HFX.out, HMX.out] at this; exact this
    have huu : (UU : Int) ≤ R := by have := HOK1.out.2.2.1; rw [HMX.out, HR1.out] at this; exact this
    go_wp2_with fail
  case' neg =>
    rw [if_neg hf] at HAP
    have t0 : decide ((s.size : Int) ≤ R - (U : Int)) = false := decide_eq_false hf
    clear hf
    go_wp2_with fail
    go_quiet ((go_at_call 21; exact Calls.quiet_of_same (HRA.out _)))
    go_wp2_with fail
    refine (app_sat (hS4.drewN _) HOK.out f s hs).mono ?_
    rintro e w6 ⟨rfl, v6, hS6⟩
    rw [HAP.out] at hS6 ⊢
    clear HRA hS4 x2 x3 x4 HMX
    have HOK1 : Hid M0.Ok := HOK
    have HR1 : Hid (M0.room = R) := HR0.out
    have HFX : Hid (M0.f f = ⟨b, (M0.f f).safe⟩) := by show _ = _; rw [← HB.out]
    have HMX : Hid (M0.used = U) := HU0
    obtain ⟨M1, hM1⟩ : ∃ M1, M0 = M1 := ⟨_, rfl⟩
    obtain ⟨sf, hsf⟩ : ∃ sf, (M0.f f).safe = sf := ⟨_, rfl⟩
    rw [hsf, hM1] at HFX
    rw [hM1] at hS6 HOK1 HMX HR1
    obtain ⟨t, ht⟩ : ∃ t, b = t := ⟨_, rfl⟩
    have t9 : (t.toList == b.toList) = true := by rw [ht]; exact str_yes t
    rw [ht] at HFX
    obtain ⟨UU, hUU⟩ : ∃ UU, U = UU := ⟨_, rfl⟩
    rw [hUU] at HMX
    have t10 : ((UU : Int) != (U : Int)) = false := by rw [hUU]; simp
    have HUU := Lib.hid hUU
    clear hM1 hsf ht hUU
    have x2 := hS6.r2.blk.cell 2
    have x3 := hS6.r2.blk.cell 3
    have x4 := hS6.r2.blk.cell 4
    go_wp2_with fail
    have hIn := Lib.hid hS6
    have f4 : ∀ x : In w [DiskV g v6 M1, Blk p 48 [.int .i64 act, .int .i64 dk, .int .i64 fl, .int .i64 nm, .string s], Old w], x.w.cell? ⟨p, 4, none⟩ = some (.string s) := fun x => x.ok.r2.blk.cell 4
    have c21 : Hid (∀ x : In w [DiskV g v6 M1, Blk p 48 [.int .i64 act, .int .i64 dk, .int .i64 fl, .int .i64 nm, .string s], Old w], Calls Try.prog 21 #[.pointer (some ⟨g, 0, none⟩)] x.w fun e w' => e = .returned (.int .i64 R) ∧ ∃ y : In w [DiskV g v6 M1, Blk p 48 [.int .i64 act, .int .i64 dk, .int .i64 fl, .int .i64 nm, .string s], Old w], w' = y.w) := by
      show ∀ x, _
      intro x
      have h := room_sat x.ok
      rw [HR1.out] at h
      exact Calls.in_same h
    have c20 : Hid (∀ x : In w [DiskV g v6 M1, Blk p 48 [.int .i64 act, .int .i64 dk, .int .i64 fl, .int .i64 nm, .string s], Old w], Calls Try.prog 20 #[.pointer (some ⟨g, 0, none⟩)] x.w fun e w' => e = .returned (.int .i64 UU) ∧ ∃ y : In w [DiskV g v6 M1, Blk p 48 [.int .i64 act, .int .i64 dk, .int .i64 fl, .int .i64 nm, .string s], Old w], w' = y.w) := by
      show ∀ x, _
      intro x
      have h := used_sat x.ok HOK1.out
      rw [HMX.out] at h
      exact Calls.in_ h
    clear x2 x3 x4
    haveI hne : Nonempty (In w [DiskV g v6 M1, Blk p 48 [.int .i64 act, .int .i64 dk, .int .i64 fl, .int .i64 nm, .string s], Old w]) := ⟨⟨_, hIn.out⟩⟩
    refine wp_region_in hIn.out (by kernel_rfl) (by kernel_rfl) ?_
    repeat go_big_quiet_step ((first | (go_at_call 21; exact c21.out _) | (go_at_call 20; exact c20.out _)))
    refine wpQuiet_nil ?_
    intro _ hw'
    obtain ⟨⟨w7, hS7⟩, rfl⟩ := hw'
    clear f4 hIn hne c20 c21
    have x3 := hS7.r2.blk.cell 3
    have x4 := hS7.r2.blk.cell 4
    go_wp2_with fail
    refine (read_any g v6 M1 f _ hpk hS7.disk).mono ?_
    rintro e w8 ⟨rfl, rfl⟩
    rw [HFX.out]
    have htz : t.size ≤ UU := by have := size_used M1 f hpk; rw [HFX.out, HMX.out] at this; exact this
    have huu : (UU : Int) ≤ R := by have := HOK1.out.2.2.1; rw [HMX.out, HR1.out] at this; exact this
    go_wp2_with fail
  all_goals
    have q1 : ((t.size : Int) + 1) = ((t.size + 1 : Nat) : Int) := by omega
    rw [q1]
    refine (pick_any nm (t.size + 1) _ HNM.out (by omega) (by omega)).mono ?_
    rintro e w9 ⟨rfl, rfl⟩
    have hn1 := pickN_lt nm (t.size + 1) (by omega)
    obtain ⟨m, hm⟩ : ∃ m, pickN nm (t.size + 1) = m := ⟨_, rfl⟩
    rw [hm] at hn1 ⊢
    have hn2 : m ≤ t.size := by omega
    clear hn1 hm q1
    go_wp2_with fail
    refine (used_sat hS7 HOK1.out).mono ?_
    rintro e w10 ⟨rfl, hS10⟩
    rw [HMX.out]
    have HCU : Hid (cutR M1 (f : Int) (m : Int) = (M1.set f ⟨t.extract 0 m, min sf m⟩, 0)) := by
      show _ = _
      unfold cutR
      rw [if_pos (isB_of f hpk), Int.toNat_natCast, HFX.out]
      rw [if_pos ⟨by omega, by simp only; omega⟩, Int.toNat_natCast]
    have HOK2 : Hid (M1.set f ⟨t.extract 0 m, min sf m⟩).Ok := by
      have := cut_ok HOK1.out (f : Int) (m : Int)
      rw [HCU.out] at this
      exact this
    have HF2 : Hid (((M1.set f ⟨t.extract 0 m, min sf m⟩).f f).b = t.extract 0 m) := by show _ = _; simp [set_f]
    have HU2 : Hid ((M1.set f ⟨t.extract 0 m, min sf m⟩).used + t.size = UU + m) := by
      show _ = _
      have := used_set M1 f ⟨t.extract 0 m, min sf m⟩ hpk
      rw [HFX.out, HMX.out] at this
      simp only [ByteArray.size_extract] at this
      omega
    clear x3 x4 hS7
    go_wp2_with fail
    refine (cut_sat hS10 HOK1.out f m).mono ?_
    rintro e w11 ⟨rfl, v11, hS11⟩
    rw [HCU.out] at hS11 ⊢
    obtain ⟨M2, hM2⟩ : ∃ M2, M1.set f ⟨t.extract 0 m, min sf m⟩ = M2 := ⟨_, rfl⟩
    rw [hM2] at hS11 HOK2 HF2 HU2
    clear hM2 hS10
    go_wp2_with fail
    refine (read_any g v11 M2 f _ hpk hS11.disk).mono ?_
    rintro e w12 ⟨rfl, rfl⟩
    rw [HF2.out]
    go_wp2_with fail
    refine (used_sat hS11 HOK2.out).mono ?_
    rintro e w13 ⟨rfl, hS13⟩
    have t12 : ((M2.used : Int) == (UU : Int) - (t.size : Int) + (m : Int)) = true := by have := HU2.out; simp; omega
    have t13 : ((t.extract 0 m).toList == (t.extract 0 m).toList) = true := str_yes _
    go_wp2_with fail
    go_ret
    exact ⟨rfl, hS13.old (by simp)⟩
end Go.Proofs.Ytjlpgjfgeikdeaa
