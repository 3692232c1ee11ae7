/- Append where there is no room, or no file; and the document's Read, Size, Append, Sync. -/
import Derived.Test.YtjlpgjfgeikdeaaDD
set_option linter.unusedVariables false
set_option linter.unusedSimpArgs false
set_option linter.unnecessarySimpa false
namespace Go.Proofs.Ytjlpgjfgeikdeaa
open Go.RowKit Go.ChangeShapes Go.WideShapes Go.ChangeAt
set_option maxRecDepth 100000 in
theorem append_full (d : Nat) (v : Nat → Value) (M : MD) (n : Nat) (s : ByteArray) (w : World) (hn : n < 4) (hD : DiskAt w d v M) (hok : M.Ok) (hs : s.size ≤ 9223372036854775807) (hfit : ¬ (s.size : Int) ≤ M.room - M.used) :
    Calls Try.prog 19 #[.pointer (some ⟨d, 0, none⟩), .int .i64 n, .string s] w fun e w' => e = .returned (.int .i64 41) ∧ Works d v M w w' := by
  obtain ⟨hr1, hr2, hr3, _⟩ := hok
  have HD := Lib.hid hD
  have hu : M.used ≤ 1048576 := by omega
  have m8 : w.cell? ⟨d, 8, none⟩ = some (.int .i64 M.room) := hD.at_.cell 8
  have t : decide (M.room - (M.used : Int) < (s.size : Int)) = true := decide_eq_true (by omega)
  have sw : IntKind.i64.wrap (M.room - (M.used : Int)) = M.room - M.used := IntWalk.i64_in _ (by omega)
  clear hD
  go_enter Try.func19, Try.ntmps19
  go_wp2_with fail
  refine (of_any d n _ hn).mono ?_
  rintro e w1 ⟨rfl, rfl⟩
  go_wp2_with fail
  go_cut [22] (fun x wx => x = .bool true ∧ DiskAt wx d v M ∧ Below w1.heap.size w1 wx)
  case first =>
    have HDd : Hid (DiskAt w1.drew d v M) := HD.out.drewN 1
    go_region_with (go_at_call 20; refine (used_any d v M w1.drew HDd.out hu).mono ?_; rintro e wb ⟨rfl, hb⟩; have m8b : wb.cell? ⟨d, 8, none⟩ = some (.int .i64 M.room) := (HDd.out.keep hb).at_.cell 8; have HB := Lib.hid hb; clear hb)
    all_goals
      go_wp2_with fail
      go_meet
      exact ⟨rfl, (HDd.out.keep HB.out), below_undrew HB.out⟩
  case rest =>
    obtain ⟨rfl, hD2, hB2⟩ := hcut
    have HD2 := Lib.hid hD2
    have HB2 := Lib.hid hB2
    clear hD2 hB2 m8 t sw
    go_wp2_with fail
    go_ret
    exact ⟨rfl, .of HD2.out (.of_below HB2.out)⟩
theorem append_none (d : Nat) (n : Int) (s : ByteArray) (w : World) (hn : isB n = false) :
    Calls Try.prog 19 #[.pointer (some ⟨d, 0, none⟩), .int .i64 n, .string s] w fun e w' => e = .returned (.int .i64 40) ∧ w' = w := by
  go_enter Try.func19, Try.ntmps19
  go_wp2_with fail
  refine (of_none d n _ hn).mono ?_
  rintro e w1 ⟨rfl, rfl⟩
  go_wp2_with fail
  go_ret
  exact ⟨rfl, rfl⟩
theorem isB_of (n : Nat) (h : n < 4) : isB (n : Int) = true := by simp [isB]; omega
theorem rread_any (r : Nat) (M : MD) (n : Nat) (w : World) (hn : n < 4) (hR : At w r 69 (cellsR M)) :
    Calls Try.prog 29 #[.pointer (some ⟨r, 0, none⟩), .int .i64 n] w fun e w' => e = .returned (.tuple #[.string (M.f n).b, .int .i64 0]) ∧ w' = w := by
  have m0 := hR.cell (n * 2)
  rw [cellsR_row M n hn] at m0
  have HI := Lib.hid (isB_of n hn)
  clear hR
  go_enter Try.func29, Try.ntmps29
  go_wp2_with fail
  refine (is_any n _).mono ?_
  rintro e w1 ⟨rfl, rfl⟩
  rw [HI.out]
  go_wp2_with fail
  go_ret2
  exact ⟨rfl, rfl⟩
theorem rread_none (r : Nat) (n : Int) (w : World) (hn : isB n = false) :
    Calls Try.prog 29 #[.pointer (some ⟨r, 0, none⟩), .int .i64 n] w fun e w' => e = .returned (.tuple #[.string ⟨#[]⟩, .int .i64 40]) ∧ w' = w := by
  have HI := Lib.hid hn
  clear hn
  go_enter Try.func29, Try.ntmps29
  go_wp2_with fail
  refine (is_any n _).mono ?_
  rintro e w1 ⟨rfl, rfl⟩
  rw [HI.out]
  go_wp2_with fail
  go_ret2
  exact ⟨rfl, rfl⟩
theorem rsize_any (r : Nat) (M : MD) (n : Nat) (w : World) (hn : n < 4) (hR : At w r 69 (cellsR M)) :
    Calls Try.prog 30 #[.pointer (some ⟨r, 0, none⟩), .int .i64 n] w fun e w' => e = .returned (.tuple #[.int .i64 (M.f n).b.size, .int .i64 (M.f n).safe, .int .i64 0]) ∧ ∃ m, w' = w.drewN m := by
  have m0 := hR.cell (n * 2)
  have m1 := hR.cell (n * 2 + 1)
  rw [cellsR_row M n hn] at m0
  rw [cellsR_safe M n hn] at m1
  have HI := Lib.hid (isB_of n hn)
  clear hR
  go_enter Try.func30, Try.ntmps30
  go_wp2_with fail
  refine (is_any n _).mono ?_
  rintro e w1 ⟨rfl, rfl⟩
  rw [HI.out]
  go_wp2_with fail
  go_quiet (fail)
  go_wp2
  go_ret3
  exact ⟨rfl, _, rfl⟩
theorem rsize_none (r : Nat) (n : Int) (w : World) (hn : isB n = false) :
    Calls Try.prog 30 #[.pointer (some ⟨r, 0, none⟩), .int .i64 n] w fun e w' => e = .returned (.tuple #[.int .i64 0, .int .i64 0, .int .i64 40]) ∧ w' = w := by
  have HI := Lib.hid hn
  clear hn
  go_enter Try.func30, Try.ntmps30
  go_wp2_with fail
  refine (is_any n _).mono ?_
  rintro e w1 ⟨rfl, rfl⟩
  rw [HI.out]
  go_wp2_with fail
  go_ret3
  exact ⟨rfl, rfl⟩
theorem cellsR_set_safe (M : MD) (n : Nat) (h : n < 4) (s : Nat) : (cellsR M).set (n * 2 + 1) (.int .i64 s) = cellsR (M.set n ⟨(M.f n).b, s⟩) := by
  have : n = 0 ∨ n = 1 ∨ n = 2 ∨ n = 3 := by omega
  rcases this with rfl | rfl | rfl | rfl <;> simp [cellsR, MD.set]
theorem cellsR_set_row (M : MD) (n : Nat) (h : n < 4) (b : ByteArray) : (cellsR M).set (n * 2) (.string b) = cellsR (M.set n ⟨b, (M.f n).safe⟩) := by
  have : n = 0 ∨ n = 1 ∨ n = 2 ∨ n = 3 := by omega
  rcases this with rfl | rfl | rfl | rfl <;> simp [cellsR, MD.set]
theorem rsync_any (r : Nat) (M : MD) (n : Nat) (w : World) (hn : n < 4) (hR : At w r 69 (cellsR M)) :
    Calls Try.prog 34 #[.pointer (some ⟨r, 0, none⟩), .int .i64 n] w fun e w' => e = .returned (.int .i64 0) ∧ At w' r 69 (cellsR (M.set n ⟨(M.f n).b, (M.f n).b.size⟩)) ∧ Chg r w w' := by
  have m0 := hR.cell (n * 2)
  have m1 := hR.cell (n * 2 + 1)
  have f1 := hR.free (n * 2 + 1)
  rw [cellsR_row M n hn] at m0
  rw [cellsR_safe M n hn] at m1
  have HI := Lib.hid (isB_of n hn)
  have HS := Lib.hid (cellsR_set_safe M n hn (M.f n).b.size ▸ hR.set (n * 2 + 1) (.int .i64 (M.f n).b.size))
  clear hR
  go_enter Try.func34, Try.ntmps34
  go_wp2_with fail
  refine (is_any n _).mono ?_
  rintro e w1 ⟨rfl, rfl⟩
  rw [HI.out]
  go_wp2_with fail
  go_region
  all_goals
    go_wp2
    go_ret
    exact ⟨rfl, HS.out.drewN 1, ((Chg.refl _ _).set _ _).drew⟩
theorem rsync_none (r : Nat) (n : Int) (w : World) (hn : isB n = false) :
    Calls Try.prog 34 #[.pointer (some ⟨r, 0, none⟩), .int .i64 n] w fun e w' => e = .returned (.int .i64 40) ∧ w' = w := by
  have HI := Lib.hid hn
  clear hn
  go_enter Try.func34, Try.ntmps34
  go_wp2_with fail
  refine (is_any n _).mono ?_
  rintro e w1 ⟨rfl, rfl⟩
  rw [HI.out]
  go_wp2_with fail
  go_ret
  exact ⟨rfl, rfl⟩
theorem fits_size {M : MD} {n : Nat} {s : ByteArray} (hn : n < 4) (hu : M.used ≤ 1048576) (hfit : (s.size : Int) ≤ M.room - M.used) (hr : M.room ≤ 1048576) : (M.f n).b.size + s.size ≤ 1048576 := by
  have : (M.f n).b.size ≤ M.used := by
    have : n = 0 ∨ n = 1 ∨ n = 2 ∨ n = 3 := by omega
    unfold MD.used
    rcases this with rfl | rfl | rfl | rfl <;> omega
  omega
set_option maxRecDepth 100000 in
theorem rappend_fits (r : Nat) (M : MD) (n : Nat) (s : ByteArray) (w : World) (hn : n < 4) (hR : At w r 69 (cellsR M)) (hok : M.Ok) (hs : s.size ≤ 9223372036854775807) (hfit : (s.size : Int) ≤ M.room - M.used) :
    Calls Try.prog 33 #[.pointer (some ⟨r, 0, none⟩), .int .i64 n, .string s] w fun e w' => e = .returned (.int .i64 0) ∧ At w' r 69 (cellsR (M.set n ⟨(M.f n).b ++ s, (M.f n).safe⟩)) ∧ Chg r w w' := by
  obtain ⟨hr1, hr2, hr3, _⟩ := hok
  have HR := Lib.hid hR
  have hu : M.used ≤ 1048576 := by omega
  have hbu := fits_size hn hu hfit hr2
  have m8 : w.cell? ⟨r, 8, none⟩ = some (.int .i64 M.room) := hR.cell 8
  have m0 := hR.cell (n * 2)
  have f0 := hR.free (n * 2)
  rw [cellsR_row M n hn] at m0
  have t : decide (M.room - (M.used : Int) < (s.size : Int)) = false := decide_eq_false (by omega)
  have sw : IntKind.i64.wrap (M.room - (M.used : Int)) = M.room - M.used := IntWalk.i64_in _ (by omega)
  have HI := Lib.hid (isB_of n hn)
  have HS := Lib.hid (cellsR_set_row M n hn ((M.f n).b ++ s) ▸ hR.set (n * 2) (.string ((M.f n).b ++ s)))
  clear hR
  go_enter Try.func33, Try.ntmps33
  go_wp2_with fail
  refine (is_any n _).mono ?_
  rintro e w1 ⟨rfl, rfl⟩
  rw [HI.out]
  go_wp2_with fail
  go_quiet ((go_at_call 27; exact Calls.quiet_of (rused_any r M _ (HR.out.drewN _) hu)))
  go_wp2_with fail
  go_region
  all_goals
    go_wp2
    go_ret
    exact ⟨rfl, HS.out.drewN 1, ((Chg.refl _ _).drewN _).set _ _⟩
end Go.Proofs.Ytjlpgjfgeikdeaa
