/- The document's disk: cut off, crashed, copied. -/
import Derived.Test.YtjlpgjfgeikdeaaDV
import Derived.Deep.CutBlock
set_option linter.unusedVariables false
set_option linter.unusedSimpArgs false
set_option linter.unnecessarySimpa false
namespace Go.Proofs.Ytjlpgjfgeikdeaa
open Go.RowKit Go.ChangeShapes Go.WideShapes Go.ChangeAt
set_option maxRecDepth 100000 in
theorem rappend_full (r : Nat) (M : MD) (n : Nat) (s : ByteArray) (w : World) (hn : n < 4) (hR : At w r 69 (cellsR M)) (hok : M.Ok) (hs : s.size ≤ 9223372036854775807) (hfit : ¬ (s.size : Int) ≤ M.room - M.used) :
    Calls Try.prog 33 #[.pointer (some ⟨r, 0, none⟩), .int .i64 n, .string s] w fun e w' => e = .returned (.int .i64 41) ∧ ∃ m, w' = w.drewN m := by
  obtain ⟨hr1, hr2, hr3, _⟩ := hok
  have HR := Lib.hid hR
  have hu : M.used ≤ 1048576 := by omega
  have m8 : w.cell? ⟨r, 8, none⟩ = some (.int .i64 M.room) := hR.cell 8
  have t : decide (M.room - (M.used : Int) < (s.size : Int)) = true := decide_eq_true (by omega)
  have sw : IntKind.i64.wrap (M.room - (M.used : Int)) = M.room - M.used := IntWalk.i64_in _ (by omega)
  have HI := Lib.hid (isB_of n hn)
  clear hR
  go_enter Try.func33, Try.ntmps33
  go_wp2_with fail
  refine (is_any n _).mono ?_
  rintro e w1 ⟨rfl, rfl⟩
  rw [HI.out]
  go_wp2_with fail
  go_quiet ((go_at_call 27; exact Calls.quiet_of (rused_any r M _ (HR.out.drewN _) hu)))
  go_wp2_with fail
  go_ret
  exact ⟨rfl, _, rfl⟩
theorem rappend_none (r : Nat) (n : Int) (s : ByteArray) (w : World) (hn : isB n = false) :
    Calls Try.prog 33 #[.pointer (some ⟨r, 0, none⟩), .int .i64 n, .string s] w fun e w' => e = .returned (.int .i64 40) ∧ w' = w := by
  have HI := Lib.hid hn
  clear hn
  go_enter Try.func33, Try.ntmps33
  go_wp2_with fail
  refine (is_any n _).mono ?_
  rintro e w1 ⟨rfl, rfl⟩
  rw [HI.out]
  go_wp2_with fail
  go_ret
  exact ⟨rfl, rfl⟩
theorem rcut_none (r : Nat) (n z : Int) (w : World) (hn : isB n = false) :
    Calls Try.prog 35 #[.pointer (some ⟨r, 0, none⟩), .int .i64 n, .int .i64 z] w fun e w' => e = .returned (.int .i64 40) ∧ w' = w := by
  have HI := Lib.hid hn
  clear hn
  go_enter Try.func35, Try.ntmps35
  go_wp2_with fail
  refine (is_any n _).mono ?_
  rintro e w1 ⟨rfl, rfl⟩
  rw [HI.out]
  go_wp2_with fail
  go_ret
  exact ⟨rfl, rfl⟩
theorem rcut_bad (r : Nat) (M : MD) (n : Nat) (z : Int) (w : World) (hn : n < 4) (hR : At w r 69 (cellsR M)) (hz : ¬ (0 ≤ z ∧ z ≤ (M.f n).b.size)) :
    Calls Try.prog 35 #[.pointer (some ⟨r, 0, none⟩), .int .i64 n, .int .i64 z] w fun e w' => e = .returned (.int .i64 1) ∧ w' = w := by
  have m0 := hR.cell (n * 2)
  rw [cellsR_row M n hn] at m0
  have HI := Lib.hid (isB_of n hn)
  clear hR
  obtain ⟨b, hb⟩ : ∃ b, (M.f n).b = b := ⟨_, rfl⟩
  rw [hb] at hz m0
  clear hb
  by_cases h0 : z < 0
  · have t0 : decide (z < 0) = true := decide_eq_true h0
    clear h0
    go_enter Try.func35, Try.ntmps35
    go_wp2_with fail
    refine (is_any n _).mono ?_
    rintro e w1 ⟨rfl, rfl⟩
    rw [HI.out]
    go_wp2_with fail
    go_ret
    exact ⟨rfl, rfl⟩
  · have t0 : decide (z < 0) = false := decide_eq_false h0
    have t1 : decide ((b.size : Int) < z) = true := decide_eq_true (by omega)
    have t2 : decide (z > (b.size : Int)) = true := decide_eq_true (by omega)
    clear h0 hz
    go_enter Try.func35, Try.ntmps35
    go_wp2_with fail
    refine (is_any n _).mono ?_
    rintro e w1 ⟨rfl, rfl⟩
    rw [HI.out]
    go_wp2_with fail
    go_ret
    exact ⟨rfl, rfl⟩
set_option maxRecDepth 100000 in
set_option maxHeartbeats 800000 in
theorem rcut_ok (r : Nat) (M : MD) (n y : Nat) (w : World) (hn : n < 4) (hR : At w r 69 (cellsR M)) (hm : y ≤ (M.f n).b.size) (hs : (M.f n).b.size ≤ 1048576) (hsf : (M.f n).safe ≤ (M.f n).b.size) :
    Calls Try.prog 35 #[.pointer (some ⟨r, 0, none⟩), .int .i64 n, .int .i64 y] w fun e w' => e = .returned (.int .i64 0) ∧ At w' r 69 (cellsR (M.set n ⟨(M.f n).b.extract 0 y, min (M.f n).safe y⟩)) ∧ Chg r w w' := by
  have m0 := hR.cell (n * 2)
  have m1 := hR.cell (n * 2 + 1)
  have f0 := hR.free (n * 2)
  have f1 := hR.free (n * 2 + 1)
  rw [cellsR_row M n hn] at m0
  rw [cellsR_safe M n hn] at m1
  have HI := Lib.hid (isB_of n hn)
  have HS := Lib.hid (cellsR_set_row M n hn ((M.f n).b.extract 0 y) ▸ hR.set (n * 2) (.string ((M.f n).b.extract 0 y)))
  have HS2 := Lib.hid (cellsR_set_safe (M.set n ⟨(M.f n).b.extract 0 y, (M.f n).safe⟩) n hn (min (M.f n).safe y) ▸ HS.out.set (n * 2 + 1) (.int .i64 (min (M.f n).safe y : Nat)))
  have HMM : Hid ((M.set n ⟨(M.f n).b.extract 0 y, (M.f n).safe⟩).set n ⟨((M.set n ⟨(M.f n).b.extract 0 y, (M.f n).safe⟩).f n).b, min (M.f n).safe y⟩ = M.set n ⟨(M.f n).b.extract 0 y, min (M.f n).safe y⟩) := by
    show _ = _
    rw [set_set]
    simp [MD.set]
  rw [HMM.out] at HS2
  have k1 := (HS.out.cell (n * 2 + 1))
  rw [cellsR_safe _ n hn] at k1
  simp only [set_f, if_true] at k1
  have k2 := (HS.out.free (n * 2 + 1))
  clear hR
  have HP : Hid (∀ w', At w' r 69 (cellsR (M.set n ⟨(M.f n).b.extract 0 y, min (M.f n).safe y⟩)) → At w' r 69 (cellsR (M.set n ⟨(M.f n).b.extract 0 y, min (M.f n).safe y⟩))) := fun _ h => h
  obtain ⟨X, hX⟩ : ∃ X, M.set n ⟨(M.f n).b.extract 0 y, min (M.f n).safe y⟩ = X := ⟨_, rfl⟩
  rw [hX] at HS2 ⊢
  clear hX HP HMM HS
  obtain ⟨⟨b, sf⟩, hb⟩ : ∃ b, M.f n = b := ⟨_, rfl⟩
  rw [hb] at m0 m1 k1 k2 HS2 hm hs hsf
  simp only at m0 m1 k1 k2 HS2 hm hs hsf
  clear hb
  have t0 : decide ((y : Int) < 0) = false := by simp
  have t1 : decide (b.size < y) = false := by simp; omega
  have t2 : decide (y > b.size) = false := by simp; omega
  by_cases h : y < sf
  · rw [Nat.min_eq_right (by omega)] at HS2
    go_enter Try.func35, Try.ntmps35
    go_wp2_with fail
    refine (is_any n _).mono ?_
    rintro e w1 ⟨rfl, rfl⟩
    rw [HI.out]
    go_wp2_with fail
    go_region
    all_goals
      go_wp2_with fail
      go_region
      all_goals
        go_wp2_with fail
        go_ret
        exact ⟨rfl, HS2.out.drewN 2, (((Chg.refl _ _).set _ _).drew.set _ _).drew⟩
  · rw [Nat.min_eq_left (by omega)] at HS2
    go_enter Try.func35, Try.ntmps35
    go_wp2_with fail
    refine (is_any n _).mono ?_
    rintro e w1 ⟨rfl, rfl⟩
    rw [HI.out]
    go_wp2_with fail
    go_region
    all_goals
      go_wp2_with fail
      go_region
      all_goals
        go_wp2_with fail
        go_ret
        exact ⟨rfl, HS2.out.drewN 2, (((Chg.refl _ _).set _ _).drew.set _ _).drew⟩
theorem rcopy_any {w0 w : World} {L : List HP} (r : Nat) (M : MD) (hS : Sat w0 w (Blk r 69 (cellsR M) :: L)) :
    Calls Try.prog 24 #[.pointer (some ⟨r, 0, none⟩)] w fun e w' => ∃ g, e = .returned (.pointer (some ⟨g, 0, none⟩)) ∧ Sat w0 w' (Blk g 69 (cellsR M) :: Blk r 69 (cellsR M) :: L) := by
  have hS2 := hS.new (cellsR M).toArray 69
  have m0 := hS.blk.cell 0
  have m1 := hS.blk.cell 1
  have m2 := hS.blk.cell 2
  have m3 := hS.blk.cell 3
  have m4 := hS.blk.cell 4
  have m5 := hS.blk.cell 5
  have m6 := hS.blk.cell 6
  have m7 := hS.blk.cell 7
  have m8 := hS.blk.cell 8
  simp only [cellsR] at m0 m1 m2 m3 m4 m5 m6 m7 m8
  go_enter Try.func24, Try.ntmps24
  go_wp2_with fail
  go_ret
  exact ⟨_, rfl, hS2⟩
end Go.Proofs.Ytjlpgjfgeikdeaa
