/- law.same: two disks that stand alike tell the same. -/
import Derived.Test.YtjlpgjfgeikdeaaDF
set_option linter.unusedVariables false
set_option linter.unusedSimpArgs false
set_option linter.unnecessarySimpa false
namespace Go.Proofs.Ytjlpgjfgeikdeaa
open Go.RowKit Go.ChangeShapes Go.WideShapes Go.ChangeAt
set_option maxRecDepth 100000 in
set_option maxHeartbeats 1600000 in
theorem same_any (d r : Nat) (v : Nat → Value) (M : MD) (w : World) (hD : DiskAt w d v M) (hR : At w r 69 (cellsR M)) (hu : M.used ≤ 1048576) :
    Calls Try.prog 12 #[.agg #[.pointer (some ⟨d, 0, none⟩), .pointer (some ⟨r, 0, none⟩)]] w fun e w' => e = .returned (.bool true) ∧ Below w.heap.size w w' := by
  have HD1 := Lib.hid (hD.alloc (.cells #[.pointer (some ⟨d, 0, none⟩), .pointer (some ⟨r, 0, none⟩)] 31))
  have HR1 := Lib.hid (hR.alloc (.cells #[.pointer (some ⟨d, 0, none⟩), .pointer (some ⟨r, 0, none⟩)] 31))
  have HP1 := Lib.hid (At.new w 31 #[.pointer (some ⟨d, 0, none⟩), .pointer (some ⟨r, 0, none⟩)])
  have HB1 : Hid (Below w.heap.size w (w.alloc (.cells #[.pointer (some ⟨d, 0, none⟩), .pointer (some ⟨r, 0, none⟩)] 31))) := (Below.refl _ _).alloc (Nat.le_refl _) _
  clear hD hR
  go_enter Try.func12, Try.ntmps12
  go_upto_region 1 with fail
  generalize w.alloc (.cells #[.pointer (some ⟨d, 0, none⟩), .pointer (some ⟨r, 0, none⟩)] 31) = w1 at *
  obtain ⟨pb, hpb⟩ : ∃ pb, pb = w.heap.size := ⟨_, rfl⟩
  rw [← hpb] at HP1 ⊢
  clear hpb
  go_cut [29] (fun x wx => x = .bool false ∧ DiskAt wx d v M ∧ At wx r 69 (cellsR M) ∧ At wx pb 31 [.pointer (some ⟨d, 0, none⟩), .pointer (some ⟨r, 0, none⟩)] ∧ Below w.heap.size w wx)
  case first =>
    have p0 := HP1.out.cell 0
    have p1 := HP1.out.cell 1
    have HDd : Hid (DiskAt w1.drew d v M) := HD1.out.drewN 1
    have HRd : Hid (At w1.drew r 69 (cellsR M)) := HR1.out.drewN 1
    have HPd : Hid (At w1.drew pb 31 [.pointer (some ⟨d, 0, none⟩), .pointer (some ⟨r, 0, none⟩)]) := HP1.out.drewN 1
    go_region_with (first
      | (go_at_call 20; refine (used_any d v M _ ?_ hu).mono ?_; (first | exact HDd.out | exact HDd.out.drewN _); rintro e wb ⟨rfl, hb⟩; have HDb := Lib.hid (HDd.out.keep hb); have HRb := Lib.hid (HRd.out.keep hb); have HPb := Lib.hid (HPd.out.keep hb); have q0 := HPb.out.cell 0; have q1 := HPb.out.cell 1; have HB := Lib.hid hb; clear hb)
      | (go_at_call 27; refine (rused_any r M _ ?_ hu).mono ?_; (first | exact HRb.out | exact HRd.out | exact HRd.out.drewN _); rintro e wx ⟨rfl, m, rfl⟩)
      | (go_at_call 21; refine (room_any d M.room _ ?_).mono ?_; exact HDb.out.at_.cell 8; rintro e wx ⟨rfl, rfl⟩)
      | (go_at_call 28; refine (rroom_any r M.room _ ?_).mono ?_; exact HRb.out.cell 8; rintro e wx ⟨rfl, rfl⟩))
    all_goals
      go_wp2_with fail
      go_meet
      first
        | exact ⟨rfl, HDb.out, HRb.out, HPb.out, below_step HB1.out.drew HB.out⟩
        | exact ⟨rfl, HDb.out.drewN _, HRb.out.drewN _, HPb.out.drewN _, below_drewN (below_step HB1.out.drew HB.out) _⟩
        | exact ⟨rfl, HDb.out, HRb.out, HPb.out, below_step (below_drewN HB1.out.drew _) HB.out⟩
  case rest =>
    obtain ⟨rfl, hD2, hR2, hP2, hB2⟩ := hcut
    have HD2 := Lib.hid hD2
    have HR2 := Lib.hid hR2
    have HP2 := Lib.hid hP2
    have HB2 := Lib.hid hB2
    clear hD2 hR2 hP2 hB2 HD1 HR1 HP1 HB1
    go_wp2_with fail
    go_loopw [3] (fun i wx => ∃ j : Int, -1 ≤ j ∧ j ≤ 5 ∧ i = .int .i64 j ∧ DiskAt wx d v M ∧ At wx r 69 (cellsR M) ∧ At wx pb 31 [.pointer (some ⟨d, 0, none⟩), .pointer (some ⟨r, 0, none⟩)] ∧ Below w.heap.size w wx) (fun i _ => (5 - intOf i).toNat)
    case atStart => exact ⟨-1, by decide, by decide, rfl, HD2.out, HR2.out, HP2.out, HB2.out⟩
    case round =>
      obtain ⟨j, hj1, hj2, rfl, hD3, hR3, hP3, hB3⟩ := hrel
      have HD3 := Lib.hid hD3
      have HR3 := Lib.hid hR3
      have HP3 := Lib.hid hP3
      have HB3 := Lib.hid hB3
      have p0 : wr.cell? ⟨pb, 0, none⟩ = some (.pointer (some ⟨d, 0, none⟩)) := hP3.cell 0
      have p1 : wr.cell? ⟨pb, 1, none⟩ = some (.pointer (some ⟨r, 0, none⟩)) := hP3.cell 1
      clear hD3 hR3 hP3 hB3 HD2 HR2 HP2 HB2
      by_cases h4 : j ≤ 4
      · have sw : IntKind.i64.wrap (j + 1) = j + 1 := IntWalk.i64_in _ (by omega)
        by_cases hb : isB j = true
        · obtain ⟨n, hn, rfl⟩ := isB_nat hb
          clear hb
          go_wp2_with fail
          refine (read_any d v M n _ hn HD3.out).mono ?_
          rintro e w4 ⟨rfl, rfl⟩
          go_wp2_with fail
          refine (rread_any r M n _ hn HR3.out).mono ?_
          rintro e w5 ⟨rfl, rfl⟩
          go_wp2_with fail
          refine (size_any d v M n _ hn HD3.out).mono ?_
          rintro e w6 ⟨rfl, m, rfl⟩
          go_wp2_with fail
          refine (rsize_any r M n _ hn (HR3.out.drewN m)).mono ?_
          rintro e w7 ⟨rfl, m2, rfl⟩
          go_wp2_with fail
          clear p0 p1
          go_roundw
          case rel => exact ⟨(n : Int) + 1, by omega, by omega, by go_num, HD3.out.drewN _, HR3.out.drewN _, HP3.out.drewN _, below_drewN HB3.out _⟩
          case measure => simp [intOf]; omega
        · have HF : Hid (isB j = false) := by show _ = _; simpa using hb
          clear hb
          go_wp2_with fail
          refine (read_none d j _ HF.out).mono ?_
          rintro e w4 ⟨rfl, rfl⟩
          go_wp2_with fail
          refine (rread_none r j _ HF.out).mono ?_
          rintro e w5 ⟨rfl, rfl⟩
          go_wp2_with fail
          refine (size_none d j _ HF.out).mono ?_
          rintro e w6 ⟨rfl, rfl⟩
          go_wp2_with fail
          refine (rsize_none r j _ HF.out).mono ?_
          rintro e w7 ⟨rfl, rfl⟩
          go_wp2_with fail
          clear p0 p1
          go_roundw
          case rel => exact ⟨j + 1, by omega, by omega, by go_num, HD3.out, HR3.out, HP3.out, HB3.out⟩
          case measure => simp [intOf]; omega
      · go_wp2_with fail
        go_ret
        exact ⟨rfl, HB3.out⟩
end Go.Proofs.Ytjlpgjfgeikdeaa
