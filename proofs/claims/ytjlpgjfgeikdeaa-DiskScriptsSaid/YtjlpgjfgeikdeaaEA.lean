/- The calls on both disks. -/
import Derived.Test.YtjlpgjfgeikdeaaDY
import Derived.Test.YtjlpgjfgeikdeaaDG
import Derived.Deep.RegionHeld3
set_option linter.unusedVariables false
set_option linter.unusedSimpArgs false
set_option linter.unnecessarySimpa false
namespace Go.Proofs.Ytjlpgjfgeikdeaa
open Go.RowKit Go.ChangeShapes Go.WideShapes Go.ChangeAt
def readV (M : MD) (n : Int) : ByteArray × Int := if isB n = true then ((M.f n.toNat).b, 0) else (⟨#[]⟩, 40)
def sizeV (M : MD) (n : Int) : Int × Int × Int := if isB n = true then ((M.f n.toNat).b.size, (M.f n.toNat).safe, 0) else (0, 0, 40)
section
variable {w0 w : World} {F : List HP} {d r : Nat} {v : Nat → Value} {M : MD} {X : HP}
theorem read_sat (hS : Sat w0 w (DiskV d v M :: F)) (n : Int) : Calls Try.prog 18 #[.pointer (some ⟨d, 0, none⟩), .int .i64 n] w fun e w' => e = .returned (.tuple #[.string (readV M n).1, .int .i64 (readV M n).2]) ∧ w' = w := by
  unfold readV
  by_cases hb : isB n = true
  · obtain ⟨m, hm, rfl⟩ := isB_nat hb
    rw [if_pos hb, Int.toNat_natCast]
    exact read_any d v M m w hm hS.disk
  · rw [if_neg hb]
    exact read_none d n w (by simpa using hb)
theorem size_sat (hS : Sat w0 w (DiskV d v M :: F)) (n : Int) : Calls Try.prog 26 #[.pointer (some ⟨d, 0, none⟩), .int .i64 n] w fun e w' => e = .returned (.tuple #[.int .i64 (sizeV M n).1, .int .i64 (sizeV M n).2.1, .int .i64 (sizeV M n).2.2]) ∧ ∃ m, w' = w.drewN m := by
  unfold sizeV
  by_cases hb : isB n = true
  · obtain ⟨m, hm, rfl⟩ := isB_nat hb
    rw [if_pos hb, Int.toNat_natCast]
    exact size_any d v M m w hm hS.disk
  · rw [if_neg hb]
    refine (size_none d n w (by simpa using hb)).mono ?_
    rintro e w' ⟨rfl, rfl⟩
    exact ⟨rfl, 0, rfl⟩
theorem rread_sat (hS : Sat w0 w (X :: Blk r 69 (cellsR M) :: F)) (n : Int) : Calls Try.prog 29 #[.pointer (some ⟨r, 0, none⟩), .int .i64 n] w fun e w' => e = .returned (.tuple #[.string (readV M n).1, .int .i64 (readV M n).2]) ∧ w' = w := by
  unfold readV
  by_cases hb : isB n = true
  · obtain ⟨m, hm, rfl⟩ := isB_nat hb
    rw [if_pos hb, Int.toNat_natCast]
    exact rread_any r M m w hm hS.r2.blk
  · rw [if_neg hb]
    exact rread_none r n w (by simpa using hb)
theorem rsize_sat (hS : Sat w0 w (X :: Blk r 69 (cellsR M) :: F)) (n : Int) : Calls Try.prog 30 #[.pointer (some ⟨r, 0, none⟩), .int .i64 n] w fun e w' => e = .returned (.tuple #[.int .i64 (sizeV M n).1, .int .i64 (sizeV M n).2.1, .int .i64 (sizeV M n).2.2]) ∧ ∃ m, w' = w.drewN m := by
  unfold sizeV
  by_cases hb : isB n = true
  · obtain ⟨m, hm, rfl⟩ := isB_nat hb
    rw [if_pos hb, Int.toNat_natCast]
    exact rsize_any r M m w hm hS.r2.blk
  · rw [if_neg hb]
    refine (rsize_none r n w (by simpa using hb)).mono ?_
    rintro e w' ⟨rfl, rfl⟩
    exact ⟨rfl, 0, rfl⟩
theorem rapp_sat (hS : Sat w0 w (X :: Blk r 69 (cellsR M) :: F)) (hok : M.Ok) (n : Int) (s : ByteArray) (hs : s.size ≤ 9223372036854775807) :
    Calls Try.prog 33 #[.pointer (some ⟨r, 0, none⟩), .int .i64 n, .string s] w fun e w' => e = .returned (.int .i64 (appR M n s).2) ∧ Sat w0 w' (X :: Blk r 69 (cellsR (appR M n s).1) :: F) := by
  unfold appR
  by_cases hb : isB n = true
  · obtain ⟨m, hm, rfl⟩ := isB_nat hb
    rw [if_pos hb, Int.toNat_natCast]
    by_cases hf : (s.size : Int) ≤ M.room - M.used
    · rw [if_pos hf]
      refine (rappend_fits r M m s w hm hS.r2.blk hok hs hf).mono ?_
      rintro e w' ⟨rfl, ha, hc⟩
      exact ⟨rfl, (hS.r2.chg hc ha).r2⟩
    · rw [if_neg hf]
      refine (rappend_full r M m s w hm hS.r2.blk hok hs hf).mono ?_
      rintro e w' ⟨rfl, n, rfl⟩
      exact ⟨rfl, hS.drewN n⟩
  · rw [if_neg hb]
    refine (rappend_none r n s w (by simpa using hb)).mono ?_
    rintro e w' ⟨rfl, rfl⟩
    exact ⟨rfl, hS⟩
theorem rsync_sat (hS : Sat w0 w (X :: Blk r 69 (cellsR M) :: F)) (n : Int) :
    Calls Try.prog 34 #[.pointer (some ⟨r, 0, none⟩), .int .i64 n] w fun e w' => e = .returned (.int .i64 (syncR M n).2) ∧ Sat w0 w' (X :: Blk r 69 (cellsR (syncR M n).1) :: F) := by
  unfold syncR
  by_cases hb : isB n = true
  · obtain ⟨m, hm, rfl⟩ := isB_nat hb
    rw [if_pos hb, Int.toNat_natCast]
    refine (rsync_any r M m w hm hS.r2.blk).mono ?_
    rintro e w' ⟨rfl, ha, hc⟩
    exact ⟨rfl, (hS.r2.chg hc ha).r2⟩
  · rw [if_neg hb]
    refine (rsync_none r n w (by simpa using hb)).mono ?_
    rintro e w' ⟨rfl, rfl⟩
    exact ⟨rfl, hS⟩
theorem rcut_sat (hS : Sat w0 w (X :: Blk r 69 (cellsR M) :: F)) (hok : M.Ok) (n z : Int) :
    Calls Try.prog 35 #[.pointer (some ⟨r, 0, none⟩), .int .i64 n, .int .i64 z] w fun e w' => e = .returned (.int .i64 (cutR M n z).2) ∧ Sat w0 w' (X :: Blk r 69 (cellsR (cutR M n z).1) :: F) := by
  unfold cutR
  by_cases hb : isB n = true
  · obtain ⟨m, hm, rfl⟩ := isB_nat hb
    obtain ⟨h1, h2⟩ := ok_size hok m hm
    rw [if_pos hb, Int.toNat_natCast]
    by_cases hz : 0 ≤ z ∧ z ≤ (M.f m).b.size
    · rw [if_pos hz]
      obtain ⟨y, rfl⟩ : ∃ y : Nat, z = (y : Int) := ⟨z.toNat, by omega⟩
      rw [Int.toNat_natCast]
      refine (rcut_ok r M m y w hm hS.r2.blk (by omega) h1 h2).mono ?_
      rintro e w' ⟨rfl, ha, hc⟩
      exact ⟨rfl, (hS.r2.chg hc ha).r2⟩
    · rw [if_neg hz]
      refine (rcut_bad r M m z w hm hS.r2.blk hz).mono ?_
      rintro e w' ⟨rfl, rfl⟩
      exact ⟨rfl, hS⟩
  · rw [if_neg hb]
    refine (rcut_none r n z w (by simpa using hb)).mono ?_
    rintro e w' ⟨rfl, rfl⟩
    exact ⟨rfl, hS⟩
theorem rcrash_sat (hS : Sat w0 w (X :: Blk r 69 (cellsR M) :: F)) (hok : M.Ok) (keep : Int) (hk : wf64 keep) :
    Calls Try.prog 36 #[.pointer (some ⟨r, 0, none⟩), .int .i64 keep] w fun e w' => e = .returned (.tuple #[]) ∧ Sat w0 w' (X :: Blk r 69 (cellsR (crashM M keep.toNat)) :: F) := by
  refine (rcrash_any r M keep w0 w (X :: F) hS.r2 hok hk).mono ?_
  rintro e w' ⟨rfl, h⟩
  exact ⟨rfl, h.r2⟩
theorem same_sat (hS : Sat w0 w (DiskV d v M :: Blk r 69 (cellsR M) :: F)) (hok : M.Ok) :
    Calls Try.prog 12 #[.agg #[.pointer (some ⟨d, 0, none⟩), .pointer (some ⟨r, 0, none⟩)]] w fun e w' => e = .returned (.bool true) ∧ Sat w0 w' (DiskV d v M :: Blk r 69 (cellsR M) :: F) := by
  refine (same_any d r v M w hS.disk hS.r2.blk (by obtain ⟨_, h2, h3, _⟩ := hok; omega)).mono ?_
  rintro e w' ⟨rfl, hb⟩
  exact ⟨rfl, hS.below hb⟩
theorem copy_sat {L : List HP} (hS : Sat w0 w (DiskV d v M :: L)) (hok : M.Ok) :
    Calls Try.prog 23 #[.pointer (some ⟨d, 0, none⟩)] w fun e w' => ∃ g v', e = .returned (.pointer (some ⟨g, 0, none⟩)) ∧ Sat w0 w' (DiskV g v' M :: DiskV d v M :: L) := by
  refine (copy_any d v M w hS.disk hok).mono ?_
  rintro e w' ⟨g, v', rfl, hD, hf, hb⟩
  exact ⟨g, v', rfl, hS.diskNew hb hD hf⟩
end
end Go.Proofs.Ytjlpgjfgeikdeaa
