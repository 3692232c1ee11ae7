/- The calls on a disk, whatever they are handed: what they answer and what they leave. -/
import Derived.Test.YtjlpgjfgeikdeaaDL
set_option linter.unusedVariables false
set_option linter.unusedSimpArgs false
set_option linter.unnecessarySimpa false
namespace Go.Proofs.Ytjlpgjfgeikdeaa
open Go.RowKit Go.ChangeShapes Go.WideShapes Go.ChangeAt
def appR (M : MD) (n : Int) (s : ByteArray) : MD × Int :=
  if isB n = true then (if (s.size : Int) ≤ M.room - M.used then (M.set n.toNat ⟨(M.f n.toNat).b ++ s, (M.f n.toNat).safe⟩, 0) else (M, 41)) else (M, 40)
def syncR (M : MD) (n : Int) : MD × Int := if isB n = true then (M.set n.toNat ⟨(M.f n.toNat).b, (M.f n.toNat).b.size⟩, 0) else (M, 40)
def cutR (M : MD) (n z : Int) : MD × Int :=
  if isB n = true then (if 0 ≤ z ∧ z ≤ (M.f n.toNat).b.size then (M.set n.toNat ⟨(M.f n.toNat).b.extract 0 z.toNat, min (M.f n.toNat).safe z.toNat⟩, 0) else (M, 1)) else (M, 40)
theorem used_set (M : MD) (n : Nat) (x : MF) (h : n < 4) : (M.set n x).used + (M.f n).b.size = M.used + x.b.size := by
  have : n = 0 ∨ n = 1 ∨ n = 2 ∨ n = 3 := by omega
  unfold MD.used MD.set
  rcases this with rfl | rfl | rfl | rfl <;> simp <;> omega
theorem ok_set {M : MD} {n : Nat} {x : MF} (h : M.Ok) (hn : n < 4) (hu : (x.b.size : Int) ≤ (M.f n).b.size + (M.room - M.used)) (hs : x.safe ≤ x.b.size) : (M.set n x).Ok := by
  obtain ⟨h1, h2, h3, h4⟩ := h
  have := used_set M n x hn
  refine ⟨h1, h2, ?_, fun i hi => ?_⟩
  · show ((M.set n x).used : Int) ≤ M.room
    omega
  · show (if i = n then x else M.f i).safe ≤ (if i = n then x else M.f i).b.size
    split
    · exact hs
    · exact h4 i hi
theorem ok_size {M : MD} (h : M.Ok) (k : Nat) (hk : k < 4) : (M.f k).b.size ≤ 1048576 ∧ (M.f k).safe ≤ (M.f k).b.size := by
  obtain ⟨h1, h2, h3, h4⟩ := h
  refine ⟨?_, h4 k hk⟩
  have : k = 0 ∨ k = 1 ∨ k = 2 ∨ k = 3 := by omega
  unfold MD.used at h3
  rcases this with rfl | rfl | rfl | rfl <;> omega
theorem isB_lt {n : Int} (h : isB n = true) : n.toNat < 4 ∧ ((n.toNat : Nat) : Int) = n := by
  obtain ⟨m, hm, rfl⟩ := isB_nat h
  exact ⟨hm, rfl⟩
theorem app_ok {M : MD} (h : M.Ok) (n : Int) (s : ByteArray) : (appR M n s).1.Ok := by
  unfold appR
  split
  · rename_i hb
    split
    · rename_i hf
      refine ok_set h (isB_lt hb).1 ?_ ?_
      · simp only [ByteArray.size_append]; omega
      · have := (ok_size h _ (isB_lt hb).1).2
        simp only [ByteArray.size_append]; omega
    · exact h
  · exact h
theorem sync_ok {M : MD} (h : M.Ok) (n : Int) : (syncR M n).1.Ok := by
  unfold syncR
  split
  · rename_i hb
    refine ok_set h (isB_lt hb).1 ?_ (Nat.le_refl _)
    obtain ⟨_, _, h3, _⟩ := h
    simp only; omega
  · exact h
theorem cut_ok {M : MD} (h : M.Ok) (n z : Int) : (cutR M n z).1.Ok := by
  unfold cutR
  split
  · rename_i hb
    split
    · rename_i hz
      refine ok_set h (isB_lt hb).1 ?_ ?_
      · obtain ⟨_, _, h3, _⟩ := h
        simp only [ByteArray.size_extract]; omega
      · simp only [ByteArray.size_extract]; omega
    · exact h
  · exact h
section
variable {w0 w : World} {F : List HP} {d : Nat} {v : Nat → Value} {M : MD}
theorem app_sat (hS : Sat w0 w (DiskV d v M :: F)) (hok : M.Ok) (n : Int) (s : ByteArray) (hs : s.size ≤ 9223372036854775807) :
    Calls Try.prog 19 #[.pointer (some ⟨d, 0, none⟩), .int .i64 n, .string s] w fun e w' => e = .returned (.int .i64 (appR M n s).2) ∧ ∃ v', Sat w0 w' (DiskV d v' (appR M n s).1 :: F) := by
  unfold appR
  by_cases hb : isB n = true
  · obtain ⟨m, hm, rfl⟩ := isB_nat hb
    rw [if_pos hb, Int.toNat_natCast]
    by_cases hf : (s.size : Int) ≤ M.room - M.used
    · rw [if_pos hf]
      refine (append_fits d v M m s w hm hS.disk hok hs hf).mono ?_
      rintro e w' ⟨rfl, hw⟩
      exact ⟨rfl, hS.works hw⟩
    · rw [if_neg hf]
      refine (append_full d v M m s w hm hS.disk hok hs hf).mono ?_
      rintro e w' ⟨rfl, hw⟩
      exact ⟨rfl, hS.works hw⟩
  · rw [if_neg hb]
    refine (append_none d n s w (by simpa using hb)).mono ?_
    rintro e w' ⟨rfl, rfl⟩
    exact ⟨rfl, v, hS⟩
theorem sync_sat (hS : Sat w0 w (DiskV d v M :: F)) (n : Int) :
    Calls Try.prog 17 #[.pointer (some ⟨d, 0, none⟩), .int .i64 n] w fun e w' => e = .returned (.int .i64 (syncR M n).2) ∧ ∃ v', Sat w0 w' (DiskV d v' (syncR M n).1 :: F) := by
  unfold syncR
  by_cases hb : isB n = true
  · obtain ⟨m, hm, rfl⟩ := isB_nat hb
    rw [if_pos hb, Int.toNat_natCast]
    refine (sync_any d v M m w hm hS.disk).mono ?_
    rintro e w' ⟨rfl, hD, hc⟩
    exact ⟨rfl, hS.works (Works.of hD (hc.mono fun k hk => .inl (.inl hk)))⟩
  · rw [if_neg hb]
    refine (sync_none d n w (by simpa using hb)).mono ?_
    rintro e w' ⟨rfl, rfl⟩
    exact ⟨rfl, v, hS⟩
theorem cut_sat (hS : Sat w0 w (DiskV d v M :: F)) (hok : M.Ok) (n z : Int) :
    Calls Try.prog 22 #[.pointer (some ⟨d, 0, none⟩), .int .i64 n, .int .i64 z] w fun e w' => e = .returned (.int .i64 (cutR M n z).2) ∧ ∃ v', Sat w0 w' (DiskV d v' (cutR M n z).1 :: F) := by
  unfold cutR
  by_cases hb : isB n = true
  · obtain ⟨m, hm, rfl⟩ := isB_nat hb
    obtain ⟨h1, h2⟩ := ok_size hok m hm
    rw [if_pos hb, Int.toNat_natCast]
    by_cases hz : 0 ≤ z ∧ z ≤ (M.f m).b.size
    · rw [if_pos hz]
      obtain ⟨y, rfl⟩ : ∃ y : Nat, z = (y : Int) := ⟨z.toNat, by omega⟩
      rw [Int.toNat_natCast]
      refine (cut_any d v M m y w hm hS.disk (by omega) h1 h2).mono ?_
      rintro e w' ⟨rfl, hw⟩
      exact ⟨rfl, hS.works hw⟩
    · rw [if_neg hz]
      refine (cut_bad d v M m z w hm hS.disk h1 hz).mono ?_
      rintro e w' ⟨rfl, rfl⟩
      exact ⟨rfl, v, hS⟩
  · rw [if_neg hb]
    refine (cut_none d n z w (by simpa using hb)).mono ?_
    rintro e w' ⟨rfl, rfl⟩
    exact ⟨rfl, v, hS⟩
theorem crash_sat (hS : Sat w0 w (DiskV d v M :: F)) (hok : M.Ok) (keep : Int) (hk : wf64 keep) :
    Calls Try.prog 15 #[.pointer (some ⟨d, 0, none⟩), .int .i64 keep] w fun e w' => e = .returned (.tuple #[]) ∧ ∃ v', Sat w0 w' (DiskV d v' (crashM M keep.toNat) :: F) := by
  refine (crash_any d v M keep w hS.disk hok hk).mono ?_
  rintro e w' ⟨rfl, hw⟩
  exact ⟨rfl, hS.works hw⟩
theorem begun_sat {L : List HP} (hS : Sat w0 w L) (room : Int) (h : 3 ≤ room) (h2 : room ≤ 1048576) :
    Calls Try.prog 11 #[.int .i64 room] w fun e w' => ∃ g v, e = .returned (.pointer (some ⟨g, 0, none⟩)) ∧ Sat w0 w' (DiskV g v (begM room) :: L) := by
  refine (begun_any room w h h2).mono ?_
  rintro e w' ⟨g, v, rfl, hD, hf, hb⟩
  exact ⟨g, v, rfl, hS.diskNew hb hD hf⟩
end
end Go.Proofs.Ytjlpgjfgeikdeaa
