/- All that a disk has, as the laws gather it. -/
import Derived.Test.YtjlpgjfgeikdeaaDK
import Derived.Test.YtjlpgjfgeikdeaaDJ
set_option linter.unusedVariables false
set_option linter.unusedSimpArgs false
set_option linter.unnecessarySimpa false
namespace Go.Proofs.Ytjlpgjfgeikdeaa
open Go.RowKit Go.ChangeShapes Go.WideShapes Go.ChangeAt
theorem info41 : (Try.prog.info? 41).map (fun i => (i.zero, i.size, i.bytes)) = some (some (.agg #[.string ⟨#[]⟩, .int .i64 0]), 2, 24) := by kernel_rfl
/-- what the first k files tell -/
def filesV (M : MD) : Nat → List Value
  | 0 => []
  | k + 1 => filesV M k ++ [.string (M.f k).b, .int .i64 (M.f k).safe]
def FlRel (w0 : World) (F : List HP) (d : Nat) (v : Nat → Value) (M : MD) (out i : Value) (wr : World) : Prop :=
  ∃ (k : Nat) (A : Option Addr) (c : Nat), k ≤ 4 ∧ i = .int .i64 k ∧ out = .slice A k c ∧ Sat w0 wr (Row 41 2 A k c (filesV M k) :: DiskV d v M :: F)
set_option maxRecDepth 100000 in
set_option maxHeartbeats 3200000 in
theorem files_any (d : Nat) (v : Nat → Value) (M : MD) (w0 w : World) (F : List HP) (hS : Sat w0 w (DiskV d v M :: F)) (hok : M.Ok) :
    Calls Try.prog 14 #[.pointer (some ⟨d, 0, none⟩)] w fun e w' => ∃ A c, e = .returned (.tuple #[.slice A 4 c, .bool true]) ∧ Sat w0 w' (Row 41 2 A 4 c (filesV M 4) :: DiskV d v M :: F) := by
  obtain ⟨i, hi, hz, hsz, hby⟩ := info_parts info41
  have hused : ∀ k, k < 4 → (M.f k).b.size ≤ 1048576 ∧ (M.f k).safe ≤ (M.f k).b.size := by
    obtain ⟨h1, h2, h3, h4⟩ := hok
    intro k hk4
    refine ⟨?_, h4 k hk4⟩
    have : k = 0 ∨ k = 1 ∨ k = 2 ∨ k = 3 := by omega
    unfold MD.used at h3
    rcases this with rfl | rfl | rfl | rfl <;> omega
  have HU := Lib.hid hused
  have hS0 := hS.nilRow 41 2
  clear hused hok
  go_enter Try.func14, Try.ntmps14
  go_wp2_with fail
  go_loopw [4, 5] (FlRel w0 F d v M) (fun _ i _ => 4 - (intOf i).toNat)
  case atStart => exact ⟨0, none, 0, by omega, rfl, rfl, hS0⟩
  case round =>
    obtain ⟨k, A, c, hk, rfl, rfl, hT⟩ := hrel
    clear hS0 hS
    by_cases hlt : k < 4
    · obtain ⟨hs1, hs2⟩ := HU.out k hlt
      have HV : Hid (filesV M (k + 1) = filesV M k ++ [.string (M.f k).b, .int .i64 (M.f k).safe]) := rfl
      have HR := Lib.hid (read_any d v M k wr hlt hT.r2.disk)
      have HZ := Lib.hid (size_any d v M k wr hlt hT.r2.disk)
      obtain ⟨b, hb⟩ : ∃ b, (M.f k).b = b := ⟨_, rfl⟩
      obtain ⟨sf, hsf⟩ : ∃ b, (M.f k).safe = b := ⟨_, rfl⟩
      rw [hb] at HV HR HZ hs1 hs2
      rw [hsf] at HV HZ hs2
      clear hb hsf
      have t1 : ((b.size : Int) != (b.size : Int)) = false := by simp
      have h4 : k + 1 ≤ maxLen := by unfold maxLen; omega
      have h5 : (k + 1) * 24 ≤ 140737488355328 := by omega
      go_wp2_with (first
        | (go_at_call 18; refine HR.out.mono ?_; rintro e w1 ⟨rfl, rfl⟩)
        | (go_at_call 26; refine HZ.out.mono ?_; rintro e w1 ⟨rfl, m, rfl⟩)
        | (at_builtin; refine wpList_app1 rfl (.tmp 49) (.tmp 53) 36 rfl 41 i (.agg #[.string ⟨#[]⟩, .int .i64 0]) 2 24 Try.underlying36 hi hz hsz hby rfl (by decide) rfl ((hT.drewN m).new #[.string b, .int .i64 sf] 41) (by rfl) rfl (by intro u hu; simp at hu; rcases hu with rfl | rfl <;> rfl) h4 h5 ?_; intro A' c' w' hT2))
      go_roundw
      case rel => exact ⟨k + 1, A', c', by omega, by first | rfl | go_num, rfl, by rw [HV.out]; exact hT2⟩
      case measure => simp [intOf]; omega
    · have hk4 : k = 4 := by omega
      subst hk4
      go_wp2_with fail
      go_ret2
      exact ⟨A, c, rfl, hT⟩
end Go.Proofs.Ytjlpgjfgeikdeaa
