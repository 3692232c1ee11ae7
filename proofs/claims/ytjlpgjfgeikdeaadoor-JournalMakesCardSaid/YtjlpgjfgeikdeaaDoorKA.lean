/- The law JournalMakes: the walk. -/
import Derived.Test.YtjlpgjfgeikdeaaDoorJ5
set_option linter.unusedVariables false
set_option linter.unusedSimpArgs false
set_option linter.unnecessarySimpa false
set_option maxRecDepth 100000
namespace Go.Proofs.YtjlpgjfgeikdeaaDoor
open Go.RowKit Go.ChangeShapes Go.WideShapes Go.ChangeAt
open Fr (strOfNats strOfNats_size strOfNats_bytes bytesOf Table restOf wrapS)
set_option maxHeartbeats 1600000 in
theorem journalMakes_walk (room : Int) (A : Option Addr) (n c : Nat) (l : List Img) (w : World) (hT : Table w) (w0 : (Lit.int .i64 room).wf = true) (w1 : ImgAt w A n c l) (_ : n * 32 ≤ 140737488351232) :
    Calls Tryd.prog 3 #[.int .i64 room, .slice A n c] w fun e w' => e = .returned (.bool true) ∧ Below w.heap.size w w' := by
  have H1 := Lib.hid (laid_any room A n c l (Sat.start w) (by simp) (i64_of w0) w1)
  have HOK : Hid ((laidM room l).Ok) := imgs_ok (fresh1_ok (by omega) (by have := pickN_lt room 1048576 (by decide); omega)) l _
  obtain ⟨M, hM⟩ : ∃ M, laidM room l = M := ⟨_, rfl⟩
  rw [hM] at H1 HOK
  clear hM w0 w1
  go_enter Tryd.func3, Tryd.ntmps3
  go_wp2_with fail
  refine H1.out.mono ?_
  rintro e w2 ⟨d, r, v, rfl, h2⟩
  go_wp2_with fail
  refine (begun_any h2 (by simp) hT).mono ?_
  rintro e w3 ⟨rfl, h3⟩
  clear h2 H1
  by_cases hu : 0 < (M.f 0).b.size ∨ 0 < (M.f 1).b.size
  · have HU := Lib.hid hu
    clear hu
    go_wp2_with fail
    refine (new_used h3 HU.out).mono ?_
    rintro e w4 ⟨rfl, h4⟩
    clear h3
    go_wp2_with fail
    refine (rnew_used h4 HU.out).mono ?_
    rintro e w5 ⟨rfl, rfl⟩
    go_wp2_with fail
    refine (new_nil _).mono ?_
    rintro e w6 ⟨rfl, rfl⟩
    go_wp2_with fail
    refine (alike_any h4 HOK.out).mono ?_
    rintro e w7 ⟨rfl, m, rfl⟩
    go_wp2_with fail
    go_ret
    exact ⟨rfl, (h4.drewN m).old (by simp)⟩
  · have HU := Lib.hid hu
    clear hu
    have H3 := Lib.hid (new_fresh h3 HOK.out HU.out (by simp) hT)
    have H4 := Lib.hid (fun (w1 : World) (X : HP) (F : List HP) (h : Sat w w1 (X :: Blk r 83 (cellsR M) :: F)) => rnew_fresh h HOK.out HU.out)
    have HO2 : Hid ((laysR M 0 1 noText).1.Ok) := lays_ok HOK.out _ _ _
    obtain ⟨⟨R, code⟩, hR⟩ : ∃ R, laysR M 0 1 noText = R := ⟨_, rfl⟩
    rw [hR] at H3 H4 HO2
    simp only at HO2
    unfold NewOut at H3
    unfold RNewOut at H4
    simp only at H3 H4
    clear hR h3
    have i1 : (code == code) = true := by simp
    go_wp2_with fail
    refine H3.out.mono ?_
    rintro e w4 (⟨hc, j, v1, rfl, h4⟩ | ⟨hc, v1, rfl, h4⟩)
    · go_wp2_with fail
      refine (H4.out _ _ _ h4.r3.r2).mono ?_
      rintro e w5 (⟨_, y, rfl, h5⟩ | ⟨hz, _⟩)
      case inr => exact absurd hc hz
      clear h4
      go_wp2_with fail
      refine (new_nil _).mono ?_
      rintro e w6 ⟨rfl, rfl⟩
      go_wp2_with fail
      refine (alike_any h5.r4.r4.r2 HO2.out).mono ?_
      rintro e w7 ⟨rfl, m, rfl⟩
      go_wp2_with fail
      go_ret
      exact ⟨rfl, (h5.drewN m).old (by simp)⟩
    · have HC := Lib.hid hc
      clear hc
      go_wp2_with fail
      refine (H4.out _ _ _ h4).mono ?_
      rintro e w5 (⟨hz, _⟩ | ⟨_, rfl, h5⟩)
      · exact absurd hz HC.out
      clear h4
      go_wp2_with fail
      refine (new_nil _).mono ?_
      rintro e w6 ⟨rfl, rfl⟩
      go_wp2_with fail
      refine (alike_any h5 HO2.out).mono ?_
      rintro e w7 ⟨rfl, m, rfl⟩
      go_wp2_with fail
      go_ret
      exact ⟨rfl, (h5.drewN m).old (by simp)⟩
end Go.Proofs.YtjlpgjfgeikdeaaDoor
