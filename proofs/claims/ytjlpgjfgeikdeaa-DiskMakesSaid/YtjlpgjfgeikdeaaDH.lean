/- The walk of the law DiskMakes. -/
import Derived.Test.YtjlpgjfgeikdeaaDG
namespace Go.Proofs.Ytjlpgjfgeikdeaa
open Go.RowKit Go.ChangeShapes Go.WideShapes Go.ChangeAt
set_option maxRecDepth 100000 in
theorem diskMakes_walk (room : Int) (w : World) (w0 : (Lit.int .i64 room).wf = true) :
    Calls Try.prog 3 #[.int .i64 room] w fun e w' => e = .returned (.bool true) ∧ Below w.heap.size w w' := by
  clear w0
  by_cases hok : 1 ≤ room ∧ room ≤ 1048576
  · obtain ⟨h1, h2⟩ := hok
    go_enter Try.func3, Try.ntmps3
    go_wp2_with fail
    refine (new_any room _ h1 h2).mono ?_
    rintro e w1 ⟨rfl, hD, hb⟩
    have HD1 := Lib.hid hD
    have HB1 := Lib.hid hb
    clear hD hb
    go_wp2_with fail
    refine (rnew_any room _ h1 h2).mono ?_
    rintro e w2 ⟨rfl, hR, hb⟩
    have HR2 := Lib.hid hR
    have HD2 := Lib.hid (HD1.out.keep hb)
    have HB2 : Hid (Below w.heap.size w w2) := below_step HB1.out hb
    clear hR hb HD1 HB1
    go_wp2_with fail
    refine (begun_any 3 _ (by decide) (by decide)).mono ?_
    rintro e w3 ⟨g, v3, rfl, _, _, hb⟩
    have HR3 := Lib.hid (HR2.out.keep hb)
    have HD3 := Lib.hid (HD2.out.keep hb)
    have HB3 : Hid (Below w.heap.size w w3) := below_step HB2.out hb
    clear hb HR2 HD2 HB2
    go_wp2_with fail
    refine (same_any _ _ _ (freshM room) _ HD3.out HR3.out (by show (0 : Nat) ≤ 1048576; decide)).mono ?_
    rintro e w4 ⟨rfl, hb⟩
    have HB4 : Hid (Below w.heap.size w w4) := below_step HB3.out hb
    clear hb HR3 HD3 HB3
    go_wp2_with fail
    go_ret
    exact ⟨rfl, HB4.out⟩
  · have HN := Lib.hid hok
    clear hok
    go_enter Try.func3, Try.ntmps3
    go_wp2_with fail
    refine (new_none room _ HN.out).mono ?_
    rintro e w1 ⟨rfl, rfl⟩
    go_wp2_with fail
    refine (rnew_none room _ HN.out).mono ?_
    rintro e w2 ⟨rfl, rfl⟩
    go_wp2_with fail
    refine (begun_any 3 _ (by decide) (by decide)).mono ?_
    rintro e w3 ⟨g, v3, rfl, _, _, hb⟩
    have HB3 := Lib.hid hb
    clear hb
    go_wp2_with fail
    go_ret
    exact ⟨rfl, HB3.out⟩
end Go.Proofs.Ytjlpgjfgeikdeaa
