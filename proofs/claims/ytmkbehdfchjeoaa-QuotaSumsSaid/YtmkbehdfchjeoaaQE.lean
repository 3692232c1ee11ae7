/- What odysseyref15.New does. -/
import Derived.Test.YtmkbehdfchjeoaaQD
set_option linter.unusedVariables false
set_option linter.unusedSimpArgs false
set_option linter.unnecessarySimpa false
namespace Go.Proofs.Ytmkbehdfchjeoaa
open Go.RowKit Go.ChangeShapes Go.WideShapes Go.ChangeAt
set_option maxHeartbeats 1600000 in
theorem rnew_any (l o p0 p1 p2 p3 : Int) (w : World) :
    Calls Try.prog 17 #[.int .i64 l, .int .i64 o, .agg #[.int .i64 p0, .int .i64 p1, .int .i64 p2, .int .i64 p3]] w (NewPost w (newB l o p0 p1 p2 p3 4) 81 (cellsK l o p0 p1 p2 p3 4)) := by
  have hcase : (l < 1) ∨ (12 < l) ∨ (1 ≤ l ∧ l ≤ 12 ∧ o < 0) ∨ (1 ≤ l ∧ l ≤ 12 ∧ 100000 < o) ∨ (1 ≤ l ∧ l ≤ 12 ∧ 0 ≤ o ∧ o ≤ 100000) := by omega
  rcases hcase with h | h | ⟨h1, h2, h⟩ | ⟨h1, h2, h⟩ | ⟨h1, h2, h3, h4⟩
  · have HN : Hid (newB l o p0 p1 p2 p3 4 = false) := by show _ = _; simp [newB, budB]; omega
    go_enter Try.func17, Try.ntmps17
    go_wp2
    go_ret2
    exact ⟨(Below.refl _ _).alloc (Nat.le_refl _) _, .inr ⟨HN.out, rfl⟩⟩
  · have HN : Hid (newB l o p0 p1 p2 p3 4 = false) := by show _ = _; simp [newB, budB]; omega
    have h0 : 1 ≤ l := by omega
    go_enter Try.func17, Try.ntmps17
    go_wp2
    go_ret2
    exact ⟨(Below.refl _ _).alloc (Nat.le_refl _) _, .inr ⟨HN.out, rfl⟩⟩
  · have HN : Hid (newB l o p0 p1 p2 p3 4 = false) := by show _ = _; simp [newB, budB]; omega
    go_enter Try.func17, Try.ntmps17
    go_wp2
    go_ret2
    exact ⟨(Below.refl _ _).alloc (Nat.le_refl _) _, .inr ⟨HN.out, rfl⟩⟩
  · have HN : Hid (newB l o p0 p1 p2 p3 4 = false) := by show _ = _; simp [newB, budB]; omega
    have h0 : 0 ≤ o := by omega
    go_enter Try.func17, Try.ntmps17
    go_wp2
    go_ret2
    exact ⟨(Below.refl _ _).alloc (Nat.le_refl _) _, .inr ⟨HN.out, rfl⟩⟩
  · have HN0 : Hid (newB l o p0 p1 p2 p3 0 = true) := by show _ = _; simp [newB, budB]; omega
    go_enter Try.func17, Try.ntmps17
    go_wp2_with fail
    go_loopw [8] (fun i wr => ∃ k : Nat, k ≤ 4 ∧ i = .int .i64 k ∧ newB l o p0 p1 p2 p3 k = true ∧ At wr w.heap.size 34 [.int .i64 p0, .int .i64 p1, .int .i64 p2, .int .i64 p3] ∧ Below w.heap.size w wr) (fun i _ => 4 - (intOf i).toNat)
    case atStart => exact ⟨0, by omega, rfl, HN0.out, At.new w 34 _, (Below.refl _ _).alloc (Nat.le_refl _) _⟩
    case round =>
      obtain ⟨k, hk, rfl, hok, hA, hB⟩ := hrel
      have HAK := Lib.hid hA
      have HBK := Lib.hid hB
      have HOK := Lib.hid hok
      clear hA hB hok
      have hcase : k = 0 ∨ k = 1 ∨ k = 2 ∨ k = 3 ∨ k = 4 := by omega
      rcases hcase with rfl | rfl | rfl | rfl | rfl
      · have c0 := HAK.out.cell 0
        by_cases hlo : p0 < 0
        · have HN : Hid (newB l o p0 p1 p2 p3 4 = false) := by show _ = _; simp [newB, budB]; omega
          go_wp2
          go_ret2
          exact ⟨HBK.out, .inr ⟨HN.out, rfl⟩⟩
        · by_cases hhi : 100000 < p0
          · have HN : Hid (newB l o p0 p1 p2 p3 4 = false) := by show _ = _; simp [newB, budB]; omega
            go_wp2
            go_ret2
            exact ⟨HBK.out, .inr ⟨HN.out, rfl⟩⟩
          · have HN : Hid (newB l o p0 p1 p2 p3 1 = true) := by show _ = _; rw [newB_next0, HOK.out]; simp [budB]; omega
            go_wp2_with fail
            go_roundw
            case rel => exact ⟨1, by omega, by go_num, HN.out, HAK.out, HBK.out⟩
            case measure => simp [intOf]
      · have c1 := HAK.out.cell 1
        by_cases hlo : p1 < 0
        · have HN : Hid (newB l o p0 p1 p2 p3 4 = false) := by show _ = _; simp [newB, budB]; omega
          go_wp2
          go_ret2
          exact ⟨HBK.out, .inr ⟨HN.out, rfl⟩⟩
        · by_cases hhi : 100000 < p1
          · have HN : Hid (newB l o p0 p1 p2 p3 4 = false) := by show _ = _; simp [newB, budB]; omega
            go_wp2
            go_ret2
            exact ⟨HBK.out, .inr ⟨HN.out, rfl⟩⟩
          · have HN : Hid (newB l o p0 p1 p2 p3 2 = true) := by show _ = _; rw [newB_next1, HOK.out]; simp [budB]; omega
            go_wp2_with fail
            go_roundw
            case rel => exact ⟨2, by omega, by go_num, HN.out, HAK.out, HBK.out⟩
            case measure => simp [intOf]
      · have c2 := HAK.out.cell 2
        by_cases hlo : p2 < 0
        · have HN : Hid (newB l o p0 p1 p2 p3 4 = false) := by show _ = _; simp [newB, budB]; omega
          go_wp2
          go_ret2
          exact ⟨HBK.out, .inr ⟨HN.out, rfl⟩⟩
        · by_cases hhi : 100000 < p2
          · have HN : Hid (newB l o p0 p1 p2 p3 4 = false) := by show _ = _; simp [newB, budB]; omega
            go_wp2
            go_ret2
            exact ⟨HBK.out, .inr ⟨HN.out, rfl⟩⟩
          · have HN : Hid (newB l o p0 p1 p2 p3 3 = true) := by show _ = _; rw [newB_next2, HOK.out]; simp [budB]; omega
            go_wp2_with fail
            go_roundw
            case rel => exact ⟨3, by omega, by go_num, HN.out, HAK.out, HBK.out⟩
            case measure => simp [intOf]
      · have c3 := HAK.out.cell 3
        by_cases hlo : p3 < 0
        · have HN : Hid (newB l o p0 p1 p2 p3 4 = false) := by show _ = _; simp [newB, budB]; omega
          go_wp2
          go_ret2
          exact ⟨HBK.out, .inr ⟨HN.out, rfl⟩⟩
        · by_cases hhi : 100000 < p3
          · have HN : Hid (newB l o p0 p1 p2 p3 4 = false) := by show _ = _; simp [newB, budB]; omega
            go_wp2
            go_ret2
            exact ⟨HBK.out, .inr ⟨HN.out, rfl⟩⟩
          · have HN : Hid (newB l o p0 p1 p2 p3 4 = true) := by show _ = _; rw [newB_next3, HOK.out]; simp [budB]; omega
            go_wp2_with fail
            go_roundw
            case rel => exact ⟨4, by omega, by go_num, HN.out, HAK.out, HBK.out⟩
            case measure => simp [intOf]
      · have c0 := HAK.out.cell 0
        have c1 := HAK.out.cell 1
        have c2 := HAK.out.cell 2
        have c3 := HAK.out.cell 3
        go_wp2
        go_ret2
        refine ⟨HBK.out.alloc HBK.out.size _, .inl ⟨HOK.out, _, rfl, HBK.out.size, ?_⟩⟩
        rw [show cellsK l o p0 p1 p2 p3 4 = [.int .i64 l, .int .i64 0, .int .i64 o, .int .i64 p0, .int .i64 p1, .int .i64 p2, .int .i64 p3] from by simp [cellsK]]
        exact At.new wr 81 _
end Go.Proofs.Ytmkbehdfchjeoaa
