/- What quota.New and (*Quota).Left do. -/
import Derived.Test.YtmkbehdfchjeoaaQA
set_option linter.unusedVariables false
set_option linter.unusedSimpArgs false
set_option linter.unnecessarySimpa false
namespace Go.Proofs.Ytmkbehdfchjeoaa
open Go.RowKit Go.ChangeShapes Go.WideShapes Go.ChangeAt
/-- may a quota begin so? k of four are looked at -/
def newB (l o p0 p1 p2 p3 : Int) (k : Nat) : Bool := decide (1 ≤ l) && decide (l ≤ 12) && budB o && (decide (k < 1) || budB p0) && (decide (k < 2) || budB p1) && (decide (k < 3) || budB p2) && (decide (k < 4) || budB p3)
theorem newB_next0 (l o p0 p1 p2 p3 : Int) : newB l o p0 p1 p2 p3 1 = (newB l o p0 p1 p2 p3 0 && budB p0) := by simp [newB]
theorem newB_next1 (l o p0 p1 p2 p3 : Int) : newB l o p0 p1 p2 p3 2 = (newB l o p0 p1 p2 p3 1 && budB p1) := by simp [newB]
theorem newB_next2 (l o p0 p1 p2 p3 : Int) : newB l o p0 p1 p2 p3 3 = (newB l o p0 p1 p2 p3 2 && budB p2) := by simp [newB]
theorem newB_next3 (l o p0 p1 p2 p3 : Int) : newB l o p0 p1 p2 p3 4 = (newB l o p0 p1 p2 p3 3 && budB p3) := by simp [newB]
def cellsK (l o p0 p1 p2 p3 : Int) (k : Nat) : List Value := [.int .i64 l, .int .i64 0, .int .i64 o, .int .i64 (if k < 1 then 0 else p0), .int .i64 (if k < 2 then 0 else p1), .int .i64 (if k < 3 then 0 else p2), .int .i64 (if k < 4 then 0 else p3)]
def NewPost (w : World) (ok : Bool) (t : Nat) (vs : List Value) (e : Ending) (w' : World) : Prop :=
  Below w.heap.size w w' ∧ ((ok = true ∧ ∃ g, e = .returned (.tuple #[.pointer (some ⟨g, 0, none⟩), .int .i64 0]) ∧ w.heap.size ≤ g ∧ At w' g t vs) ∨ (ok = false ∧ e = .returned (.tuple #[.pointer none, .int .i64 1])))
set_option maxHeartbeats 1600000 in
theorem new_any (l o p0 p1 p2 p3 : Int) (w : World) :
    Calls Try.prog 16 #[.int .i64 l, .int .i64 o, .agg #[.int .i64 p0, .int .i64 p1, .int .i64 p2, .int .i64 p3]] w (NewPost w (newB l o p0 p1 p2 p3 4) 79 (cellsK l o p0 p1 p2 p3 4)) := by
  have hcase : (1 ≤ l ∧ l ≤ 12) ∨ (1 ≤ l ∧ ¬ l ≤ 12) ∨ ¬ 1 ≤ l := by omega
  have HBO : Hid (newB l o p0 p1 p2 p3 0 = (decide (1 ≤ l) && decide (l ≤ 12) && budB o)) := by show _ = _; simp [newB]
  rcases hcase with ⟨h1, h2⟩ | ⟨h1, h2⟩ | h1
  case' inl => have HE : Hid (budB o = newB l o p0 p1 p2 p3 0) := by show _ = _; rw [HBO.out]; simp [h1, h2]
  case' inr.inl => have HE : Hid (false = newB l o p0 p1 p2 p3 0) := by show _ = _; rw [HBO.out]; simp [h2]
  case' inr.inr => have HE : Hid (false = newB l o p0 p1 p2 p3 0) := by show _ = _; rw [HBO.out]; simp [h1]
  all_goals
    go_enter Try.func16, Try.ntmps16
    go_wp2_with fail
    try
      refine (isBudget_any o _).mono ?_
      rintro e w' ⟨rfl, rfl⟩
      go_wp2_with fail
    try clear h1 h2
    try clear h1
    go_loopw [8, 28] (fun ok i wr => ∃ k : Nat, k ≤ 4 ∧ i = .int .i64 k ∧ ok = .bool (newB l o p0 p1 p2 p3 k) ∧ At wr (w.heap.size + 1) 79 (cellsK l o p0 p1 p2 p3 k) ∧ Below w.heap.size w wr) (fun _ i _ => 4 - (intOf i).toNat)
    case atStart =>
      refine ⟨0, by omega, rfl, by rw [HE.out], ?_, ((Below.refl _ w).alloc (Nat.le_refl _) _).alloc (by simp) _⟩
      have := At.new (w.alloc (.cells #[.int .i64 p0, .int .i64 p1, .int .i64 p2, .int .i64 p3] 34)) 79 #[.int .i64 l, .int .i64 0, .int .i64 o, .int .i64 0, .int .i64 0, .int .i64 0, .int .i64 0]
      rw [show cellsK l o p0 p1 p2 p3 0 = [.int .i64 l, .int .i64 0, .int .i64 o, .int .i64 0, .int .i64 0, .int .i64 0, .int .i64 0] from by simp [cellsK]]
      simpa using this
    case round =>
      obtain ⟨k, hk, rfl, rfl, hat, hbel⟩ := hrel
      have HA := Lib.hid hat
      have HB := Lib.hid hbel
      clear hat hbel
      have hk4 : k = 0 ∨ k = 1 ∨ k = 2 ∨ k = 3 ∨ k = 4 := by omega
      rcases hk4 with rfl | rfl | rfl | rfl | rfl
      · have ix := idx0 (.int .i64 p0) (.int .i64 p1) (.int .i64 p2) (.int .i64 p3)
        have hc := HA.out.cell 3
        have hf := HA.out.free 3
        cases hb : newB l o p0 p1 p2 p3 0 with
        | true =>
          have HN : Hid (budB p0 = newB l o p0 p1 p2 p3 1) := by show _ = _; rw [newB_next0, hb]; rfl
          clear hb
          go_wp2_with fail
          refine (isBudget_any p0 _).mono ?_
          rintro e w' ⟨rfl, rfl⟩
          rw [HN.out]
          go_wp2_with fail
          go_roundw
          case rel => exact ⟨1, by omega, by go_num, rfl, HA.out.set 3 _, HB.out.setCell (by show _ ≤ _ + 1; omega) _⟩
          case measure => simp [intOf]
        | false =>
          have HN : Hid (false = newB l o p0 p1 p2 p3 1) := by show _ = _; rw [newB_next0, hb]; rfl
          clear hb
          go_wp2_with fail
          go_roundw
          case rel => exact ⟨1, by omega, by go_num, by rw [← HN.out], HA.out.set 3 _, HB.out.setCell (by show _ ≤ _ + 1; omega) _⟩
          case measure => simp [intOf]
      · have ix := idx1 (.int .i64 p0) (.int .i64 p1) (.int .i64 p2) (.int .i64 p3)
        have hc := HA.out.cell 4
        have hf := HA.out.free 4
        cases hb : newB l o p0 p1 p2 p3 1 with
        | true =>
          have HN : Hid (budB p1 = newB l o p0 p1 p2 p3 2) := by show _ = _; rw [newB_next1, hb]; rfl
          clear hb
          go_wp2_with fail
          refine (isBudget_any p1 _).mono ?_
          rintro e w' ⟨rfl, rfl⟩
          rw [HN.out]
          go_wp2_with fail
          go_roundw
          case rel => exact ⟨2, by omega, by go_num, rfl, HA.out.set 4 _, HB.out.setCell (by show _ ≤ _ + 1; omega) _⟩
          case measure => simp [intOf]
        | false =>
          have HN : Hid (false = newB l o p0 p1 p2 p3 2) := by show _ = _; rw [newB_next1, hb]; rfl
          clear hb
          go_wp2_with fail
          go_roundw
          case rel => exact ⟨2, by omega, by go_num, by rw [← HN.out], HA.out.set 4 _, HB.out.setCell (by show _ ≤ _ + 1; omega) _⟩
          case measure => simp [intOf]
      · have ix := idx2 (.int .i64 p0) (.int .i64 p1) (.int .i64 p2) (.int .i64 p3)
        have hc := HA.out.cell 5
        have hf := HA.out.free 5
        cases hb : newB l o p0 p1 p2 p3 2 with
        | true =>
          have HN : Hid (budB p2 = newB l o p0 p1 p2 p3 3) := by show _ = _; rw [newB_next2, hb]; rfl
          clear hb
          go_wp2_with fail
          refine (isBudget_any p2 _).mono ?_
          rintro e w' ⟨rfl, rfl⟩
          rw [HN.out]
          go_wp2_with fail
          go_roundw
          case rel => exact ⟨3, by omega, by go_num, rfl, HA.out.set 5 _, HB.out.setCell (by show _ ≤ _ + 1; omega) _⟩
          case measure => simp [intOf]
        | false =>
          have HN : Hid (false = newB l o p0 p1 p2 p3 3) := by show _ = _; rw [newB_next2, hb]; rfl
          clear hb
          go_wp2_with fail
          go_roundw
          case rel => exact ⟨3, by omega, by go_num, by rw [← HN.out], HA.out.set 5 _, HB.out.setCell (by show _ ≤ _ + 1; omega) _⟩
          case measure => simp [intOf]
      · have ix := idx3 (.int .i64 p0) (.int .i64 p1) (.int .i64 p2) (.int .i64 p3)
        have hc := HA.out.cell 6
        have hf := HA.out.free 6
        cases hb : newB l o p0 p1 p2 p3 3 with
        | true =>
          have HN : Hid (budB p3 = newB l o p0 p1 p2 p3 4) := by show _ = _; rw [newB_next3, hb]; rfl
          clear hb
          go_wp2_with fail
          refine (isBudget_any p3 _).mono ?_
          rintro e w' ⟨rfl, rfl⟩
          rw [HN.out]
          go_wp2_with fail
          go_roundw
          case rel => exact ⟨4, by omega, by go_num, rfl, HA.out.set 6 _, HB.out.setCell (by show _ ≤ _ + 1; omega) _⟩
          case measure => simp [intOf]
        | false =>
          have HN : Hid (false = newB l o p0 p1 p2 p3 4) := by show _ = _; rw [newB_next3, hb]; rfl
          clear hb
          go_wp2_with fail
          go_roundw
          case rel => exact ⟨4, by omega, by go_num, by rw [← HN.out], HA.out.set 6 _, HB.out.setCell (by show _ ≤ _ + 1; omega) _⟩
          case measure => simp [intOf]
      · cases hb : newB l o p0 p1 p2 p3 4 with
        | true =>
          go_wp2
          go_ret2
          exact ⟨HB.out, .inl ⟨hb, _, rfl, by omega, HA.out⟩⟩
        | false =>
          go_wp2
          go_ret2
          exact ⟨HB.out, .inr ⟨hb, rfl⟩⟩
end Go.Proofs.Ytmkbehdfchjeoaa
