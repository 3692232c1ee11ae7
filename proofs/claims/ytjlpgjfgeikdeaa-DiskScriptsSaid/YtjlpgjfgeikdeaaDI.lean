/- Cut of the program's disk, and of the document's. -/
import Derived.Test.YtjlpgjfgeikdeaaDF
set_option linter.unusedVariables false
set_option linter.unusedSimpArgs false
set_option linter.unnecessarySimpa false
namespace Go.Proofs.Ytjlpgjfgeikdeaa
open Go.RowKit Go.ChangeShapes Go.WideShapes Go.ChangeAt
open Go.Lib (strCells strCells_length)
theorem strCells_cut (b : ByteArray) (m : Nat) : strCells (b.extract 0 m) = (strCells b).take m := by
  unfold strCells
  rw [← List.map_take]
  congr 1
  simp [ByteArray.data_extract]
theorem BRow.cut {w : World} {A : Option Addr} {c : Nat} {b : ByteArray} (h : BRow w (.slice A b.size c) b) (m : Nat) (hm : m ≤ b.size) : BRow w (.slice A m m) (b.extract 0 m) ∧ m ≤ c := by
  rcases h with ⟨e, hb⟩ | ⟨g, cap, cur, e, hg, hnc, hcm, hcs, htake⟩
  · injection e with e1 e2 e3
    subst e1 e3
    have : m = 0 := by omega
    subst this
    exact ⟨.inl ⟨rfl, by simp⟩, Nat.le_refl _⟩
  · injection e with e1 e2 e3
    subst e1 e3
    have hs : (b.extract 0 m).size = m := by simp; omega
    refine ⟨.inr ⟨g, m, cur, by rw [hs], hg, by omega, by omega, by omega, ?_⟩, by omega⟩
    rw [hs, strCells_cut, ← htake, List.take_take, Nat.min_eq_left hm]
theorem own_cut {A : Option Addr} {a c m : Nat} : ∀ k, (Value.slice A m m).ownBlock = some k → (Value.slice A a c).ownBlock = some k := by
  intro k h; cases A <;> simpa [Value.ownBlock] using h
theorem works_cut {w : World} {d : Nat} {v : Nat → Value} {M : MD} (hD : DiskAt w d v M) (n : Nat) (hn : n < 4) {A : Option Addr} {c : Nat} (hv : v n = .slice A (M.f n).b.size c) (m : Nat) (hm : m ≤ (M.f n).b.size) :
    Works d v (M.set n ⟨(M.f n).b.extract 0 m, min (M.f n).safe m⟩) w ((w.setCell ⟨d, n * 2, none⟩ (.slice A m m)).setCell ⟨d, n * 2 + 1, none⟩ (.int .i64 (min (M.f n).safe m : Nat))) := by
  have hr := hD.row n hn
  rw [hv] at hr
  have own : ∀ k, (Value.slice A m m).ownBlock = some k → (v n).ownBlock = some k ∨ w.heap.size ≤ k := fun k hk => .inl (by rw [hv]; exact own_cut k hk)
  have h1 := hD.setRow n hn (.slice A m m) ((M.f n).b.extract 0 m) (hr.cut m hm).1 (World.grownBy.refl w _) own
  have h2 := h1.setSafe n hn (min (M.f n).safe m)
  rw [set_set] at h2
  have e : ((M.set n ⟨(M.f n).b.extract 0 m, (M.f n).safe⟩).f n).b = (M.f n).b.extract 0 m := by simp [MD.set]
  rw [e] at h2
  refine ⟨_, h2, ?_, foot_upd hn own⟩
  exact ((ChgS.refl _ _).set (p := ⟨d, n * 2, none⟩) (.inl (.inl rfl)) _).set (p := ⟨d, n * 2 + 1, none⟩) (.inl (.inl rfl)) _
set_option maxRecDepth 100000 in
theorem cut1_any (d : Nat) (v : Nat → Value) (M : MD) (n m : Nat) (w : World) (hn : n < 4) (hD : DiskAt w d v M) (hm : m ≤ (M.f n).b.size) (hs : (M.f n).b.size ≤ 1048576) (hsf : (M.f n).safe ≤ (M.f n).b.size) :
    Calls Try.prog 31 #[.pointer (some ⟨d, n * 2, none⟩), .int .i64 m] w fun e w' => e = .returned (.tuple #[]) ∧ Works d v (M.set n ⟨(M.f n).b.extract 0 m, min (M.f n).safe m⟩) w w' := by
  obtain ⟨A, c, hv⟩ := hD.slice n hn
  have hr := hD.row n hn
  rw [hv] at hr
  have hmc := (hr.cut m hm).2
  have HW := Lib.hid (works_cut hD n hn hv m hm)
  have m0 := hD.at_.cell (n * 2)
  have f0 := hD.at_.free (n * 2)
  have m1 := hD.at_.cell (n * 2 + 1)
  have f1 := hD.at_.free (n * 2 + 1)
  rw [cellsD_row v M n hn, hv] at m0
  rw [cellsD_safe v M n hn] at m1
  clear hr hv hD
  by_cases hle : (M.f n).safe ≤ m
  · have HM := Lib.hid (Nat.min_eq_left hle)
    rw [HM.out] at HW
    go_enter Try.func31, Try.ntmps31
    go_wp2_with fail
    go_end0
    rw [HM.out]
    exact ⟨rfl, HW.out⟩
  · have HM := Lib.hid (Nat.min_eq_right (Nat.le_of_lt (Nat.lt_of_not_le hle)))
    rw [HM.out] at HW
    go_enter Try.func31, Try.ntmps31
    go_wp2_with fail
    go_end0
    rw [HM.out]
    exact ⟨rfl, HW.out⟩
/-- Cut: its answer, and the disk behind it -/
def cutOk (M : MD) (n : Nat) (z : Int) : Bool := decide (0 ≤ z) && decide (z ≤ (M.f n).b.size)
set_option maxRecDepth 100000 in
theorem cut_any (d : Nat) (v : Nat → Value) (M : MD) (n m : Nat) (w : World) (hn : n < 4) (hD : DiskAt w d v M) (hm : m ≤ (M.f n).b.size) (hs : (M.f n).b.size ≤ 1048576) (hsf : (M.f n).safe ≤ (M.f n).b.size) :
    Calls Try.prog 22 #[.pointer (some ⟨d, 0, none⟩), .int .i64 n, .int .i64 m] w fun e w' => e = .returned (.int .i64 0) ∧ Works d v (M.set n ⟨(M.f n).b.extract 0 m, min (M.f n).safe m⟩) w w' := by
  obtain ⟨A, c, hv⟩ := hD.slice n hn
  have HD := Lib.hid hD
  have m0 := hD.at_.cell (n * 2)
  rw [cellsD_row v M n hn, hv] at m0
  clear hv hD
  go_enter Try.func22, Try.ntmps22
  go_wp2_with fail
  refine (of_any d n _ hn).mono ?_
  rintro e w1 ⟨rfl, rfl⟩
  go_wp2_with fail
  refine (cut1_any d v M n m _ hn HD.out hm hs hsf).mono ?_
  rintro e w2 ⟨rfl, hw⟩
  have HW := Lib.hid hw
  clear hw
  go_wp2_with fail
  go_ret
  exact ⟨rfl, HW.out⟩
theorem cut_bad (d : Nat) (v : Nat → Value) (M : MD) (n : Nat) (z : Int) (w : World) (hn : n < 4) (hD : DiskAt w d v M) (hs : (M.f n).b.size ≤ 1048576) (hz : ¬ (0 ≤ z ∧ z ≤ (M.f n).b.size)) :
    Calls Try.prog 22 #[.pointer (some ⟨d, 0, none⟩), .int .i64 n, .int .i64 z] w fun e w' => e = .returned (.int .i64 1) ∧ w' = w := by
  obtain ⟨A, c, hv⟩ := hD.slice n hn
  have m0 := hD.at_.cell (n * 2)
  rw [cellsD_row v M n hn, hv] at m0
  clear hv hD
  by_cases h0 : 0 ≤ z
  · have h1 : ¬ z ≤ (M.f n).b.size := fun h => hz ⟨h0, h⟩
    clear hz
    go_enter Try.func22, Try.ntmps22
    go_wp2_with fail
    refine (of_any d n _ hn).mono ?_
    rintro e w1 ⟨rfl, rfl⟩
    go_wp2_with fail
    go_ret
    exact ⟨rfl, rfl⟩
  · clear hz
    go_enter Try.func22, Try.ntmps22
    go_wp2_with fail
    refine (of_any d n _ hn).mono ?_
    rintro e w1 ⟨rfl, rfl⟩
    go_wp2_with fail
    go_ret
    exact ⟨rfl, rfl⟩
theorem cut_none (d : Nat) (n z : Int) (w : World) (hn : isB n = false) :
    Calls Try.prog 22 #[.pointer (some ⟨d, 0, none⟩), .int .i64 n, .int .i64 z] w fun e w' => e = .returned (.int .i64 40) ∧ w' = w := by
  go_enter Try.func22, Try.ntmps22
  go_wp2_with fail
  refine (of_none d n _ hn).mono ?_
  rintro e w1 ⟨rfl, rfl⟩
  go_wp2_with fail
  go_ret
  exact ⟨rfl, rfl⟩
end Go.Proofs.Ytjlpgjfgeikdeaa
