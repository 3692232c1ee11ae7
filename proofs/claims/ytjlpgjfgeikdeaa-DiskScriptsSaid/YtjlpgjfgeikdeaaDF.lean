/- A disk in which something is safe and something is not: law.begun. -/
import Derived.Test.YtjlpgjfgeikdeaaDE
set_option linter.unusedVariables false
set_option linter.unusedSimpArgs false
set_option linter.unnecessarySimpa false
namespace Go.Proofs.Ytjlpgjfgeikdeaa
open Go.RowKit Go.ChangeShapes Go.WideShapes Go.ChangeAt
def textAB : ByteArray := ⟨#[97, 98]⟩
def textC : ByteArray := ⟨#[99]⟩
def textABC : ByteArray := ⟨#[97, 98, 99]⟩
def begM1 (room : Int) : MD := (freshM room).set 3 ⟨⟨#[]⟩ ++ textAB, 0⟩
def begM2 (room : Int) : MD := (begM1 room).set 3 ⟨textAB, 2⟩
def begM (room : Int) : MD := (begM2 room).set 3 ⟨textAB ++ textC, 2⟩
theorem nil_ab : (⟨#[]⟩ : ByteArray) ++ textAB = textAB := by decide +kernel
theorem ab_c : textAB ++ textC = textABC := by decide +kernel
theorem set_set (M : MD) (n : Nat) (x y : MF) : (M.set n x).set n y = M.set n y := by
  unfold MD.set; simp only [MD.mk.injEq, and_true]; funext i; split <;> rfl
theorem begM_eq (room : Int) : begM room = (freshM room).set 3 ⟨textABC, 2⟩ := by
  unfold begM begM2 begM1; rw [set_set, set_set, ab_c]
theorem fresh_ok {room : Int} (h : 3 ≤ room) (h2 : room ≤ 1048576) : (freshM room).Ok := by
  refine ⟨by show 1 ≤ room; omega, h2, ?_, fun i _ => Nat.le_refl _⟩
  show ((0 : Nat) : Int) ≤ room
  omega
theorem begM2_ok {room : Int} (h : 3 ≤ room) (h2 : room ≤ 1048576) : (begM2 room).Ok := by
  refine ⟨by show 1 ≤ room; omega, h2, ?_, fun i _ => ?_⟩
  · show ((2 : Nat) : Int) ≤ room
    omega
  · unfold begM2 begM1 MD.set
    simp only
    split
    · decide
    · exact Nat.le_refl _
theorem begM_ok {room : Int} (h : 3 ≤ room) (h2 : room ≤ 1048576) : (begM room).Ok := by
  refine ⟨by show 1 ≤ room; omega, h2, ?_, fun i _ => ?_⟩
  · show ((3 : Nat) : Int) ≤ room
    omega
  · rw [begM_eq]
    unfold MD.set
    simp only
    split
    · decide
    · exact Nat.le_refl _
def freshV : Nat → Value := fun _ => .slice none 0 0
theorem foot_fresh {d : Nat} {v : Nat → Value} {B : Nat} (h : ∀ k, footD d v k → B ≤ k) {v' : Nat → Value} {N : Nat} (h2 : ∀ k, footD d v' k → footD d v k ∨ N ≤ k) (hN : B ≤ N) : ∀ k, footD d v' k → B ≤ k := by
  intro k hk
  rcases h2 k hk with h3 | h3
  · exact h k h3
  · omega
set_option maxRecDepth 100000 in
theorem begun_any (room : Int) (w : World) (h : 3 ≤ room) (h2 : room ≤ 1048576) :
    Calls Try.prog 11 #[.int .i64 room] w fun e w' => ∃ g v, e = .returned (.pointer (some ⟨g, 0, none⟩)) ∧ DiskAt w' g v (begM room) ∧ (∀ k, footD g v k → w.heap.size ≤ k) ∧ Below w.heap.size w w' := by
  have HO := Lib.hid (fresh_ok h h2)
  have HO2 := Lib.hid (begM2_ok h h2)
  have HO3 := Lib.hid (begM_ok h h2)
  go_enter Try.func11, Try.ntmps11
  go_wp2_with fail
  refine (new_any room _ (by omega) h2).mono ?_
  rintro e w1 ⟨rfl, hD, hb⟩
  have HD := Lib.hid hD
  have HB := Lib.hid hb
  have HF : Hid (∀ k, footD w.heap.size (fun _ => .slice none 0 0) k → w.heap.size ≤ k) := by
    rintro k (rfl | ⟨i, _, hk⟩)
    · exact Nat.le_refl _
    · simp [Value.ownBlock] at hk
  clear hD hb
  go_wp2_with fail
  refine (append_fits _ _ _ 3 textAB _ (by decide) HD.out HO.out (by decide) (by show ((2 : Nat) : Int) ≤ room - ((0 : Nat) : Int); omega)).mono ?_
  rintro e w2 ⟨rfl, v2, hD, hc, hf⟩
  have HD2 : Hid (DiskAt w2 w.heap.size v2 (begM1 room)) := hD
  have HB2 : Hid (Below w.heap.size w w2) := HB.out.trans (hc.below HF.out HB.out.size)
  have HF2 := Lib.hid (foot_fresh HF.out hf HB.out.size)
  clear hD hc hf HD HB HF
  go_wp2_with fail
  refine (sync_any _ _ _ 3 _ (by decide) HD2.out).mono ?_
  rintro e w3 ⟨rfl, hD, hc⟩
  have hM : (begM1 room).set 3 ⟨((begM1 room).f 3).b, ((begM1 room).f 3).b.size⟩ = begM2 room := by
    show (begM1 room).set 3 ⟨⟨#[]⟩ ++ textAB, (⟨#[]⟩ ++ textAB : ByteArray).size⟩ = (begM1 room).set 3 ⟨textAB, 2⟩
    rw [nil_ab]; rfl
  rw [hM] at hD
  have HD3 := Lib.hid hD
  have HB3 : Hid (Below w.heap.size w w3) := HB2.out.trans ((hc.mono (T := footD w.heap.size v2) (fun k hk => .inl (.inl hk))).below HF2.out HB2.out.size)
  clear hD hc HD2 HB2 hM
  go_wp2_with fail
  refine (append_fits _ _ _ 3 textC _ (by decide) HD3.out HO2.out (by decide) (by show ((1 : Nat) : Int) ≤ room - ((2 : Nat) : Int); omega)).mono ?_
  rintro e w4 ⟨rfl, v4, hD, hc, hf⟩
  have HD4 : Hid (DiskAt w4 w.heap.size v4 (begM room)) := hD
  have HB4 : Hid (Below w.heap.size w w4) := HB3.out.trans (hc.below HF2.out HB3.out.size)
  have HF4 := Lib.hid (foot_fresh HF2.out hf HB3.out.size)
  clear hD hc hf HD3 HB3 HF2
  go_wp2_with fail
  refine (read_any _ _ _ 3 _ (by decide) HD4.out).mono ?_
  rintro e w5 ⟨rfl, rfl⟩
  go_wp2_with fail
  refine (size_any _ _ _ 3 _ (by decide) HD4.out).mono ?_
  rintro e w6 ⟨rfl, m, rfl⟩
  have q1 : ((begM room).f 3).b = textABC := ab_c
  have q2 : ((begM room).f 3).safe = 2 := rfl
  have HQ := Lib.hid q1
  have t1 : (textABC.toList == [97, 98, 99]) = true := by decide +kernel
  have t2 : textABC.size = 3 := by decide +kernel
  rw [q1, q2]
  clear q1 q2 HQ
  go_wp2_with fail
  have hu3 : (begM room).used = 3 := by rw [begM_eq]; rfl
  refine (used_any _ _ _ _ (HD4.out.drewN m) (by rw [hu3]; decide)).mono ?_
  rintro e w7 ⟨rfl, hb⟩
  have HD7 := Lib.hid ((HD4.out.drewN m).keep hb)
  have HB7 : Hid (Below w.heap.size w w7) := below_step (below_drewN HB4.out m) hb
  rw [hu3]
  clear hb HD4 HB4 hu3
  go_wp2_with fail
  refine (room_any _ room _ (HD7.out.at_.cell 8)).mono ?_
  rintro e w8 ⟨rfl, rfl⟩
  go_wp2_with fail
  go_ret
  exact ⟨_, v4, rfl, HD7.out, HF4.out, HB7.out⟩
end Go.Proofs.Ytjlpgjfgeikdeaa
