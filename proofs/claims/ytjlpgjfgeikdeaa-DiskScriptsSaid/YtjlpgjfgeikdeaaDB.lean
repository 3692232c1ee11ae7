/- The room in use. -/
import Derived.Test.YtjlpgjfgeikdeaaDA
set_option linter.unusedVariables false
set_option linter.unusedSimpArgs false
set_option linter.unnecessarySimpa false
namespace Go.Proofs.Ytjlpgjfgeikdeaa
open Go.RowKit Go.ChangeShapes Go.WideShapes Go.ChangeAt
/-- the bytes of the first files -/
def MD.pre (M : MD) : Nat → Nat
  | 0 => 0
  | 1 => (M.f 0).b.size
  | 2 => (M.f 0).b.size + (M.f 1).b.size
  | 3 => (M.f 0).b.size + (M.f 1).b.size + (M.f 2).b.size
  | _ => (M.f 0).b.size + (M.f 1).b.size + (M.f 2).b.size + (M.f 3).b.size
theorem DiskAt.slice {w : World} {d : Nat} {v : Nat → Value} {M : MD} (h : DiskAt w d v M) (i : Nat) (hi : i < 4) : ∃ A c, v i = .slice A (M.f i).b.size c := (h.row i hi).slice
theorem wpList_index61 {ops : Array Oper} {rest : List Oper} {o : Oper} {a : Act} {w : World} {Q : Exit → Act → World → Prop} (hgd : o.guard = none) (x i : Operand)
    (ho : o.op = .index 62 x i) (cs : Array Value) (hx : a.eval x = .agg cs) (k : Nat) (hi : a.eval i = .int .i64 (k : Int)) (hk : k < 4)
    (h : wpList Try.prog ops Q rest (a.put o.dst (.agg (cs.extract (k * 2) (k * 2 + 2)))) w) : wpList Try.prog ops Q (o :: rest) a w := by
  refine wpList_plain hgd fun K hK => ?_
  have hu : Try.prog.underlying 62 = some (.array 4 61) := Try.underlying62
  obtain ⟨ti, hti, hs⟩ : ∃ ti, Try.prog.info? 61 = some ti ∧ ti.size = 2 := ⟨_, rfl, by kernel_rfl⟩
  have hr : (Instr.index 62 (.agg cs) (.int .i64 k)).run Try.prog w = .ok (.agg (cs.extract (k * 2) (k * 2 + 2))) w := by
    unfold Instr.index
    simp [run_underlying hu, sizeOf, typeInfo, hti, hs, asIntOf, part, hk]
  unfold Oper.wp execOp
  simp only [ho, resolve, Sem.run_bind, Sem.run_pure, Result.andThen_ok, hx, hi, hr]
  exact hK _ _ h
set_option maxRecDepth 100000 in
theorem used_any (d : Nat) (v : Nat → Value) (M : MD) (w : World) (hD : DiskAt w d v M) (hu : M.used ≤ 1048576) :
    Calls Try.prog 20 #[.pointer (some ⟨d, 0, none⟩)] w fun e w' => e = .returned (.int .i64 M.used) ∧ Below w.heap.size w w' := by
  obtain ⟨A0, c0, e0⟩ := hD.slice 0 (by decide)
  obtain ⟨A1, c1, e1⟩ := hD.slice 1 (by decide)
  obtain ⟨A2, c2, e2⟩ := hD.slice 2 (by decide)
  obtain ⟨A3, c3, e3⟩ := hD.slice 3 (by decide)
  have HD := Lib.hid hD.at_
  unfold cellsD at HD
  rw [e0, e1, e2, e3] at HD
  have m0 := HD.out.cell 0
  have m1 := HD.out.cell 1
  have m2 := HD.out.cell 2
  have m3 := HD.out.cell 3
  have m4 := HD.out.cell 4
  have m5 := HD.out.cell 5
  have m6 := HD.out.cell 6
  have m7 := HD.out.cell 7
  unfold MD.used at hu
  clear hD e0 e1 e2 e3 HD
  obtain ⟨b0, hb0⟩ : ∃ x, x = (M.f 0).b.size := ⟨_, rfl⟩
  obtain ⟨b1, hb1⟩ : ∃ x, x = (M.f 1).b.size := ⟨_, rfl⟩
  obtain ⟨b2, hb2⟩ : ∃ x, x = (M.f 2).b.size := ⟨_, rfl⟩
  obtain ⟨b3, hb3⟩ : ∃ x, x = (M.f 3).b.size := ⟨_, rfl⟩
  have HU : Hid (M.used = b0 + b1 + b2 + b3) := by show _ = _; unfold MD.used; rw [hb0, hb1, hb2, hb3]
  have HP : Hid (M.pre 0 = 0 ∧ M.pre 1 = b0 ∧ M.pre 2 = b0 + b1 ∧ M.pre 3 = b0 + b1 + b2 ∧ M.pre 4 = b0 + b1 + b2 + b3) := by
    show _ ∧ _; unfold MD.pre; rw [hb0, hb1, hb2, hb3]; exact ⟨rfl, rfl, rfl, rfl, rfl⟩
  rw [← hb0] at m0 hu
  rw [← hb1] at m2 hu
  rw [← hb2] at m4 hu
  rw [← hb3] at m6 hu
  clear hb0 hb1 hb2 hb3
  generalize ((M.f 0).safe : Int) = s0 at *
  generalize ((M.f 1).safe : Int) = s1 at *
  generalize ((M.f 2).safe : Int) = s2 at *
  generalize ((M.f 3).safe : Int) = s3 at *
  go_enter Try.func20, Try.ntmps20
  go_wp2
  clear m0 m1 m2 m3 m4 m5 m6 m7
  go_loopw [3, 10] (fun n i wr => ∃ k : Nat, k ≤ 4 ∧ i = .int .i64 k ∧ n = .int .i64 (M.pre k) ∧ Below w.heap.size w wr) (fun _ i _ => 4 - (intOf i).toNat)
  case atStart => exact ⟨0, by omega, rfl, rfl, Below.refl _ _⟩
  case round =>
    obtain ⟨k, hk, rfl, rfl, hb⟩ := hrel
    have HB := Lib.hid hb
    clear hb
    have hcase : k = 0 ∨ k = 1 ∨ k = 2 ∨ k = 3 ∨ k = 4 := by omega
    rcases hcase with rfl | rfl | rfl | rfl | rfl
    · rw [HP.out.1]
      go_wp2_with (refine wpList_index61 rfl _ _ rfl _ rfl 0 rfl (by decide) ?_)
      go_roundw
      case rel => exact ⟨1, by omega, by go_num, by rw [HP.out.2.1];  try go_num, HB.out.alloc HB.out.size _⟩
      case measure => simp [intOf]
    · rw [HP.out.2.1]
      have sw : IntKind.i64.wrap ((b0 : Int) + b1) = b0 + b1 := IntWalk.i64_in _ (by omega)
      go_wp2_with (refine wpList_index61 rfl _ _ rfl _ rfl 1 rfl (by decide) ?_)
      go_roundw
      case rel => exact ⟨2, by omega, by go_num, by rw [HP.out.2.2.1];  try go_num, HB.out.alloc HB.out.size _⟩
      case measure => simp [intOf]
    · rw [HP.out.2.2.1]
      have sw : IntKind.i64.wrap ((b0 : Int) + b1 + b2) = b0 + b1 + b2 := IntWalk.i64_in _ (by omega)
      go_wp2_with (refine wpList_index61 rfl _ _ rfl _ rfl 2 rfl (by decide) ?_)
      go_roundw
      case rel => exact ⟨3, by omega, by go_num, by rw [HP.out.2.2.2.1];  try go_num, HB.out.alloc HB.out.size _⟩
      case measure => simp [intOf]
    · rw [HP.out.2.2.2.1]
      have sw : IntKind.i64.wrap ((b0 : Int) + b1 + b2 + b3) = b0 + b1 + b2 + b3 := IntWalk.i64_in _ (by omega)
      go_wp2_with (refine wpList_index61 rfl _ _ rfl _ rfl 3 rfl (by decide) ?_)
      go_roundw
      case rel => exact ⟨4, by omega, by go_num, by rw [HP.out.2.2.2.2];  try go_num, HB.out.alloc HB.out.size _⟩
      case measure => simp [intOf]
    · rw [HP.out.2.2.2.2]
      go_wp2
      go_ret
      exact ⟨by rw [HU.out]; rfl, HB.out⟩
set_option maxRecDepth 100000 in
theorem rused_any (d : Nat) (M : MD) (w : World) (hD : At w d 69 (cellsR M)) (hu : M.used ≤ 1048576) :
    Calls Try.prog 27 #[.pointer (some ⟨d, 0, none⟩)] w fun e w' => e = .returned (.int .i64 M.used) ∧ ∃ n, w' = w.drewN n := by
  have HD := Lib.hid hD
  unfold cellsR at HD
  have m0 := HD.out.cell 0
  have m2 := HD.out.cell 2
  have m4 := HD.out.cell 4
  have m6 := HD.out.cell 6
  unfold MD.used at hu
  clear hD HD
  obtain ⟨b0, hb0⟩ : ∃ x, x = (M.f 0).b := ⟨_, rfl⟩
  obtain ⟨b1, hb1⟩ : ∃ x, x = (M.f 1).b := ⟨_, rfl⟩
  obtain ⟨b2, hb2⟩ : ∃ x, x = (M.f 2).b := ⟨_, rfl⟩
  obtain ⟨b3, hb3⟩ : ∃ x, x = (M.f 3).b := ⟨_, rfl⟩
  have HU : Hid (M.used = b0.size + b1.size + b2.size + b3.size) := by show _ = _; unfold MD.used; rw [hb0, hb1, hb2, hb3]
  have HP : Hid (M.pre 0 = 0 ∧ M.pre 1 = b0.size ∧ M.pre 2 = b0.size + b1.size ∧ M.pre 3 = b0.size + b1.size + b2.size ∧ M.pre 4 = b0.size + b1.size + b2.size + b3.size) := by
    show _ ∧ _; unfold MD.pre; rw [hb0, hb1, hb2, hb3]; exact ⟨rfl, rfl, rfl, rfl, rfl⟩
  rw [← hb0] at m0 hu
  rw [← hb1] at m2 hu
  rw [← hb2] at m4 hu
  rw [← hb3] at m6 hu
  clear hb0 hb1 hb2 hb3
  go_enter Try.func27, Try.ntmps27
  go_wp2
  go_loopw [3, 4] (fun n i wr => ∃ k : Nat, k ≤ 4 ∧ i = .int .i64 k ∧ n = .int .i64 (M.pre k) ∧ ∃ m, wr = w.drewN m) (fun _ i _ => 4 - (intOf i).toNat)
  case atStart => exact ⟨0, by omega, rfl, rfl, 0, rfl⟩
  case round =>
    obtain ⟨k, hk, rfl, rfl, m, rfl⟩ := hrel
    have hcase : k = 0 ∨ k = 1 ∨ k = 2 ∨ k = 3 ∨ k = 4 := by omega
    rcases hcase with rfl | rfl | rfl | rfl | rfl
    · rw [HP.out.1]
      go_wp2
      go_roundw
      case rel => exact ⟨1, by omega, by go_num, by rw [HP.out.2.1];  try go_num, _, rfl⟩
      case measure => simp [intOf]
    · rw [HP.out.2.1]
      have sw : IntKind.i64.wrap ((b0.size : Int) + b1.size) = b0.size + b1.size := IntWalk.i64_in _ (by omega)
      go_wp2
      go_roundw
      case rel => exact ⟨2, by omega, by go_num, by rw [HP.out.2.2.1];  try go_num, _, rfl⟩
      case measure => simp [intOf]
    · rw [HP.out.2.2.1]
      have sw : IntKind.i64.wrap ((b0.size : Int) + b1.size + b2.size) = b0.size + b1.size + b2.size := IntWalk.i64_in _ (by omega)
      go_wp2
      go_roundw
      case rel => exact ⟨3, by omega, by go_num, by rw [HP.out.2.2.2.1];  try go_num, _, rfl⟩
      case measure => simp [intOf]
    · rw [HP.out.2.2.2.1]
      have sw : IntKind.i64.wrap ((b0.size : Int) + b1.size + b2.size + b3.size) = b0.size + b1.size + b2.size + b3.size := IntWalk.i64_in _ (by omega)
      go_wp2
      go_roundw
      case rel => exact ⟨4, by omega, by go_num, by rw [HP.out.2.2.2.2];  try go_num, _, rfl⟩
      case measure => simp [intOf]
    · rw [HP.out.2.2.2.2]
      go_wp2
      go_ret
      exact ⟨by rw [HU.out]; rfl, _, rfl⟩
end Go.Proofs.Ytjlpgjfgeikdeaa
