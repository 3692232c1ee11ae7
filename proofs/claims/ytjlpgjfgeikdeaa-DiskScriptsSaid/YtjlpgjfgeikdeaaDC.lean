/- Read, Size, Sync of the program's disk. -/
import Derived.Test.YtjlpgjfgeikdeaaDB
import Derived.Laws.BytesArg
set_option linter.unusedVariables false
set_option linter.unusedSimpArgs false
set_option linter.unnecessarySimpa false
namespace Go.Proofs.Ytjlpgjfgeikdeaa
open Go.RowKit Go.ChangeShapes Go.WideShapes Go.ChangeAt
open Go.Lib (strCells strCells_length)
theorem conv_row {w : World} {v : Value} {b : ByteArray} (h : BRow w v b) : (convert 59 9 v).run Try.prog w = .ok (.string b) w := by
  have ht : Try.prog.underlying 59 = some (.slice 5) := Try.underlying59
  have h5 : Try.prog.underlying 5 = some (.int .u8) := Try.underlying5
  have h9 : Try.prog.underlying 9 = some .string := Try.underlying9
  rcases h with ⟨rfl, hb⟩ | ⟨g, cap, cur, rfl, hg, hnc, hcm, hcs, htake⟩
  · rw [run_convert_bytes_nil w 59 5 ht h5 0 0 9 h9]
    have : b = ByteArray.empty := ByteArray.size_eq_zero_iff.1 hb
    rw [this]
  · have e := run_convert_bytes_arg (P := Try.prog) w 59 5 ht h5 g 0 b.size cap (b.data.toList.map fun x => (x.toNat : Int)) (by rw [List.length_map, Array.length_toList]; rfl) (fun i hi => by
      rw [Nat.zero_add, cell_of_row w g i cur 5 (0, 0) hg]
      have hi' : i < b.data.toList.length := by rw [Array.length_toList]; exact hi
      have h1 : (strCells b)[i]? = some (.int .u8 (b.data.toList[i].toNat : Int)) := by
        unfold strCells
        rw [List.getElem?_map, List.getElem?_eq_getElem hi']; rfl
      rw [← htake, List.getElem?_take, if_pos hi] at h1
      rw [← Array.getElem?_toList, h1]
      simp [List.getD, List.getElem?_eq_getElem hi']) 9 h9
    rw [e]
    congr 2
    unfold strOfNums
    rw [List.map_map]
    have : (fun n : Int => UInt8.ofNat n.toNat) ∘ (fun x : UInt8 => (x.toNat : Int)) = id := by funext x; simp
    rw [this]
    simp
theorem wpList_conv {ops : Array Oper} {rest : List Oper} {o : Oper} {a : Act} {w : World} {Q : Exit → Act → World → Prop} (hgd : o.guard = none) (x : Operand)
    (ho : o.op = .convert 59 9 x) (v : Value) (hx : a.eval x = v) (b : ByteArray) (hb : BRow w v b)
    (h : wpList Try.prog ops Q rest (a.put o.dst (.string b)) w) : wpList Try.prog ops Q (o :: rest) a w := by
  refine wpList_plain hgd fun K hK => ?_
  have hr := conv_row hb
  unfold Oper.wp execOp
  simp only [ho, resolve, Sem.run_bind, Sem.run_pure, Result.andThen_ok, hx, hr]
  exact hK _ _ h
theorem cellsD_row (v : Nat → Value) (M : MD) (n : Nat) (h : n < 4) : (cellsD v M)[n * 2]? = some (v n) := by
  have : n = 0 ∨ n = 1 ∨ n = 2 ∨ n = 3 := by omega
  rcases this with rfl | rfl | rfl | rfl <;> rfl
theorem cellsD_safe (v : Nat → Value) (M : MD) (n : Nat) (h : n < 4) : (cellsD v M)[n * 2 + 1]? = some (.int .i64 (M.f n).safe) := by
  have : n = 0 ∨ n = 1 ∨ n = 2 ∨ n = 3 := by omega
  rcases this with rfl | rfl | rfl | rfl <;> rfl
theorem cellsR_row (M : MD) (n : Nat) (h : n < 4) : (cellsR M)[n * 2]? = some (.string (M.f n).b) := by
  have : n = 0 ∨ n = 1 ∨ n = 2 ∨ n = 3 := by omega
  rcases this with rfl | rfl | rfl | rfl <;> rfl
theorem cellsR_safe (M : MD) (n : Nat) (h : n < 4) : (cellsR M)[n * 2 + 1]? = some (.int .i64 (M.f n).safe) := by
  have : n = 0 ∨ n = 1 ∨ n = 2 ∨ n = 3 := by omega
  rcases this with rfl | rfl | rfl | rfl <;> rfl
theorem isB_nat {n : Int} (h : isB n = true) : ∃ m : Nat, m < 4 ∧ n = (m : Int) := by
  simp [isB] at h
  exact ⟨n.toNat, by omega, by omega⟩
theorem read_any (d : Nat) (v : Nat → Value) (M : MD) (n : Nat) (w : World) (hn : n < 4) (hD : DiskAt w d v M) :
    Calls Try.prog 18 #[.pointer (some ⟨d, 0, none⟩), .int .i64 n] w fun e w' => e = .returned (.tuple #[.string (M.f n).b, .int .i64 0]) ∧ w' = w := by
  have m0 := hD.at_.cell (n * 2)
  rw [cellsD_row v M n hn] at m0
  have HR := Lib.hid (hD.row n hn)
  clear hD
  go_enter Try.func18, Try.ntmps18
  go_wp2_with fail
  refine (of_any d n _ hn).mono ?_
  rintro e w1 ⟨rfl, rfl⟩
  go_wp2_with (refine wpList_conv rfl _ rfl _ rfl _ HR.out ?_)
  go_ret2
  exact ⟨rfl, rfl⟩
theorem read_none (d : Nat) (n : Int) (w : World) (hn : isB n = false) :
    Calls Try.prog 18 #[.pointer (some ⟨d, 0, none⟩), .int .i64 n] w fun e w' => e = .returned (.tuple #[.string ⟨#[]⟩, .int .i64 40]) ∧ w' = w := by
  go_enter Try.func18, Try.ntmps18
  go_wp2_with fail
  refine (of_none d n _ hn).mono ?_
  rintro e w1 ⟨rfl, rfl⟩
  go_wp2_with fail
  go_ret2
  exact ⟨rfl, rfl⟩
theorem size_any (d : Nat) (v : Nat → Value) (M : MD) (n : Nat) (w : World) (hn : n < 4) (hD : DiskAt w d v M) :
    Calls Try.prog 26 #[.pointer (some ⟨d, 0, none⟩), .int .i64 n] w fun e w' => e = .returned (.tuple #[.int .i64 (M.f n).b.size, .int .i64 (M.f n).safe, .int .i64 0]) ∧ ∃ m, w' = w.drewN m := by
  have m0 := hD.at_.cell (n * 2)
  have m1 := hD.at_.cell (n * 2 + 1)
  rw [cellsD_row v M n hn] at m0
  rw [cellsD_safe v M n hn] at m1
  obtain ⟨A, c, hv⟩ := hD.slice n hn
  rw [hv] at m0
  clear hD hv
  go_enter Try.func26, Try.ntmps26
  go_wp2_with fail
  refine (of_any d n _ hn).mono ?_
  rintro e w1 ⟨rfl, rfl⟩
  go_wp2_with fail
  go_quiet (fail)
  go_wp2
  go_ret3
  exact ⟨rfl, _, rfl⟩
theorem size_none (d : Nat) (n : Int) (w : World) (hn : isB n = false) :
    Calls Try.prog 26 #[.pointer (some ⟨d, 0, none⟩), .int .i64 n] w fun e w' => e = .returned (.tuple #[.int .i64 0, .int .i64 0, .int .i64 40]) ∧ w' = w := by
  go_enter Try.func26, Try.ntmps26
  go_wp2_with fail
  refine (of_none d n _ hn).mono ?_
  rintro e w1 ⟨rfl, rfl⟩
  go_wp2_with fail
  go_ret3
  exact ⟨rfl, rfl⟩
/-- a disk with one file another -/
def MD.set (M : MD) (n : Nat) (x : MF) : MD := ⟨fun i => if i = n then x else M.f i, M.room⟩
def upd (v : Nat → Value) (n : Nat) (x : Value) : Nat → Value := fun i => if i = n then x else v i
theorem cellsD_set_safe (v : Nat → Value) (M : MD) (n : Nat) (h : n < 4) (s : Nat) : (cellsD v M).set (n * 2 + 1) (.int .i64 s) = cellsD v (M.set n ⟨(M.f n).b, s⟩) := by
  have : n = 0 ∨ n = 1 ∨ n = 2 ∨ n = 3 := by omega
  rcases this with rfl | rfl | rfl | rfl <;> simp [cellsD, MD.set]
theorem cellsD_set_row (v : Nat → Value) (M : MD) (n : Nat) (h : n < 4) (x : Value) (b : ByteArray) : (cellsD v M).set (n * 2) x = cellsD (upd v n x) (M.set n ⟨b, (M.f n).safe⟩) := by
  have : n = 0 ∨ n = 1 ∨ n = 2 ∨ n = 3 := by omega
  rcases this with rfl | rfl | rfl | rfl <;> simp [cellsD, MD.set, upd]
theorem DiskAt.setSafe {w : World} {d : Nat} {v : Nat → Value} {M : MD} (h : DiskAt w d v M) (n : Nat) (hn : n < 4) (s : Nat) :
    DiskAt (w.setCell ⟨d, n * 2 + 1, none⟩ (.int .i64 s)) d v (M.set n ⟨(M.f n).b, s⟩) := by
  refine ⟨?_, fun i hi => ?_, h.off, h.two⟩
  · rw [← cellsD_set_safe v M n hn s]; exact h.at_.set _ _
  · have e : ((M.set n ⟨(M.f n).b, s⟩).f i).b = (M.f i).b := by
      unfold MD.set; simp only; split
      · rename_i h; rw [h]
      · rfl
    rw [e]
    exact (h.row i hi).kept fun k hk => Below.heap_setCell w ⟨d, n * 2 + 1, none⟩ _ k (h.off i hi k hk)
theorem sync_any (d : Nat) (v : Nat → Value) (M : MD) (n : Nat) (w : World) (hn : n < 4) (hD : DiskAt w d v M) :
    Calls Try.prog 17 #[.pointer (some ⟨d, 0, none⟩), .int .i64 n] w fun e w' => e = .returned (.int .i64 0) ∧ DiskAt w' d v (M.set n ⟨(M.f n).b, (M.f n).b.size⟩) ∧ ChgS (fun k => k = d) w w' := by
  have m0 := hD.at_.cell (n * 2)
  have m1 := hD.at_.cell (n * 2 + 1)
  have f1 := hD.at_.free (n * 2 + 1)
  rw [cellsD_row v M n hn] at m0
  rw [cellsD_safe v M n hn] at m1
  obtain ⟨A, c, hv⟩ := hD.slice n hn
  rw [hv] at m0
  have HD := Lib.hid (hD.setSafe n hn (M.f n).b.size)
  clear hD hv
  go_enter Try.func17, Try.ntmps17
  go_wp2_with fail
  refine (of_any d n _ hn).mono ?_
  rintro e w1 ⟨rfl, rfl⟩
  go_wp2_with fail
  go_ret
  exact ⟨rfl, HD.out, ChgS.set (S := fun k => k = d) (p := ⟨d, n * 2 + 1, none⟩) (ChgS.refl _ _) (.inl rfl) _⟩
theorem sync_none (d : Nat) (n : Int) (w : World) (hn : isB n = false) :
    Calls Try.prog 17 #[.pointer (some ⟨d, 0, none⟩), .int .i64 n] w fun e w' => e = .returned (.int .i64 40) ∧ w' = w := by
  go_enter Try.func17, Try.ntmps17
  go_wp2_with fail
  refine (of_none d n _ hn).mono ?_
  rintro e w1 ⟨rfl, rfl⟩
  go_wp2_with fail
  go_ret
  exact ⟨rfl, rfl⟩
end Go.Proofs.Ytjlpgjfgeikdeaa
