/- What a disk is, in the program and in the document; the small functions of package disk. -/
import Derived.Test.YtjlpgjfgeikdeaaRow
set_option linter.unusedVariables false
set_option linter.unusedSimpArgs false
set_option linter.unnecessarySimpa false
namespace Go.Proofs.Ytjlpgjfgeikdeaa
open Go.RowKit Go.ChangeShapes Go.WideShapes Go.ChangeAt
/-- a file: its bytes, how many of them are safe -/
structure MF where
  b : ByteArray
  safe : Nat
/-- a disk: its files, its room -/
structure MD where
  f : Nat → MF
  room : Int
def tail4 (a b c d : MF) : Nat := a.b.size + b.b.size + c.b.size + d.b.size
def MD.used (M : MD) : Nat := (M.f 0).b.size + (M.f 1).b.size + (M.f 2).b.size + (M.f 3).b.size
/-- what every disk that New made keeps -/
def MD.Ok (M : MD) : Prop := 1 ≤ M.room ∧ M.room ≤ 1048576 ∧ (M.used : Int) ≤ M.room ∧ ∀ i, i < 4 → (M.f i).safe ≤ (M.f i).b.size
def freshM (room : Int) : MD := ⟨fun _ => ⟨⟨#[]⟩, 0⟩, room⟩
/-- the cells of a disk whose files' rows are v -/
def cellsD (v : Nat → Value) (M : MD) : List Value := [v 0, .int .i64 (M.f 0).safe, v 1, .int .i64 (M.f 1).safe, v 2, .int .i64 (M.f 2).safe, v 3, .int .i64 (M.f 3).safe, .int .i64 M.room]
def cellsR (M : MD) : List Value := [.string (M.f 0).b, .int .i64 (M.f 0).safe, .string (M.f 1).b, .int .i64 (M.f 1).safe, .string (M.f 2).b, .int .i64 (M.f 2).safe, .string (M.f 3).b, .int .i64 (M.f 3).safe, .int .i64 M.room]
/-- the program's disk -/
structure DiskAt (w : World) (d : Nat) (v : Nat → Value) (M : MD) : Prop where
  at_ : At w d 64 (cellsD v M)
  row : ∀ i, i < 4 → BRow w (v i) (M.f i).b
  off : ∀ i, i < 4 → ∀ k, (v i).ownBlock = some k → k ≠ d
  two : ∀ i j, i < 4 → j < 4 → i ≠ j → ∀ k, (v i).ownBlock = some k → (v j).ownBlock ≠ some k
/-- the blocks that a disk owns -/
def footD (d : Nat) (v : Nat → Value) (k : Nat) : Prop := k = d ∨ ∃ i, i < 4 ∧ (v i).ownBlock = some k
theorem DiskAt.lt {w : World} {d : Nat} {v : Nat → Value} {M : MD} (h : DiskAt w d v M) : ∀ k, footD d v k → k < w.heap.size := by
  rintro k (rfl | ⟨i, hi, hk⟩)
  · exact h.at_.lt
  · exact (h.row i hi).lt k hk
theorem DiskAt.chg {S : Nat → Prop} {w w' : World} {d : Nat} {v : Nat → Value} {M : MD} (h : DiskAt w d v M) (c : ChgS S w w') (hS : ∀ k, footD d v k → ¬ S k) : DiskAt w' d v M :=
  ⟨c.at_ h.at_ (hS d (.inl rfl)), fun i hi => (h.row i hi).chg c fun k hk => hS k (.inr ⟨i, hi, hk⟩), h.off, h.two⟩
theorem DiskAt.keep {w w' : World} {d : Nat} {v : Nat → Value} {M : MD} (h : DiskAt w d v M) (hb : Below w.heap.size w w') : DiskAt w' d v M := h.chg (S := fun _ => False) (.of_below hb) fun _ _ h => h
theorem DiskAt.drewN {w : World} {d : Nat} {v : Nat → Value} {M : MD} (h : DiskAt w d v M) (m : Nat) : DiskAt (w.drewN m) d v M := ⟨h.at_.drewN m, h.row, h.off, h.two⟩
theorem DiskAt.alloc {w : World} {d : Nat} {v : Nat → Value} {M : MD} (h : DiskAt w d v M) (o : Obj) : DiskAt (w.alloc o) d v M := h.keep ((Below.refl _ _).alloc (Nat.le_refl _) o)
theorem new_any (room : Int) (w : World) (h : 1 ≤ room) (h2 : room ≤ 1048576) : Calls Try.prog 9 #[.int .i64 room] w fun e w' => e = .returned (.tuple #[.pointer (some ⟨w.heap.size, 0, none⟩), .int .i64 0]) ∧ DiskAt w' w.heap.size (fun _ => .slice none 0 0) (freshM room) ∧ Below w.heap.size w w' := by
  go_enter Try.func9, Try.ntmps9
  go_wp2
  go_ret2
  refine ⟨rfl, ⟨At.new w 64 _, fun i _ => .inl ⟨rfl, rfl⟩, ?_, ?_⟩, (Below.refl _ _).alloc (Nat.le_refl _) _⟩
  · intro i _ k hk; simp [Value.ownBlock] at hk
  · intro i j _ _ _ k hk; simp [Value.ownBlock] at hk
theorem new_none (room : Int) (w : World) (h : ¬ (1 ≤ room ∧ room ≤ 1048576)) : Calls Try.prog 9 #[.int .i64 room] w fun e w' => e = .returned (.tuple #[.pointer none, .int .i64 1]) ∧ w' = w := by
  by_cases h1 : 1 ≤ room
  · have h2 : ¬ room ≤ 1048576 := fun h2 => h ⟨h1, h2⟩
    go_enter Try.func9, Try.ntmps9
    go_wp2
    go_ret2
    exact ⟨rfl, rfl⟩
  · go_enter Try.func9, Try.ntmps9
    go_wp2
    go_ret2
    exact ⟨rfl, rfl⟩
theorem rnew_any (room : Int) (w : World) (h : 1 ≤ room) (h2 : room ≤ 1048576) : Calls Try.prog 10 #[.int .i64 room] w fun e w' => e = .returned (.tuple #[.pointer (some ⟨w.heap.size, 0, none⟩), .int .i64 0]) ∧ At w' w.heap.size 69 (cellsR (freshM room)) ∧ Below w.heap.size w w' := by
  go_enter Try.func10, Try.ntmps10
  go_wp2
  go_ret2
  exact ⟨rfl, At.new w 69 _, (Below.refl _ _).alloc (Nat.le_refl _) _⟩
theorem rnew_none (room : Int) (w : World) (h : ¬ (1 ≤ room ∧ room ≤ 1048576)) : Calls Try.prog 10 #[.int .i64 room] w fun e w' => e = .returned (.tuple #[.pointer none, .int .i64 1]) ∧ w' = w := by
  by_cases h1 : 1 ≤ room
  · have h2 : ¬ room ≤ 1048576 := fun h2 => h ⟨h1, h2⟩
    go_enter Try.func10, Try.ntmps10
    go_wp2
    go_ret2
    exact ⟨rfl, rfl⟩
  · go_enter Try.func10, Try.ntmps10
    go_wp2
    go_ret2
    exact ⟨rfl, rfl⟩
theorem room_any (d : Nat) (r : Int) (w : World) (hc : w.cell? ⟨d, 8, none⟩ = some (.int .i64 r)) : Calls Try.prog 21 #[.pointer (some ⟨d, 0, none⟩)] w fun e w' => e = .returned (.int .i64 r) ∧ w' = w := by
  go_enter Try.func21, Try.ntmps21
  go_wp2
  go_ret
  exact ⟨rfl, rfl⟩
theorem rroom_any (d : Nat) (r : Int) (w : World) (hc : w.cell? ⟨d, 8, none⟩ = some (.int .i64 r)) : Calls Try.prog 28 #[.pointer (some ⟨d, 0, none⟩)] w fun e w' => e = .returned (.int .i64 r) ∧ w' = w := by
  go_enter Try.func28, Try.ntmps28
  go_wp2
  go_ret
  exact ⟨rfl, rfl⟩
/-- is there a file of that number? -/
def isB (n : Int) : Bool := decide (0 ≤ n) && decide (n < 4)
theorem is_any (n : Int) (w : World) : Calls Try.prog 37 #[.int .i64 n] w fun e w' => e = .returned (.bool (isB n)) ∧ w' = w := by
  by_cases h : 0 ≤ n
  · by_cases h2 : n < 4
    · have HE : Hid (isB n = true) := by show _ = _; simp [isB, h, h2]
      go_enter Try.func37, Try.ntmps37
      go_wp2
      go_ret
      exact ⟨by rw [HE.out]; rfl, rfl⟩
    · have HE : Hid (isB n = false) := by show _ = _; simp [isB, h2]
      go_enter Try.func37, Try.ntmps37
      go_wp2
      go_ret
      exact ⟨by rw [HE.out]; rfl, rfl⟩
  · have HE : Hid (isB n = false) := by show _ = _; simp [isB, h]
    go_enter Try.func37, Try.ntmps37
    go_wp2
    go_ret
    exact ⟨by rw [HE.out]; rfl, rfl⟩
theorem of_any (d n : Nat) (w : World) (h : n < 4) : Calls Try.prog 32 #[.pointer (some ⟨d, 0, none⟩), .int .i64 n] w fun e w' => e = .returned (.pointer (some ⟨d, n * 2, none⟩)) ∧ w' = w := by
  go_enter Try.func32, Try.ntmps32
  go_wp2
  go_ret
  exact ⟨rfl, rfl⟩
theorem of_none (d : Nat) (n : Int) (w : World) (h : isB n = false) : Calls Try.prog 32 #[.pointer (some ⟨d, 0, none⟩), .int .i64 n] w fun e w' => e = .returned (.pointer none) ∧ w' = w := by
  by_cases h1 : 0 ≤ n
  · have h2 : ¬ n < 4 := fun h2 => by simp [isB, h1, h2] at h
    clear h
    go_enter Try.func32, Try.ntmps32
    go_wp2
    go_ret
    exact ⟨rfl, rfl⟩
  · clear h
    go_enter Try.func32, Try.ntmps32
    go_wp2
    go_ret
    exact ⟨rfl, rfl⟩
end Go.Proofs.Ytjlpgjfgeikdeaa
