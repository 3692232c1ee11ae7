/- The document's pool. -/
import Derived.Test.YtmkbehdfchjeoaaPA
import Derived.Deep.RegionLaw
namespace Go.Proofs.Ytmkbehdfchjeoaa
open Go.RowKit Go.ChangeShapes Go.WideShapes Go.ChangeAt
theorem qnew_ok (room : Int) (w0 w : World) (F : List HP) (hS : Sat w0 w F) (h1 : 1 ≤ room) (h2 : room ≤ 200) : Calls Try.prog 25 #[.int .i64 room] w fun e w' => e = .returned (.tuple #[.pointer (some ⟨w.heap.size, 0, none⟩), .int .i64 0]) ∧ Sat w0 w' (PoolC w.heap.size 87 room [] :: F) := by
  go_enter Try.func25, Try.ntmps25
  go_wp2
  go_ret2
  exact ⟨rfl, Sat.closeP rfl ((hS.nilRow 9 1).new _ _)⟩
theorem qnew_no (room : Int) (w : World) (h : ¬ (1 ≤ room ∧ room ≤ 200)) : Calls Try.prog 25 #[.int .i64 room] w fun e w' => e = .returned (.tuple #[.pointer none, .int .i64 1]) ∧ w' = w := by
  by_cases h1 : 1 ≤ room
  · have h2 : ¬ room ≤ 200 := fun h2 => h ⟨h1, h2⟩
    go_enter Try.func25, Try.ntmps25
    go_wp2
    go_ret2
    exact ⟨rfl, rfl⟩
  · go_enter Try.func25, Try.ntmps25
    go_wp2
    go_ret2
    exact ⟨rfl, rfl⟩
theorem qlen_any (g : Nat) (room : Int) (L : List ByteArray) (w0 w : World) (F : List HP) (hS : Sat w0 w (PoolC g 87 room L :: F)) : Calls Try.prog 30 #[.pointer (some ⟨g, 0, none⟩)] w fun e w' => e = .returned (.int .i64 L.length) ∧ w' = w := by
  obtain ⟨A, c, hS⟩ := hS.openP
  have c1 := hS.blk.cell 1
  go_enter Try.func30, Try.ntmps30
  go_wp2
  go_ret
  exact ⟨rfl, rfl⟩
theorem qall_any (g : Nat) (room : Int) (L : List ByteArray) (w0 w : World) (F : List HP) (hS : Sat w0 w (PoolC g 87 room L :: F)) (hm : L.length ≤ 1000000) :
    Calls Try.prog 29 #[.pointer (some ⟨g, 0, none⟩)] w fun e w' => ∃ A' c', e = .returned (.slice A' L.length c') ∧ Sat w0 w' (Row 9 1 A' L.length c' (strs L) :: PoolC g 87 room L :: F) := by
  obtain ⟨A, c, hS⟩ := hS.openP
  obtain ⟨i, hi, hz, hsz, hby⟩ := info_parts info9
  have c1 := hS.blk.cell 1
  have h4 : 0 + L.length ≤ maxLen := by unfold maxLen; omega
  have h5 : (0 + L.length) * 16 ≤ 140737488355328 := by omega
  go_enter Try.func29, Try.ntmps29
  go_wp2_with (at_builtin; refine wpList_appS rfl (.tmp 4) (.tmp 8) 22 rfl 9 i (.string ⟨#[]⟩) 1 16 Try.underlying22 hi hz hsz hby rfl (by decide) rfl (hS.nilRow 9 1) rfl hS.r2.rd (strs_one L) h4 h5 ?_; intro A' c' w' hS2; clear c1)
  go_ret
  rw [Nat.zero_add, List.nil_append] at hS2
  exact ⟨A', c', rfl, (Sat.closeP rfl (hS2.b3)).r2⟩
theorem qsend_long (g : Nat) (s : ByteArray) (w : World) (h : 2000 < s.size) :
    Calls Try.prog 44 #[.pointer (some ⟨g, 0, none⟩), .string s] w fun e w' => e = .returned (.int .i64 2) ∧ w' = w := by
  go_enter Try.func44, Try.ntmps44
  go_wp2
  go_ret
  exact ⟨rfl, rfl⟩
theorem qsend_full (g : Nat) (room : Int) (L : List ByteArray) (s : ByteArray) (w0 w : World) (F : List HP) (hS : Sat w0 w (PoolC g 87 room L :: F)) (h : ¬ 2000 < s.size) (h2 : room ≤ L.length) :
    Calls Try.prog 44 #[.pointer (some ⟨g, 0, none⟩), .string s] w fun e w' => e = .returned (.int .i64 90) ∧ ∃ m, w' = w.drewN m := by
  obtain ⟨A, c, hS⟩ := hS.openP
  have c0 := hS.blk.cell 0
  have c1 := hS.blk.cell 1
  have t : decide (room ≤ (L.length : Int)) = true := decide_eq_true h2
  go_enter Try.func44, Try.ntmps44
  go_wp2
  go_quiet (fail)
  go_wp2
  go_ret
  exact ⟨rfl, _, rfl⟩
theorem qsend_ok (g : Nat) (room : Int) (L : List ByteArray) (s : ByteArray) (w0 w : World) (F : List HP) (hS : Sat w0 w (PoolC g 87 room L :: F)) (h : ¬ 2000 < s.size) (h2 : L.length < room) (h3 : room ≤ 200) :
    Calls Try.prog 44 #[.pointer (some ⟨g, 0, none⟩), .string s] w fun e w' => e = .returned (.int .i64 0) ∧ Sat w0 w' (PoolC g 87 room (L ++ [s]) :: F) := by
  obtain ⟨A, c, hS⟩ := hS.openP
  obtain ⟨i, hi, hz, hsz, hby⟩ := info_parts info9
  have c0 := hS.blk.cell 0
  have c1 := hS.blk.cell 1
  have t : decide (room ≤ (L.length : Int)) = false := decide_eq_false (by omega)
  have h4 : L.length + 1 ≤ maxLen := by unfold maxLen; omega
  have h5 : (L.length + 1) * 16 ≤ 140737488355328 := by omega
  go_enter Try.func44, Try.ntmps44
  go_wp2
  go_quiet (fail)
  go_wp2_with (at_builtin; refine wpList_app1 rfl (.tmp 22) (.tmp 24) 22 rfl 9 i (.string ⟨#[]⟩) 1 16 Try.underlying22 hi hz hsz hby rfl (by decide) rfl ((hS.drewN _).r2.new #[.string s] 9) (by rfl) rfl (strs_one [s]) h4 h5 ?_; intro A' c' w' hS2; have c1 := hS2.r2.blk.cell 1; have f1 := hS2.r2.blk.free 1; clear c0)
  go_ret
  exact ⟨rfl, Sat.closeP (n := L.length + 1) (A := A') (c := c') (by simp) (by simpa [strs] using hS2.r2.set 1 (.slice A' (L.length + 1) c'))⟩
theorem qdouble_none (g : Nat) (room : Int) (L : List ByteArray) (k : Int) (w0 w : World) (F : List HP) (hS : Sat w0 w (PoolC g 87 room L :: F)) (h : ¬ (0 ≤ k ∧ k < L.length)) :
    Calls Try.prog 46 #[.pointer (some ⟨g, 0, none⟩), .int .i64 k] w fun e w' => e = .returned (.int .i64 91) ∧ w' = w := by
  obtain ⟨A, c, hS⟩ := hS.openP
  have c1 := hS.blk.cell 1
  by_cases h0 : 0 ≤ k
  · have h1 : ¬ k < (L.length : Int) := fun h1 => h ⟨h0, h1⟩
    clear h
    go_enter Try.func46, Try.ntmps46
    go_wp2
    go_ret
    exact ⟨rfl, rfl⟩
  · clear h
    go_enter Try.func46, Try.ntmps46
    go_wp2
    go_ret
    exact ⟨rfl, rfl⟩
theorem qdouble_full (g : Nat) (room : Int) (L : List ByteArray) (k : Nat) (w0 w : World) (F : List HP) (hS : Sat w0 w (PoolC g 87 room L :: F)) (h : k < L.length) (hm : L.length ≤ 200) (h2 : room ≤ L.length) :
    Calls Try.prog 46 #[.pointer (some ⟨g, 0, none⟩), .int .i64 k] w fun e w' => e = .returned (.int .i64 90) ∧ ∃ m, w' = w.drewN m := by
  obtain ⟨A, c, hS⟩ := hS.openP
  have c0 := hS.blk.cell 0
  have c1 := hS.blk.cell 1
  have t : decide (room ≤ (L.length : Int)) = true := decide_eq_true h2
  go_enter Try.func46, Try.ntmps46
  go_wp2
  go_quiet (fail)
  go_wp2
  go_ret
  exact ⟨rfl, _, rfl⟩
theorem qdouble_ok (g : Nat) (room : Int) (L : List ByteArray) (k : Nat) (w0 w : World) (F : List HP) (hS : Sat w0 w (PoolC g 87 room L :: F)) (h : k < L.length) (hm : L.length < room) (h3 : room ≤ 200) :
    Calls Try.prog 46 #[.pointer (some ⟨g, 0, none⟩), .int .i64 k] w fun e w' => e = .returned (.int .i64 0) ∧ Sat w0 w' (PoolC g 87 room (L ++ [L[k]]) :: F) := by
  obtain ⟨A, c, hS⟩ := hS.openP
  obtain ⟨i, hi, hz, hsz, hby⟩ := info_parts info9
  obtain ⟨b, rfl, hc, _⟩ := hS.r2.rowCell (by intro e; rw [strs, List.map_eq_nil_iff] at e; subst e; simp at h)
  have d := hc k (by rw [strs_len]; exact h)
  rw [strs, List.getElem?_map, List.getElem?_eq_getElem h, Option.map_some] at d
  clear hc
  have c0 := hS.blk.cell 0
  have c1 := hS.blk.cell 1
  have t : decide (room ≤ (L.length : Int)) = false := decide_eq_false (by omega)
  have h4 : L.length + 1 ≤ maxLen := by unfold maxLen; omega
  have h5 : (L.length + 1) * 16 ≤ 140737488355328 := by omega
  go_enter Try.func46, Try.ntmps46
  go_wp2
  go_quiet (fail)
  have c1a : ∀ n, ((w.drewN n).alloc (.cells #[.string L[k]] 9)).cell? ⟨g, 1, none⟩ = some (.slice (some ⟨b, 0, none⟩) L.length c) := fun n => ((hS.drewN n).blk.alloc _).cell 1
  go_wp2
  go_region_law ((refine step_app1 rfl (.tmp 30) (.tmp 38) 22 (by rfl) 9 i (.string ⟨#[]⟩) 1 16 Try.underlying22 hi hz hsz hby rfl (by decide) (by rfl) (((hS.drewN _).drewN 1).r2.new #[.string L[k]] 9) (by rfl) (by rfl) (strs_one [L[k]]) h4 h5 ?_; intro A' c' w' hS2; have c1 := hS2.r2.blk.cell 1; have f1 := hS2.r2.blk.free 1))
  all_goals
    go_wp2
    go_ret
    exact ⟨rfl, Sat.closeP (n := L.length + 1) (A := A') (c := c') (by simp) (by simpa [strs] using hS2.r2.set 1 (.slice A' (L.length + 1) c'))⟩
end Go.Proofs.Ytmkbehdfchjeoaa
