/- What the functions of package pool do: New, Len, put, at, Send, Double. -/
import Derived.Test.YtmkbehdfchjeoaaSL
namespace Go.Proofs.Ytmkbehdfchjeoaa
open Go.RowKit Go.ChangeShapes Go.WideShapes Go.ChangeAt
/-- texts as cells -/
def strs (L : List ByteArray) : List Value := L.map Value.string
theorem strs_len (L : List ByteArray) : (strs L).length = L.length := by simp [strs]
theorem strs_one (L : List ByteArray) : ∀ u ∈ strs L, u.oneCell' = true := by
  intro u hu
  obtain ⟨x, _, rfl⟩ := List.mem_map.1 hu
  rfl
/-- a pool in a block -/
def PoolC (g T : Nat) (room : Int) (L : List ByteArray) : HP := ex fun x : Option Addr × Nat => sep [Blk g T [.int .i64 room, .slice x.1 L.length x.2], Row 9 1 x.1 L.length x.2 (strs L)]
theorem Sat.openP {w0 w : World} {F : List HP} {g T : Nat} {room : Int} {L : List ByteArray} (h : Sat w0 w (PoolC g T room L :: F)) :
    ∃ A c, Sat w0 w (Blk g T [.int .i64 room, .slice A L.length c] :: Row 9 1 A L.length c (strs L) :: F) := by
  obtain ⟨⟨A, c⟩, h⟩ := h.open_ex
  exact ⟨A, c, h.open_⟩
theorem Sat.closeP {w0 w : World} {F : List HP} {g T : Nat} {room : Int} {L : List ByteArray} {A : Option Addr} {c n : Nat} (hn : n = L.length) (h : Sat w0 w (Blk g T [.int .i64 room, .slice A n c] :: Row 9 1 A n c (strs L) :: F)) :
    Sat w0 w (PoolC g T room L :: F) := by
  subst hn
  exact Sat.close_ex (A, c) h.close2
theorem info9 : (Try.prog.info? 9).map (fun i => (i.zero, i.size, i.bytes)) = some (some (.string ⟨#[]⟩), 1, 16) := by kernel_rfl
theorem pnew_ok (room : Int) (w0 w : World) (F : List HP) (hS : Sat w0 w F) (h1 : 1 ≤ room) (h2 : room ≤ 200) : Calls Try.prog 11 #[.int .i64 room] w fun e w' => e = .returned (.tuple #[.pointer (some ⟨w.heap.size, 0, none⟩), .int .i64 0]) ∧ Sat w0 w' (PoolC w.heap.size 70 room [] :: F) := by
  go_enter Try.func11, Try.ntmps11
  go_wp2
  go_ret2
  exact ⟨rfl, Sat.closeP rfl ((hS.nilRow 9 1).new _ _)⟩
theorem pnew_no (room : Int) (w : World) (h : ¬ (1 ≤ room ∧ room ≤ 200)) : Calls Try.prog 11 #[.int .i64 room] w fun e w' => e = .returned (.tuple #[.pointer none, .int .i64 1]) ∧ w' = w := by
  by_cases h1 : 1 ≤ room
  · have h2 : ¬ room ≤ 200 := fun h2 => h ⟨h1, h2⟩
    go_enter Try.func11, Try.ntmps11
    go_wp2
    go_ret2
    exact ⟨rfl, rfl⟩
  · go_enter Try.func11, Try.ntmps11
    go_wp2
    go_ret2
    exact ⟨rfl, rfl⟩
theorem plen_any (g : Nat) (room : Int) (L : List ByteArray) (w0 w : World) (F : List HP) (hS : Sat w0 w (PoolC g 70 room L :: F)) : Calls Try.prog 15 #[.pointer (some ⟨g, 0, none⟩)] w fun e w' => e = .returned (.int .i64 L.length) ∧ w' = w := by
  obtain ⟨A, c, hS⟩ := hS.openP
  have c1 := hS.blk.cell 1
  go_enter Try.func15, Try.ntmps15
  go_wp2
  go_ret
  exact ⟨rfl, rfl⟩
theorem put_no (g : Nat) (room : Int) (L : List ByteArray) (s : ByteArray) (w0 w : World) (F : List HP) (hS : Sat w0 w (PoolC g 70 room L :: F)) (h : room ≤ L.length) :
    Calls Try.prog 33 #[.pointer (some ⟨g, 0, none⟩), .string s] w fun e w' => e = .returned (.bool false) ∧ ∃ m, w' = w.drewN m := by
  obtain ⟨A, c, hS⟩ := hS.openP
  have c0 := hS.blk.cell 0
  have c1 := hS.blk.cell 1
  have t : decide (room ≤ (L.length : Int)) = true := decide_eq_true h
  go_enter Try.func33, Try.ntmps33
  go_wp2
  go_quiet (fail)
  go_wp2
  go_ret
  exact ⟨rfl, _, rfl⟩
theorem put_ok (g : Nat) (room : Int) (L : List ByteArray) (s : ByteArray) (w0 w : World) (F : List HP) (hS : Sat w0 w (PoolC g 70 room L :: F)) (h : L.length < room) (h2 : room ≤ 200) :
    Calls Try.prog 33 #[.pointer (some ⟨g, 0, none⟩), .string s] w fun e w' => e = .returned (.bool true) ∧ Sat w0 w' (PoolC g 70 room (L ++ [s]) :: F) := by
  obtain ⟨A, c, hS⟩ := hS.openP
  obtain ⟨i, hi, hz, hsz, hby⟩ := info_parts info9
  have c0 := hS.blk.cell 0
  have c1 := hS.blk.cell 1
  have t : decide (room ≤ (L.length : Int)) = false := decide_eq_false (by omega)
  have h4 : L.length + 1 ≤ maxLen := by unfold maxLen; omega
  have h5 : (L.length + 1) * 16 ≤ 140737488355328 := by omega
  go_enter Try.func33, Try.ntmps33
  go_wp2
  go_quiet (fail)
  go_wp2_with (at_builtin; refine wpList_app1 rfl (.tmp 19) (.tmp 21) 22 rfl 9 i (.string ⟨#[]⟩) 1 16 Try.underlying22 hi hz hsz hby rfl (by decide) rfl ((hS.drewN _).r2.new #[.string s] 9) (by rfl) rfl (strs_one [s]) h4 h5 ?_; intro A' c' w' hS2; have c1 := hS2.r2.blk.cell 1; have f1 := hS2.r2.blk.free 1; clear c0)
  go_ret
  exact ⟨rfl, Sat.closeP (n := L.length + 1) (A := A') (c := c') (by simp) (by simpa [strs] using hS2.r2.set 1 (.slice A' (L.length + 1) c'))⟩
theorem at_ok (g : Nat) (room : Int) (L : List ByteArray) (k : Nat) (w0 w : World) (F : List HP) (hS : Sat w0 w (PoolC g 70 room L :: F)) (h : k < L.length) (hm : L.length ≤ 200) :
    Calls Try.prog 34 #[.pointer (some ⟨g, 0, none⟩), .int .i64 k] w fun e w' => e = .returned (.tuple #[.string L[k], .bool true]) ∧ w' = w := by
  obtain ⟨A, c, hS⟩ := hS.openP
  have c1 := hS.blk.cell 1
  obtain ⟨b, rfl, hc, _⟩ := hS.r2.rowCell (by intro e; rw [strs, List.map_eq_nil_iff] at e; subst e; simp at h)
  have d := hc k (by rw [strs_len]; exact h)
  rw [strs, List.getElem?_map, List.getElem?_eq_getElem h, Option.map_some] at d
  clear hc
  go_enter Try.func34, Try.ntmps34
  go_wp2
  go_ret2
  exact ⟨rfl, rfl⟩
theorem at_no (g : Nat) (room : Int) (L : List ByteArray) (k : Int) (w0 w : World) (F : List HP) (hS : Sat w0 w (PoolC g 70 room L :: F)) (h : ¬ (0 ≤ k ∧ k < L.length)) :
    Calls Try.prog 34 #[.pointer (some ⟨g, 0, none⟩), .int .i64 k] w fun e w' => e = .returned (.tuple #[.string ⟨#[]⟩, .bool false]) ∧ w' = w := by
  obtain ⟨A, c, hS⟩ := hS.openP
  have c1 := hS.blk.cell 1
  by_cases h0 : 0 ≤ k
  · have h1 : ¬ k < (L.length : Int) := fun h1 => h ⟨h0, h1⟩
    clear h
    go_enter Try.func34, Try.ntmps34
    go_wp2
    go_ret2
    exact ⟨rfl, rfl⟩
  · clear h
    go_enter Try.func34, Try.ntmps34
    go_wp2
    go_ret2
    exact ⟨rfl, rfl⟩
theorem send_long (g : Nat) (s : ByteArray) (w : World) (h : 2000 < s.size) :
    Calls Try.prog 13 #[.pointer (some ⟨g, 0, none⟩), .string s] w fun e w' => e = .returned (.int .i64 2) ∧ w' = w := by
  go_enter Try.func13, Try.ntmps13
  go_wp2
  go_ret
  exact ⟨rfl, rfl⟩
theorem send_full (g : Nat) (room : Int) (L : List ByteArray) (s : ByteArray) (w0 w : World) (F : List HP) (hS : Sat w0 w (PoolC g 70 room L :: F)) (h : ¬ 2000 < s.size) (h2 : room ≤ L.length) :
    Calls Try.prog 13 #[.pointer (some ⟨g, 0, none⟩), .string s] w fun e w' => e = .returned (.int .i64 90) ∧ ∃ m, w' = w.drewN m := by
  go_enter Try.func13, Try.ntmps13
  go_wp2_with (go_at_call 33; refine (put_no g room L s w0 _ F hS h2).mono ?_; rintro e w' ⟨rfl, m, rfl⟩)
  go_ret
  exact ⟨rfl, _, rfl⟩
theorem send_ok (g : Nat) (room : Int) (L : List ByteArray) (s : ByteArray) (w0 w : World) (F : List HP) (hS : Sat w0 w (PoolC g 70 room L :: F)) (h : ¬ 2000 < s.size) (h2 : L.length < room) (h3 : room ≤ 200) :
    Calls Try.prog 13 #[.pointer (some ⟨g, 0, none⟩), .string s] w fun e w' => e = .returned (.int .i64 0) ∧ Sat w0 w' (PoolC g 70 room (L ++ [s]) :: F) := by
  go_enter Try.func13, Try.ntmps13
  go_wp2_with (go_at_call 33; refine (put_ok g room L s w0 _ F hS h2 h3).mono ?_; rintro e w' ⟨rfl, hS2⟩)
  go_ret
  exact ⟨rfl, hS2⟩
theorem double_none (g : Nat) (room : Int) (L : List ByteArray) (k : Int) (w0 w : World) (F : List HP) (hS : Sat w0 w (PoolC g 70 room L :: F)) (h : ¬ (0 ≤ k ∧ k < L.length)) :
    Calls Try.prog 31 #[.pointer (some ⟨g, 0, none⟩), .int .i64 k] w fun e w' => e = .returned (.int .i64 91) ∧ w' = w := by
  go_enter Try.func31, Try.ntmps31
  go_wp2_with (go_at_call 34; refine (at_no g room L k w0 _ F hS h).mono ?_; rintro e w' ⟨rfl, rfl⟩)
  go_ret
  exact ⟨rfl, rfl⟩
theorem double_full (g : Nat) (room : Int) (L : List ByteArray) (k : Nat) (w0 w : World) (F : List HP) (hS : Sat w0 w (PoolC g 70 room L :: F)) (h : k < L.length) (hm : L.length ≤ 200) (h2 : room ≤ L.length) :
    Calls Try.prog 31 #[.pointer (some ⟨g, 0, none⟩), .int .i64 k] w fun e w' => e = .returned (.int .i64 90) ∧ ∃ m, w' = w.drewN m := by
  go_enter Try.func31, Try.ntmps31
  go_wp2_with (first | (go_at_call 34; refine (at_ok g room L k w0 _ F hS h hm).mono ?_; rintro e w' ⟨rfl, rfl⟩) | (go_at_call 33; refine (put_no g room L L[k] w0 _ F hS h2).mono ?_; rintro e w' ⟨rfl, m, rfl⟩))
  go_ret
  exact ⟨rfl, _, rfl⟩
theorem double_ok (g : Nat) (room : Int) (L : List ByteArray) (k : Nat) (w0 w : World) (F : List HP) (hS : Sat w0 w (PoolC g 70 room L :: F)) (h : k < L.length) (hm : L.length < room) (h3 : room ≤ 200) :
    Calls Try.prog 31 #[.pointer (some ⟨g, 0, none⟩), .int .i64 k] w fun e w' => e = .returned (.int .i64 0) ∧ Sat w0 w' (PoolC g 70 room (L ++ [L[k]]) :: F) := by
  have hm2 : L.length ≤ 200 := by omega
  go_enter Try.func31, Try.ntmps31
  go_wp2_with (first | (go_at_call 34; refine (at_ok g room L k w0 _ F hS h hm2).mono ?_; rintro e w' ⟨rfl, rfl⟩) | (go_at_call 33; refine (put_ok g room L L[k] w0 _ F hS hm h3).mono ?_; rintro e w' ⟨rfl, hS2⟩))
  go_ret
  exact ⟨rfl, hS2⟩
end Go.Proofs.Ytmkbehdfchjeoaa
