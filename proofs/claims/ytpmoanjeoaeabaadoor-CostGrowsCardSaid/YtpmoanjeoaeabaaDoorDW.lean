/- Some answers of the costs (live); CostRooms. -/
import Derived.Test.YtpmoanjeoaeabaaDoorDV
import Derived.Test.YtpmoanjeoaeabaaDoorDQ
set_option linter.unusedVariables false
set_option linter.unusedSimpArgs false
set_option linter.unnecessarySimpa false
set_option maxRecDepth 100000
namespace Go.Proofs.YtpmoanjeoaeabaaDoor
open Go.RowKit Go.ChangeShapes Go.WideShapes Go.ChangeAt
attribute [local go_sem] eqArr9
def ldS : St := ⟨⟨#[98]⟩, 1, 1, [], [], none, 0, none, 0⟩
def ldD (sb : Nat) : Df := ⟨⟨#[97]⟩, [ldS], some ⟨sb, 0, none⟩, 1⟩
theorem ld_at {w : World} {sb : Nat} (hs : At w sb 35 ldS.vs) : DefAt w (ldD sb) := by
  refine ⟨?_, fun s hm => ?_, by show 1 ≤ 9223372036854775807; decide⟩
  · have h : At w sb 35 ([ldS.vs].flatten) := by simpa using hs
    exact elems_blk (c := 1) (L := [ldS.vs]) h (by simp [St.vs]) (Nat.le_refl 1) (by unfold maxLen; omega)
  · have e : s = ldS := by simpa [ldD] using hm
    subst e
    exact ⟨elems_nil w 1, elems_nil w 1, by show wf64 1; unfold wf64; decide, by show wf64 1; unfold wf64; decide, fun n hn => absurd hn (List.not_mem_nil), by show 1 ≤ 9223372036854775807; decide, fun k hk => absurd hk (List.not_mem_nil)⟩
theorem ld_fits (sb : Nat) : Fits (ldD sb) := by
  have hm : ∀ s ∈ (ldD sb).steps, s = ldS := fun s h => by simpa [ldD] using h
  refine ⟨by show 1 ≤ _; decide, fun s h => ?_, fun s h k hk => ?_, fun s h => ?_, fun s h => ?_, by show 1 * 80 ≤ _; decide⟩
  · rw [hm s h]; show 1 ≤ _; decide
  · rw [hm s h] at hk; exact absurd hk (List.not_mem_nil)
  · rw [hm s h]; exact Nat.zero_le _
  · rw [hm s h]; exact Nat.zero_le _
theorem ld_good (sb : Nat) : checkN (ldD sb) = (-1, 0) := by
  have hb : ∀ j, j < (ldD sb).steps.length → badB (ldD sb) j = false := fun j hj => by
    have e : j = 0 := by have : j < 1 := hj; omega
    subst e
    have e1 : nameAt (ldD sb) 0 = ⟨#[98]⟩ := rfl
    have e2 : twiceB (ldD sb) 0 = false := decide_eq_false (by rintro ⟨k, hk, _⟩; exact absurd hk (Nat.not_lt_zero _))
    have e3 : kindAt (ldD sb) 0 = 1 := rfl
    have e4 : partAt (ldD sb) 0 = 1 := rfl
    have e5 : keysAt (ldD sb) 0 = [] := rfl
    have e6 : needsAt (ldD sb) 0 = [] := rfl
    refine decide_eq_false (fun g => g ?_)
    unfold aloneE
    rw [e1, isN_b, e2, e3, e4, e5, e6]
    have e7 : keysB [] 1 = true := decide_eq_true ⟨Nat.zero_le _, fun k hk => absurd hk (Nat.not_lt_zero _)⟩
    have e8 : needsB [] 0 (ldD sb).steps.length = true := decide_eq_true fun k hk => absurd hk (Nat.not_lt_zero _)
    rw [e7, e8, if_neg (by decide), if_neg (by decide), if_neg (by decide), if_neg (by decide), if_neg (by decide), if_neg (by decide)]
  rw [check_all (d := ldD sb) isN_a ⟨Nat.le_refl 1, by show 1 ≤ 8; decide⟩ hb]
  have hj0 : ∀ j, j < (ldD sb).steps.length → j = 0 := fun j hj => by have : j < 1 := hj; omega
  refine tog_ok (fun j hj => ?_) (fun j hj => ?_) (fun j hj => ?_) (fun j hj => ?_)
  · rw [hj0 j hj]; rfl
  · rw [hj0 j hj]
    exact decide_eq_false (by rintro ⟨_, m, hm, _⟩; cases hm)
  · rw [hj0 j hj]; rfl
  · rw [hj0 j hj]
    exact loose_no fun h => absurd h (by show ¬ (1 : Int) = 3; decide)
theorem ld_cost (sb : Nat) : costN (ldD sb) = .tuple #[.agg #[.int .i64 7, .int .i64 0, .int .i64 3, .int .i64 0, .int .i64 0], .int .i64 0] := by
  unfold costN
  rw [if_pos (by rw [ld_good])]
  rfl
theorem ld_named (sb : Nat) : namesN (ldD sb) = [1] := by
  rw [namesN_ok (by rw [ld_good])]
  rfl
set_option maxHeartbeats 3200000 in
theorem live13_any (w : World) (hT : Lib.Utf8Tabs 0 1 w) : Calls Tryd.prog 21 #[] w (Quietly w (.bool true)) := by
  have h1 := (Sat.start w).new #[.string ⟨#[98]⟩, .int .i64 1, .int .i64 1, .slice none 0 0, .slice none 0 0] 35
  obtain ⟨a, ha⟩ : ∃ a, w.heap.size = a := ⟨_, rfl⟩
  have hs1 : (w.alloc (.cells #[.string ⟨#[98]⟩, .int .i64 1, .int .i64 1, .slice none 0 0, .slice none 0 0] 35)).heap.size = w.heap.size + 1 := by simp
  have h2 := h1.new #[.string ⟨#[97]⟩, .slice (some ⟨a, 0, none⟩) 1 1] 24
  rw [hs1, ha] at h2
  have H2 : Hid (Sat w _ [Blk (a + 1) 24 [.string ⟨#[97]⟩, .slice (some ⟨a, 0, none⟩) 1 1], Blk a 35 ldS.vs, Old w]) := h2
  have C16 : Hid (∀ w1 F, Sat w w1 (Blk a 35 ldS.vs :: F) → Old w ∈ F → Calls Tryd.prog 16 #[.agg #[.string ⟨#[97]⟩, .slice (some ⟨a, 0, none⟩) 1 1]] w1 fun e w' => e = .returned (.tuple #[.agg #[.int .i64 7, .int .i64 0, .int .i64 3, .int .i64 0, .int .i64 0], .int .i64 0]) ∧ Below w1.heap.size w1 w') := fun w1 F hS hm => by
    have h := of_any (ldD a) (ld_at hS.blk) (ld_fits a) (tabs_keep hT (hS.old (List.mem_cons_of_mem _ hm)))
    rw [ld_cost] at h
    exact h
  have C18 : Hid (∀ w1 F, Sat w w1 (Blk a 35 ldS.vs :: F) → Old w ∈ F → Calls Tryd.prog 18 #[.agg #[.string ⟨#[97]⟩, .slice (some ⟨a, 0, none⟩) 1 1]] w1 fun e w' => ∃ (g c : Nat), e = .returned (.slice (some ⟨g, 0, none⟩) 1 c) ∧ w'.cell? ⟨g, 0, none⟩ = some (.int .i64 1) ∧ Sat w w' (Blk a 35 ldS.vs :: F)) := fun w1 F hS hm => by
    have h := named_any (ldD a) (ld_at hS.blk) (ld_fits a) (tabs_keep hT (hS.old (List.mem_cons_of_mem _ hm))) hS
    rw [ld_named] at h
    refine h.mono fun e w' ⟨A, c, he, hs⟩ => ?_
    obtain ⟨g, rfl, hc, _⟩ := hs.rowCell (by simp [intV])
    exact ⟨g, c, he, hc 0 (by simp [intV]), hs.tail⟩
  have C22 : Hid (∀ w1, Calls Tryd.prog 22 #[.int .i64 4, .int .i64 10] w1 fun e w' => e = .returned (.tuple #[.int .i64 65680, .int .i64 0]) ∧ w' = w1) := fun w1 => by
    have h := room_any 4 10 w1 (by unfold wf64; decide) (by unfold wf64; decide)
    rw [show roomN 4 10 = 65680 by decide, show roomE 4 10 = 0 by decide] at h
    exact h
  clear h1 h2 hT hs1
  unfold Quietly
  go_enter Tryd.func21, Tryd.ntmps21
  go_wp2_with fail
  try simp only [ha]
  refine (C16.out _ _ H2.out.r2 (by simp)).mono ?_
  rintro e w1 ⟨rfl, hb1⟩
  obtain ⟨q, hq⟩ : ∃ q, w1.heap.size = q := ⟨_, rfl⟩
  have h3 := (H2.out.below hb1).new #[.int .i64 7, .int .i64 0, .int .i64 3, .int .i64 0, .int .i64 0] 40
  rw [hq] at h3
  have H3 := Lib.hid h3
  clear h3 hb1 H2
  go_wp2_with fail
  try simp only [hq]
  refine (C22.out _).mono ?_
  rintro e w2 ⟨rfl, rfl⟩
  have c0 := H3.out.r2.blk.cell 0
  have c1 := H3.out.r2.blk.cell 1
  go_wp2_with fail
  refine (C18.out _ _ H3.out.r3 (by simp)).mono ?_
  rintro e w3 ⟨g, c, rfl, x0, h4⟩
  have H4 : Hid (Sat w w3 [Blk a 35 ldS.vs, Blk q 40 [.int .i64 7, .int .i64 0, .int .i64 3, .int .i64 0, .int .i64 0], Blk (a + 1) 24 [.string ⟨#[97]⟩, .slice (some ⟨a, 0, none⟩) 1 1], Old w]) := h4
  have y0 := H4.out.r2.blk.cell 0
  have y1 := H4.out.r2.blk.cell 1
  have y2 := H4.out.r2.blk.cell 2
  have y3 := H4.out.r2.blk.cell 3
  have y4 := H4.out.r2.blk.cell 4
  clear h4 H3 c0 c1
  go_wp2_with fail
  go_ret
  exact ⟨rfl, by have h9 := H4.out.old (by simp); first | exact h9 | (rw [ha] at h9; exact h9)⟩
set_option maxHeartbeats 3200000 in
theorem costRooms_any (node units : Int) (w : World) (h1 : wf64 node) (h2 : wf64 units) (hT : Lib.Utf8Tabs 0 1 w) : Calls Tryd.prog 7 #[.int .i64 node, .int .i64 units] w (Quietly w (.bool true)) := by
  have C22 : Hid (∀ w1, Calls Tryd.prog 22 #[.int .i64 node, .int .i64 units] w1 fun e w' => e = .returned (.tuple #[.int .i64 (roomN node units), .int .i64 (roomE node units)]) ∧ w' = w1) := fun w1 => room_any node units w1 h1 h2
  have C23 : Hid (∀ w1, Calls Tryd.prog 23 #[.int .i64 node, .int .i64 units] w1 fun e w' => e = .returned (.tuple #[.int .i64 (roomN node units), .int .i64 (roomE node units)]) ∧ w' = w1) := fun w1 => rroom_any node units w1 h1 h2
  have C21 := Lib.hid (live13_any w hT)
  obtain ⟨x, hx⟩ : ∃ x, roomN node units = x := ⟨_, rfl⟩
  obtain ⟨y, hy⟩ : ∃ x, roomE node units = x := ⟨_, rfl⟩
  rw [hx, hy] at C22 C23
  unfold Quietly at C21 ⊢
  clear hT h1 h2 hx hy
  go_enter Tryd.func7, Tryd.ntmps7
  go_wp2_with fail
  refine (C22.out _).mono ?_
  rintro e w1 ⟨rfl, rfl⟩
  go_wp2_with fail
  refine (C23.out _).mono ?_
  rintro e w2 ⟨rfl, rfl⟩
  go_wp2_with fail
  refine C21.out.mono ?_
  rintro e w3 ⟨rfl, hb⟩
  go_wp2_with fail
  go_ret
  exact ⟨rfl, hb⟩
theorem costRooms_walk (a0 a1 : Int) (w : World) (hT : Lib.Utf8Tabs 0 1 w) (h0 : (Lit.int .i64 a0).wf = true) (h1 : (Lit.int .i64 a1).wf = true) : Calls Tryd.prog 7 #[.int .i64 a0, .int .i64 a1] w fun e w' => e = .returned (.bool true) ∧ Below w.heap.size w w' := costRooms_any a0 a1 w (wf64_of h0) (wf64_of h1) hT
end Go.Proofs.YtpmoanjeoaeabaaDoor
