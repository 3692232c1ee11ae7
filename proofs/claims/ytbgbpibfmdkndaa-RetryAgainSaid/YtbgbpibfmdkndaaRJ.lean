/- The program's Retry: New, Begin, Moved, Stop. -/
import Derived.Test.YtbgbpibfmdkndaaRI
set_option linter.unusedVariables false
set_option linter.unusedSimpArgs false
set_option linter.unnecessarySimpa false
set_option maxRecDepth 100000
namespace Go.Proofs.Ytbgbpibfmdkndaa
open Go.RowKit Go.ChangeShapes Go.WideShapes Go.ChangeAt
section
variable {w w0 : World} {F : List HP} {A : Option Addr} {c : Nat} {t : List Int} {dl : Int} {r : Nat} {L K : List Tm} {M : List Ent}
theorem own_form {P : Program} {w : World} {base : Nat} {E sz n : Nat} {v : Value} {xs : List Value} (h : w.ownsRow base E sz v n xs) : ∃ B d, v = .slice B n d := by
  obtain ⟨_, ho⟩ := h
  rcases ho with ⟨e, _, rfl⟩ | ⟨g', cap', cur', e, _⟩
  · exact ⟨none, 0, e⟩
  · exact ⟨_, _, e⟩
theorem clone_any (hT : NsAt w A t) (h1 : 1 ≤ t.length) (h8 : t.length ≤ 8) (hS : Sat w0 w F) :
    Calls Try.prog 27 #[.slice A t.length c] w fun e w' => ∃ B d, e = .returned (.slice B t.length d) ∧ Sat w0 w' (Row 3 1 B t.length d (nums t) :: F) := by
  obtain ⟨b, o, rfl, hc⟩ := hT.resolve_left (by rintro rfl; simp at h1)
  refine (Try.slices_Clone_int b o t.length c t w (Nat.le_refl _) (by omega) hc).mono ?_
  rintro e w' ⟨v, rfl, ho, _, hbw⟩
  rw [List.take_length] at ho
  obtain ⟨B, d, rfl⟩ := own_form (P := Try.prog) ho
  exact ⟨B, d, rfl, hS.rowNew hbw ho⟩
set_option maxHeartbeats 1600000 in
theorem new_bad (hT : NsAt w A t) (hc : newC t dl ≠ 0) (hS : Sat w0 w F) :
    Calls Try.prog 8 #[.slice A t.length c, .int .i64 dl] w fun e w' => e = .returned (.tuple #[.pointer none, .int .i64 (newC t dl)]) ∧ Sat w0 w' F := by
  obtain ⟨tb, htb⟩ : ∃ b, w.heap.size = b := ⟨_, rfl⟩
  have h0 := hS.new #[.slice A t.length c] 22
  rw [htb] at h0
  obtain ⟨W0, hW0⟩ : ∃ X, X = w.alloc (.cells #[.slice A t.length c] 22) := ⟨_, rfl⟩
  have HC := Lib.hid (may_any (w := W0) (c := c) (by rw [hW0]; exact hT.keep ((Below.refl _ _).alloc (Nat.le_refl _) _)))
  rw [← hW0] at h0
  have c0 : W0.cell? ⟨tb, 0, none⟩ = some (.slice A t.length c) := h0.blk.cell 0
  have HS := Lib.hid h0
  have HW := Lib.hid hW0
  clear h0 hS hW0 hT
  cases hm : mayB t with
  | false =>
    have HE : Hid (newC t dl = 200) := by show _ = _; unfold newC; rw [hm]; rfl
    rw [HE.out]
    rw [hm] at HC
    clear hc hm
    go_enter Try.func8, Try.ntmps8
    go_wp2_with fail
    rw [← HW.out]
    refine HC.out.mono ?_
    rintro e w1 ⟨rfl, q, rfl⟩
    go_wp2_with fail
    go_ret2
    exact ⟨rfl, HS.out.tail.drewN q⟩
  | true =>
    have hd : ¬ (1 ≤ dl ∧ dl ≤ 1073741824) := fun h => hc (by unfold newC; rw [hm, if_pos rfl, if_pos h])
    have HE : Hid (newC t dl = 1) := by show _ = _; unfold newC; rw [hm, if_pos rfl, if_neg hd]
    rw [HE.out]
    rw [hm] at HC
    clear hc hm
    by_cases h1 : dl < 1
    · have t1 : decide (dl < 1) = true := decide_eq_true h1
      go_enter Try.func8, Try.ntmps8
      go_wp2_with fail
      rw [← HW.out]
      refine HC.out.mono ?_
      rintro e w1 ⟨rfl, q, rfl⟩
      go_wp2_with fail
      go_ret2
      exact ⟨rfl, HS.out.tail.drewN q⟩
    · have t1 : decide (dl < 1) = false := decide_eq_false h1
      have t2 : decide (1073741824 < dl) = true := decide_eq_true (by omega)
      go_enter Try.func8, Try.ntmps8
      go_wp2_with fail
      rw [← HW.out]
      refine HC.out.mono ?_
      rintro e w1 ⟨rfl, q, rfl⟩
      go_wp2_with fail
      go_ret2
      exact ⟨rfl, HS.out.tail.drewN q⟩
set_option maxHeartbeats 3200000 in
theorem new_ok (hT : NsAt w A t) (hm : mayB t = true) (hd : 1 ≤ dl ∧ dl ≤ 1073741824) (hS : Sat w0 w F) :
    Calls Try.prog 8 #[.slice A t.length c, .int .i64 dl] w fun e w' => ∃ r, e = .returned (.tuple #[.pointer (some ⟨r, 0, none⟩), .int .i64 0]) ∧ Sat w0 w' (RetP r t dl [] [] [] :: F) := by
  obtain ⟨tb, htb⟩ : ∃ b, w.heap.size = b := ⟨_, rfl⟩
  have h0 := hS.new #[.slice A t.length c] 22
  rw [htb] at h0
  obtain ⟨W0, hW0⟩ : ∃ X, X = w.alloc (.cells #[.slice A t.length c] 22) := ⟨_, rfl⟩
  have hT0 : NsAt W0 A t := by rw [hW0]; exact hT.keep ((Below.refl _ _).alloc (Nat.le_refl _) _)
  have HC := Lib.hid (may_any (w := W0) (c := c) hT0)
  rw [← hW0] at h0
  have c0 : W0.cell? ⟨tb, 0, none⟩ = some (.slice A t.length c) := h0.blk.cell 0
  obtain ⟨l1, l8, _⟩ := may_len hm
  have HC27 : Hid (∀ q, Calls Try.prog 27 #[.slice A t.length c] (W0.drewN q) fun e w' => ∃ B d, e = .returned (.slice B t.length d) ∧ Sat w0 w' (Row 3 1 B t.length d (nums t) :: Blk tb 22 [.slice A t.length c] :: F)) := fun q => clone_any (hT0.drewN q) l1 l8 (h0.drewN q)
  have HNW : Hid (∀ W G, Sat w0 W G → Calls Try.prog 30 #[] W fun e w' => ∃ g, e = .returned (.pointer (some ⟨g, 0, none⟩)) ∧ Sat w0 w' (WheelC g 68 70 [] :: G)) := fun W G h => by
    refine (wnew_any h).mono ?_
    rintro e w' ⟨rfl, h2⟩
    exact ⟨_, rfl, h2⟩
  have HW := Lib.hid hW0
  rw [hm] at HC
  have t1 : decide (dl < 1) = false := decide_eq_false (by omega)
  have t2 : decide (1073741824 < dl) = false := decide_eq_false (by omega)
  have hmm : ∀ (t : TypeId) (w : World), (Instr.makeMap t none).run Try.prog w = .ok (.map (some w.heap.size)) (w.alloc (.map #[] 0)) := fun t w => rfl
  obtain ⟨n, hn⟩ : ∃ n, t.length = n := ⟨_, rfl⟩
  have HN := Lib.hid hn
  rw [hn] at HC HC27 c0 ⊢
  have HW' : Hid (W0 = w.alloc (.cells #[.slice A n c] 22)) := by show _ = _; rw [hW0, hn]
  clear hW0 hT hT0 hm hd h0 hS l1 l8 hn HW
  go_enter Try.func8, Try.ntmps8
  go_wp2_with fail
  rw [← HW'.out]
  refine HC.out.mono ?_
  rintro e w1 ⟨rfl, q, rfl⟩
  go_wp2_with fail
  refine (HC27.out q).mono ?_
  rintro e w2 ⟨B, d, rfl, h2⟩
  have d0 : w2.cell? ⟨tb, 0, none⟩ = some (.slice A n c) := h2.r2.blk.cell 0
  have d1 := h2.r2.blk.free 0
  have H2 := Lib.hid (h2.r2.set 0 (.slice B n d))
  clear h2 c0 HC HC27
  go_wp2_with fail
  obtain ⟨W2, hW2⟩ : ∃ X, X = w2.setCell ⟨tb, 0, none⟩ (.slice B n d) := ⟨_, rfl⟩
  rw [← hW2] at H2 ⊢
  clear hW2 d0 d1
  refine (HNW.out _ _ H2.out).mono ?_
  rintro e w3 ⟨ag, rfl, h3⟩
  have H3 := Lib.hid h3
  clear h3 H2
  go_wp2_with fail
  refine (HNW.out _ _ H3.out).mono ?_
  rintro e w4 ⟨lt, rfl, h4⟩
  obtain ⟨mb, hmb⟩ : ∃ b, w4.heap.size = b := ⟨_, rfl⟩
  have h5 := h4.mpNew
  rw [hmb] at h5
  have hsz : (w4.alloc (.map #[] 0)).heap.size = mb + 1 := by simp [hmb]
  have h6 := h5.new #[.func (.func 28) #[] #[.pointer (some ⟨tb, 0, none⟩)], .func (.func 29) #[] #[], .int .i64 dl, .pointer (some ⟨ag, 0, none⟩), .pointer (some ⟨lt, 0, none⟩), .map (some mb)] 55
  rw [hsz] at h6
  have H6 := Lib.hid h6
  clear h4 h5 h6 H3 HNW hsz
  go_wp2_with fail
  try simp only [hmb]
  go_ret2
  refine ⟨mb + 1, rfl, ?_⟩
  have hn := HN.out
  subst hn
  refine Sat.rpClose (y := ⟨ag, lt, mb, tb, B, d⟩) ?_
  have h := H6.out
  unfold Open
  exact h.perm (List.Perm.cons _ (by
    have e1 : [MapS mb [], WheelC lt 68 70 [], WheelC ag 68 70 [], Blk tb 22 ([Value.slice A t.length c].set 0 (.slice B t.length d)), Row 3 1 B t.length d (nums t)].Perm [Blk tb 22 [.slice B t.length d], Row 3 1 B t.length d (nums t), WheelC ag 68 70 [], WheelC lt 68 70 [], MapS mb []] := by
      refine (List.perm_append_comm (l₁ := [_, _, _]) (l₂ := [_, _])).trans ?_
      exact ((List.Perm.swap _ _ _).trans (((List.Perm.swap _ _ _).cons _).trans (List.Perm.swap _ _ _))).cons _ |>.cons _
    exact e1.append_right F))
end
end Go.Proofs.Ytbgbpibfmdkndaa
