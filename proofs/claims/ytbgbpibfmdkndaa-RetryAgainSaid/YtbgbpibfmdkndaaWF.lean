/- The order of timers; what the wheel's function values tell. -/
import Derived.Test.YtbgbpibfmdkndaaWE
import Derived.Deep.RegionHeld3
set_option linter.unusedVariables false
set_option linter.unusedSimpArgs false
set_option linter.unnecessarySimpa false
set_option maxRecDepth 100000
namespace Go.Proofs.Ytbgbpibfmdkndaa
open Go.RowKit Go.ChangeShapes Go.WideShapes Go.ChangeAt
def cmpI (a b : Int) : Int := if a < b then -1 else if b < a then 1 else 0
theorem isNaN_any (a : Int) (w : World) : Calls Try.prog 54 #[.int .i64 a] w fun e w' => e = .returned (.bool false) ∧ w' = w := by
  go_enter Try.func54, Try.ntmps54
  go_wp2
  go_ret
  exact ⟨by simp, rfl⟩
theorem compare_any (a b : Int) (w : World) : Calls Try.prog 45 #[.int .i64 a, .int .i64 b] w fun e w' => e = .returned (.int .i64 (cmpI a b)) ∧ w' = w := by
  by_cases h1 : a < b
  · have HX : Hid (cmpI a b = -1) := by show _ = _; unfold cmpI; rw [if_pos h1]
    go_enter Try.func45, Try.ntmps45
    go_wp2_with (go_at_call 54; refine (isNaN_any _ _).mono ?_; rintro e w' ⟨rfl, rfl⟩)
    go_ret
    rw [HX.out]
    exact ⟨rfl, rfl⟩
  · by_cases h2 : b < a
    · have HX : Hid (cmpI a b = 1) := by show _ = _; unfold cmpI; rw [if_neg h1, if_pos h2]
      go_enter Try.func45, Try.ntmps45
      go_wp2_with (go_at_call 54; refine (isNaN_any _ _).mono ?_; rintro e w' ⟨rfl, rfl⟩)
      go_ret
      rw [HX.out]
      exact ⟨rfl, rfl⟩
    · have HX : Hid (cmpI a b = 0) := by show _ = _; unfold cmpI; rw [if_neg h1, if_neg h2]
      go_enter Try.func45, Try.ntmps45
      go_wp2_with (go_at_call 54; refine (isNaN_any _ _).mono ?_; rintro e w' ⟨rfl, rfl⟩)
      go_ret
      rw [HX.out]
      exact ⟨rfl, rfl⟩
def orI (a b : Int) : Int := if a = 0 then b else a
def OrRel (w : World) (a b : Int) (i : Value) (wr : World) : Prop := wr = w ∧ ((i = .int .i64 0) ∨ (i = .int .i64 1 ∧ a = 0) ∨ (i = .int .i64 2 ∧ a = 0 ∧ b = 0))
set_option maxHeartbeats 800000 in
theorem or_any (g : Nat) (a b : Int) (w : World) (c0 : w.cell? ⟨g, 0, none⟩ = some (.int .i64 a)) (c1 : w.cell? ⟨g, 1, none⟩ = some (.int .i64 b)) : Calls Try.prog 44 #[.slice (some ⟨g, 0, none⟩) 2 2] w fun e w' => e = .returned (.int .i64 (orI a b)) ∧ w' = w := by
  have HX : Hid (a ≠ 0 → orI a b = a) := fun h => by unfold orI; rw [if_neg h]
  have HY : Hid (a = 0 → orI a b = b) := fun h => by unfold orI; rw [if_pos h]
  go_enter Try.func44, Try.ntmps44
  go_wp2_with fail
  go_loopw [8] (OrRel w a b) (fun i _ => 2 - (intOf i).toNat)
  case atStart => exact ⟨rfl, .inl rfl⟩
  case round =>
    obtain ⟨rfl, rfl | ⟨rfl, ha⟩ | ⟨rfl, ha, hb⟩⟩ := hrel
    · by_cases ha : a = 0
      · have t : (a != 0) = false := by simp [ha]
        have HA := Lib.hid ha
        clear ha
        go_wp2_with fail
        go_roundw
        case rel => exact ⟨rfl, .inr (.inl ⟨by go_num, HA.out⟩)⟩
        case measure => simp [intOf]
      · have t : (a != 0) = true := by simp [ha]
        have HA := Lib.hid (HX.out ha)
        clear ha
        go_wp2_with fail
        go_ret
        rw [HA.out]
        exact ⟨rfl, rfl⟩
    · have HA := Lib.hid (HY.out ha)
      have HA0 := Lib.hid ha
      clear ha
      by_cases hb : b = 0
      · have t : (b != 0) = false := by simp [hb]
        have HB := Lib.hid hb
        clear hb
        go_wp2_with fail
        go_roundw
        case rel => exact ⟨rfl, .inr (.inr ⟨by go_num, HA0.out, HB.out⟩)⟩
        case measure => simp [intOf]
      · have t : (b != 0) = true := by simp [hb]
        clear hb
        go_wp2_with fail
        go_ret
        rw [HA.out]
        exact ⟨rfl, rfl⟩
    · have HA := Lib.hid (HY.out ha)
      have HB := Lib.hid hb
      clear ha hb
      go_wp2_with fail
      go_ret
      rw [HA.out, HB.out]
      exact ⟨rfl, rfl⟩
/-- a timer is behind another one -/
def after (x y : Tm) : Bool := decide (0 < orI (cmpI y.2 x.2) (cmpI y.1 x.1))
section
variable {w : World}
theorem tells34 (g : Nat) (id : Int) (hg : g < w.heap.size) (hc : w.cell? ⟨g, 0, none⟩ = some (.int .i64 id)) : Tells w 51 #[.pointer (some ⟨g, 0, none⟩)] (fun x => x.1 == id) := by
  intro w1 x hb
  have hc1 := (hb.cell (p := ⟨g, 0, none⟩) hg).trans hc
  have hg1 : g < w1.heap.size := Nat.lt_of_lt_of_le hg hb.size
  have hne : g ≠ w1.heap.size := by omega
  show Calls Try.prog 51 #[.agg #[.int .i64 x.1, .int .i64 x.2], .pointer (some ⟨g, 0, none⟩)] w1 _
  unfold Quietly
  go_enter Try.func51, Try.ntmps51
  go_wp2
  all_goals (go_ret; exact ⟨by simp_all, (Below.refl _ _).alloc (Nat.le_refl _) _⟩)
theorem tells30 (g : Nat) (now : Int) (hg : g < w.heap.size) (hc : w.cell? ⟨g, 0, none⟩ = some (.int .i64 now)) : Tells w 47 #[.pointer (some ⟨g, 0, none⟩)] (fun x => decide (now < x.2)) := by
  intro w1 x hb
  have hc1 := (hb.cell (p := ⟨g, 0, none⟩) hg).trans hc
  have hg1 : g < w1.heap.size := Nat.lt_of_lt_of_le hg hb.size
  have hne : g ≠ w1.heap.size := by omega
  show Calls Try.prog 47 #[.agg #[.int .i64 x.1, .int .i64 x.2], .pointer (some ⟨g, 0, none⟩)] w1 _
  unfold Quietly
  go_enter Try.func47, Try.ntmps47
  go_wp2
  all_goals (go_ret; exact ⟨by simp_all, (Below.refl _ _).alloc (Nat.le_refl _) _⟩)
theorem new2 (W : World) (N : Nat) (hN : W.heap.size = N) (u v : Value) : ((W.alloc (.cells #[u, v] 3)).drew.cell? ⟨N, 0, none⟩ = some u) ∧ ((W.alloc (.cells #[u, v] 3)).drew.cell? ⟨N, 1, none⟩ = some v) := by
  subst hN
  have h := At.new W 3 #[u, v]
  exact ⟨h.cell 0, h.cell 1⟩
set_option maxHeartbeats 800000 in
theorem tells26 (g : Nat) (x : Tm) (hg : g < w.heap.size) (hc0 : w.cell? ⟨g, 0, none⟩ = some (.int .i64 x.1)) (hc1 : w.cell? ⟨g, 1, none⟩ = some (.int .i64 x.2)) : Tells w 43 #[.pointer (some ⟨g, 0, none⟩)] (after x) := by
  intro w1 y hb
  have hd0 := (hb.cell (p := ⟨g, 0, none⟩) hg).trans hc0
  have hd1 := (hb.cell (p := ⟨g, 1, none⟩) hg).trans hc1
  have hg1 : g < w1.heap.size := Nat.lt_of_lt_of_le hg hb.size
  have hne : g ≠ w1.heap.size := by omega
  show Calls Try.prog 43 #[.agg #[.int .i64 y.1, .int .i64 y.2], .pointer (some ⟨g, 0, none⟩)] w1 _
  unfold Quietly
  obtain ⟨x1, x2⟩ := x
  obtain ⟨y1, y2⟩ := y
  simp only at hd0 hd1 ⊢
  have hbn : Below w1.heap.size w1 (w1.alloc (.cells #[.int .i64 y1, .int .i64 y2] 70)) := (Below.refl _ _).alloc (Nat.le_refl _) _
  have d0 : (w1.alloc (.cells #[.int .i64 y1, .int .i64 y2] 70)).cell? ⟨g, 0, none⟩ = some (.int .i64 x1) := old_cell hbn hd0
  have d1 : (w1.alloc (.cells #[.int .i64 y1, .int .i64 y2] 70)).cell? ⟨g, 1, none⟩ = some (.int .i64 x2) := old_cell hbn hd1
  have hA := At.new w1 70 #[.int .i64 y1, .int .i64 y2]
  have n0 : (w1.alloc (.cells #[.int .i64 y1, .int .i64 y2] 70)).cell? ⟨w1.heap.size, 0, none⟩ = some (.int .i64 y1) := hA.cell 0
  have n1 : (w1.alloc (.cells #[.int .i64 y1, .int .i64 y2] 70)).cell? ⟨w1.heap.size, 1, none⟩ = some (.int .i64 y2) := hA.cell 1
  have hsz : (w1.alloc (.cells #[.int .i64 y1, .int .i64 y2] 70)).heap.size = w1.heap.size + 1 := by simp
  have HF : Hid (∀ w', Below (w1.heap.size + 1) (w1.alloc (.cells #[.int .i64 y1, .int .i64 y2] 70)) w' → Below w1.heap.size w1 w') := fun w' h => hbn.trans (h.mono (by omega))
  have HZ := Lib.hid (hsz)
  clear hc0 hc1 hb hd0 hd1 hA hbn hne hg hg1
  go_enter Try.func43, Try.ntmps43
  go_wp2_with fail
  obtain ⟨b, hbb⟩ : ∃ b, w1.heap.size = b := ⟨_, rfl⟩
  rw [hbb] at n0 n1 HF HZ hsz ⊢
  obtain ⟨W, hW⟩ : ∃ W, w1.alloc (.cells #[.int .i64 y1, .int .i64 y2] 70) = W := ⟨_, rfl⟩
  rw [hW] at n0 n1 d0 d1 HF HZ hsz ⊢
  have HBB := Lib.hid hbb
  clear hbb hW hsz
  go_region_held3 (fun w' => w'.cell? ⟨b, 1, none⟩ = some (.int .i64 y2) ∧ w'.cell? ⟨g, 1, none⟩ = some (.int .i64 x2) ∧ w'.cell? ⟨b, 0, none⟩ = some (.int .i64 y1) ∧ w'.cell? ⟨g, 0, none⟩ = some (.int .i64 x1))
    (first | exact ⟨n1, d1, n0, d0⟩ | go_keep)
    (first | (go_at_call 45; refine (compare_any _ _ _).mono ?_; rintro e w' ⟨rfl, rfl⟩) | (go_at_call 44; refine (or_any W.heap.size (cmpI y2 x2) (cmpI y1 x1) _ (new2 W W.heap.size rfl (.int .i64 (cmpI y2 x2)) (.int .i64 (cmpI y1 x1))).1 (new2 W W.heap.size rfl (.int .i64 (cmpI y2 x2)) (.int .i64 (cmpI y1 x1))).2).mono ?_; rintro e w' ⟨rfl, rfl⟩))
  all_goals
    have HB : Hid (Below (b + 1) W (W.alloc (.cells #[.int .i64 (cmpI y2 x2), .int .i64 (cmpI y1 x1)] 3)).drew) := by
      have h := (Below.refl (b + 1) W).alloc (by rw [HZ.out]; exact Nat.le_refl _) (.cells #[.int .i64 (cmpI y2 x2), .int .i64 (cmpI y1 x1)] 3)
      exact ⟨h.os, h.tape, h.output, h.size, h.block⟩
    go_wp2_with fail
    go_ret
    exact ⟨rfl, by rw [HBB.out]; exact HF.out _ HB.out⟩
end
end Go.Proofs.Ytbgbpibfmdkndaa
