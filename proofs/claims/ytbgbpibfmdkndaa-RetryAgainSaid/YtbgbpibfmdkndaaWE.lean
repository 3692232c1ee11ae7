/- Timers as cells; slices.IndexFunc; the least place of something that holds; the order of timers. -/
import Derived.Test.YtbgbpibfmdkndaaWD
import Derived.Maps.AppendAt
set_option linter.unusedVariables false
set_option linter.unusedSimpArgs false
set_option linter.unnecessarySimpa false
set_option maxRecDepth 100000
namespace Go.Proofs.Ytbgbpibfmdkndaa
open Go.RowKit Go.ChangeShapes Go.WideShapes Go.ChangeAt
/-- a timer: its id, its time -/
abbrev Tm := Int × Int
def tc : List Tm → List Value
  | [] => []
  | x :: l => .int .i64 x.1 :: .int .i64 x.2 :: tc l
theorem tc_len : ∀ l : List Tm, (tc l).length = l.length * 2
  | [] => rfl
  | x :: l => by simp only [tc, List.length_cons, tc_len l]; omega
theorem tc_append : ∀ a b : List Tm, tc (a ++ b) = tc a ++ tc b
  | [], b => rfl
  | x :: a, b => by simp only [List.cons_append, tc, tc_append a b]
theorem tc_take : ∀ (l : List Tm) (k : Nat), (tc l).take (k * 2) = tc (l.take k)
  | [], k => by simp [tc]
  | x :: l, 0 => by simp [tc]
  | x :: l, k + 1 => by
    rw [show (k + 1) * 2 = k * 2 + 1 + 1 by omega]
    simp only [tc, List.take_succ_cons, tc_take l k]
theorem tc_drop : ∀ (l : List Tm) (k : Nat), (tc l).drop (k * 2) = tc (l.drop k)
  | [], k => by simp [tc]
  | x :: l, 0 => by simp [tc]
  | x :: l, k + 1 => by
    rw [show (k + 1) * 2 = k * 2 + 1 + 1 by omega]
    simp only [tc, List.drop_succ_cons, tc_drop l k]
theorem tc_get : ∀ (l : List Tm) (k : Nat) (h : k < l.length), (tc l)[k * 2]? = some (.int .i64 l[k].1) ∧ (tc l)[k * 2 + 1]? = some (.int .i64 l[k].2)
  | [], k, h => by simp at h
  | x :: l, 0, h => ⟨rfl, rfl⟩
  | x :: l, k + 1, h => by
    have := tc_get l k (by simpa using h)
    rw [show (k + 1) * 2 = k * 2 + 1 + 1 by omega]
    simpa [tc] using this
theorem tc_one : ∀ l : List Tm, ∀ u ∈ tc l, u.oneCell' = true
  | [], u, h => by simp [tc] at h
  | x :: l, u, h => by
    simp only [tc, List.mem_cons] at h
    rcases h with rfl | rfl | h
    · rfl
    · rfl
    · exact tc_one l u h
/-- a call that leaves all that was there as it was -/
def Quietly (w : World) (v : Value) (e : Ending) (w' : World) : Prop := e = .returned v ∧ Below w.heap.size w w'
/-- a function value that tells of a timer whether something holds -/
def Tells (w : World) (f : FuncId) (cap : Array Value) (p : Tm → Bool) : Prop := ∀ (w1 : World) (x : Tm), Below w.heap.size w w1 → Calls Try.prog f (#[.agg #[.int .i64 x.1, .int .i64 x.2]] ++ cap) w1 (Quietly w1 (.bool (p x)))
section
variable {w0 w : World} {F : List HP} {E n c g gv : Nat} {A : Option Addr} {L : List Tm}
theorem tm_cells (hS : Sat w0 w (Row E 2 A L.length c (tc L) :: F)) (h0 : 0 < L.length) : ∃ g, A = some ⟨g, 0, none⟩ ∧ ∀ k (hk : k < L.length), w.cell? ⟨g, k * 2, none⟩ = some (.int .i64 L[k].1) ∧ w.cell? ⟨g, k * 2 + 1, none⟩ = some (.int .i64 L[k].2) := by
  have hl := tc_len L
  obtain ⟨g, rfl, hc, _⟩ := hS.rowCell (by intro e; rw [e] at hl; simp at hl; omega)
  refine ⟨g, rfl, fun k hk => ?_⟩
  obtain ⟨h1, h2⟩ := tc_get L k hk
  rw [hc _ (by omega), hc _ (by omega)]
  exact ⟨h1, h2⟩
def IxRel (w : World) (L : List Tm) (p : Tm → Bool) (i : Value) (wr : World) : Prop := ∃ k : Nat, k ≤ L.length ∧ i = .int .i64 k ∧ Below w.heap.size w wr ∧ ∀ j (hj : j < L.length), j < k → p L[j] = false
/-- the first place -/
def firstN (L : List Tm) (p : Tm → Bool) : Nat := L.findIdx p
theorem first_hit {L : List Tm} {p : Tm → Bool} {k : Nat} (hk : k < L.length) (h : p L[k] = true) (ha : ∀ j (hj : j < L.length), j < k → p L[j] = false) : firstN L p = k := by
  unfold firstN
  rw [List.findIdx_eq hk]
  exact ⟨h, fun j hj => by simpa using ha j (by omega) hj⟩
theorem first_none {L : List Tm} {p : Tm → Bool} (ha : ∀ j (hj : j < L.length), p L[j] = false) : firstN L p = L.length := by
  unfold firstN
  rw [List.findIdx_eq_length]
  intro x hx
  obtain ⟨i, hi, rfl⟩ := List.getElem_of_mem hx
  exact ha i hi
theorem first_le (L : List Tm) (p : Tm → Bool) : firstN L p ≤ L.length := List.findIdx_le_length
set_option maxHeartbeats 1600000 in
theorem index_any26 (cap : Array Value) (p : Tm → Bool) (hp : Tells w 43 cap p) (hS : Sat w0 w (Row 70 2 A L.length c (tc L) :: F)) (hm : L.length ≤ 1000000) :
    Calls Try.prog 53 #[.slice A L.length c, .func (.func 43) #[] cap] w fun e w' => ∃ r : Int, e = .returned (.int .i64 r) ∧ Below w.heap.size w w' ∧ ((0 ≤ r ∧ r = (firstN L p : Nat) ∧ firstN L p < L.length) ∨ (r = -1 ∧ firstN L p = L.length)) := by
  have HC : Hid (0 < L.length → ∃ g, A = some ⟨g, 0, none⟩ ∧ ∀ k (hk : k < L.length), w.cell? ⟨g, k * 2, none⟩ = some (.int .i64 L[k].1) ∧ w.cell? ⟨g, k * 2 + 1, none⟩ = some (.int .i64 L[k].2)) := tm_cells hS
  have HP := Lib.hid hp
  clear hS hp
  go_enter Try.func53, Try.ntmps53
  go_wp2_with fail
  go_loopw [8] (IxRel w L p) (fun i _ => L.length - (intOf i).toNat)
  case atStart => exact ⟨0, Nat.zero_le _, rfl, Below.refl _ w, fun j hj h => absurd h (Nat.not_lt_zero _)⟩
  case round =>
    obtain ⟨k, hk, rfl, hb, ha⟩ := hrel
    by_cases hlt : k < L.length
    · obtain ⟨g, rfl, hc⟩ := HC.out (by omega)
      obtain ⟨e1, e2⟩ := hc k hlt
      have e1' : wr.cell? ⟨g, k * 2, none⟩ = some (.int .i64 L[k].1) := old_cell hb e1
      have e2' : wr.cell? ⟨g, k * 2 + 1, none⟩ = some (.int .i64 L[k].2) := old_cell hb e2
      have HCL := Lib.hid (HP.out wr L[k] hb)
      have HX : Hid (∀ b, p L[k] = b → (b = true → firstN L p = k) ∧ (b = false → ∀ j (hj : j < L.length), j < k + 1 → p L[j] = false)) := fun b hb => ⟨fun e => first_hit hlt (hb.trans e) ha, fun e j hj hjk => by
        by_cases hjk2 : j < k
        · exact ha j hj hjk2
        · obtain rfl : j = k := by omega
          exact hb.trans e⟩
      obtain ⟨b, hbb⟩ : ∃ b, p L[k] = b := ⟨_, rfl⟩
      have HX2 := Lib.hid (HX.out b hbb)
      rw [hbb] at HCL
      unfold Quietly at HCL
      obtain ⟨⟨x, y⟩, hx⟩ : ∃ x, L[k] = x := ⟨_, rfl⟩
      rw [hx] at HCL e1' e2'
      simp only at HCL e1' e2'
      have HB := Lib.hid hb
      clear hb ha hc e1 e2 HX hbb hx HP
      cases b with
      | true =>
        have HF := Lib.hid (HX2.out.1 rfl)
        go_wp2_with fail
        refine HCL.out.mono ?_
        rintro e w' ⟨rfl, hb'⟩
        have HB2 := Lib.hid (below_step HB.out hb')
        clear hb'
        go_wp2_with fail
        go_ret
        exact ⟨_, rfl, HB2.out, .inl ⟨by omega, by rw [HF.out], by rw [HF.out]; exact hlt⟩⟩
      | false =>
        have HF := Lib.hid (HX2.out.2 rfl)
        go_wp2_with fail
        refine HCL.out.mono ?_
        rintro e w' ⟨rfl, hb'⟩
        have HB2 := Lib.hid (below_step HB.out hb')
        clear hb'
        go_wp2_with fail
        go_roundw
        case rel => exact ⟨k + 1, by omega, by go_num, HB2.out, HF.out⟩
        case measure => simp [intOf]; omega
    · have HB := Lib.hid hb
      have HF := Lib.hid (first_none (L := L) (p := p) fun j hj => ha j hj (by omega))
      clear hb ha
      go_wp2_with fail
      go_ret
      exact ⟨_, rfl, HB.out, .inr ⟨rfl, HF.out⟩⟩
set_option maxHeartbeats 1600000 in
/-- the least place of something that holds -/
theorem first_any26 (cap : Array Value) (p : Tm → Bool) (hp : Tells w 43 cap p) (hS : Sat w0 w (Row 70 2 A L.length c (tc L) :: F)) (hm : L.length ≤ 1000000) :
    Calls Try.prog 42 #[.slice A L.length c, .func (.func 43) #[] cap] w (Quietly w (.int .i64 (firstN L p))) := by
  have HI := Lib.hid (index_any26 cap p hp hS hm)
  have hl := first_le L p
  obtain ⟨q, hq⟩ : ∃ q, firstN L p = q := ⟨_, rfl⟩
  rw [hq] at HI hl ⊢
  clear hq hp hS
  unfold Quietly
  go_enter Try.func42, Try.ntmps42
  go_wp2_with fail
  refine HI.out.mono ?_
  rintro e w' ⟨r, rfl, hb, ⟨h0, rfl, h2⟩ | ⟨rfl, rfl⟩⟩
  · have HB := Lib.hid hb
    clear hb
    go_wp2_with fail
    go_ret
    exact ⟨rfl, HB.out⟩
  · have HB := Lib.hid hb
    clear hb
    go_wp2_with fail
    go_ret
    exact ⟨rfl, HB.out⟩
set_option maxHeartbeats 1600000 in
theorem index_any30 (cap : Array Value) (p : Tm → Bool) (hp : Tells w 47 cap p) (hS : Sat w0 w (Row 70 2 A L.length c (tc L) :: F)) (hm : L.length ≤ 1000000) :
    Calls Try.prog 53 #[.slice A L.length c, .func (.func 47) #[] cap] w fun e w' => ∃ r : Int, e = .returned (.int .i64 r) ∧ Below w.heap.size w w' ∧ ((0 ≤ r ∧ r = (firstN L p : Nat) ∧ firstN L p < L.length) ∨ (r = -1 ∧ firstN L p = L.length)) := by
  have HC : Hid (0 < L.length → ∃ g, A = some ⟨g, 0, none⟩ ∧ ∀ k (hk : k < L.length), w.cell? ⟨g, k * 2, none⟩ = some (.int .i64 L[k].1) ∧ w.cell? ⟨g, k * 2 + 1, none⟩ = some (.int .i64 L[k].2)) := tm_cells hS
  have HP := Lib.hid hp
  clear hS hp
  go_enter Try.func53, Try.ntmps53
  go_wp2_with fail
  go_loopw [8] (IxRel w L p) (fun i _ => L.length - (intOf i).toNat)
  case atStart => exact ⟨0, Nat.zero_le _, rfl, Below.refl _ w, fun j hj h => absurd h (Nat.not_lt_zero _)⟩
  case round =>
    obtain ⟨k, hk, rfl, hb, ha⟩ := hrel
    by_cases hlt : k < L.length
    · obtain ⟨g, rfl, hc⟩ := HC.out (by omega)
      obtain ⟨e1, e2⟩ := hc k hlt
      have e1' : wr.cell? ⟨g, k * 2, none⟩ = some (.int .i64 L[k].1) := old_cell hb e1
      have e2' : wr.cell? ⟨g, k * 2 + 1, none⟩ = some (.int .i64 L[k].2) := old_cell hb e2
      have HCL := Lib.hid (HP.out wr L[k] hb)
      have HX : Hid (∀ b, p L[k] = b → (b = true → firstN L p = k) ∧ (b = false → ∀ j (hj : j < L.length), j < k + 1 → p L[j] = false)) := fun b hb => ⟨fun e => first_hit hlt (hb.trans e) ha, fun e j hj hjk => by
        by_cases hjk2 : j < k
        · exact ha j hj hjk2
        · obtain rfl : j = k := by omega
          exact hb.trans e⟩
      obtain ⟨b, hbb⟩ : ∃ b, p L[k] = b := ⟨_, rfl⟩
      have HX2 := Lib.hid (HX.out b hbb)
      rw [hbb] at HCL
      unfold Quietly at HCL
      obtain ⟨⟨x, y⟩, hx⟩ : ∃ x, L[k] = x := ⟨_, rfl⟩
      rw [hx] at HCL e1' e2'
      simp only at HCL e1' e2'
      have HB := Lib.hid hb
      clear hb ha hc e1 e2 HX hbb hx HP
      cases b with
      | true =>
        have HF := Lib.hid (HX2.out.1 rfl)
        go_wp2_with fail
        refine HCL.out.mono ?_
        rintro e w' ⟨rfl, hb'⟩
        have HB2 := Lib.hid (below_step HB.out hb')
        clear hb'
        go_wp2_with fail
        go_ret
        exact ⟨_, rfl, HB2.out, .inl ⟨by omega, by rw [HF.out], by rw [HF.out]; exact hlt⟩⟩
      | false =>
        have HF := Lib.hid (HX2.out.2 rfl)
        go_wp2_with fail
        refine HCL.out.mono ?_
        rintro e w' ⟨rfl, hb'⟩
        have HB2 := Lib.hid (below_step HB.out hb')
        clear hb'
        go_wp2_with fail
        go_roundw
        case rel => exact ⟨k + 1, by omega, by go_num, HB2.out, HF.out⟩
        case measure => simp [intOf]; omega
    · have HB := Lib.hid hb
      have HF := Lib.hid (first_none (L := L) (p := p) fun j hj => ha j hj (by omega))
      clear hb ha
      go_wp2_with fail
      go_ret
      exact ⟨_, rfl, HB.out, .inr ⟨rfl, HF.out⟩⟩
set_option maxHeartbeats 1600000 in
/-- the least place of something that holds -/
theorem first_any30 (cap : Array Value) (p : Tm → Bool) (hp : Tells w 47 cap p) (hS : Sat w0 w (Row 70 2 A L.length c (tc L) :: F)) (hm : L.length ≤ 1000000) :
    Calls Try.prog 42 #[.slice A L.length c, .func (.func 47) #[] cap] w (Quietly w (.int .i64 (firstN L p))) := by
  have HI := Lib.hid (index_any30 cap p hp hS hm)
  have hl := first_le L p
  obtain ⟨q, hq⟩ : ∃ q, firstN L p = q := ⟨_, rfl⟩
  rw [hq] at HI hl ⊢
  clear hq hp hS
  unfold Quietly
  go_enter Try.func42, Try.ntmps42
  go_wp2_with fail
  refine HI.out.mono ?_
  rintro e w' ⟨r, rfl, hb, ⟨h0, rfl, h2⟩ | ⟨rfl, rfl⟩⟩
  · have HB := Lib.hid hb
    clear hb
    go_wp2_with fail
    go_ret
    exact ⟨rfl, HB.out⟩
  · have HB := Lib.hid hb
    clear hb
    go_wp2_with fail
    go_ret
    exact ⟨rfl, HB.out⟩
set_option maxHeartbeats 1600000 in
theorem index_any34 (cap : Array Value) (p : Tm → Bool) (hp : Tells w 51 cap p) (hS : Sat w0 w (Row 70 2 A L.length c (tc L) :: F)) (hm : L.length ≤ 1000000) :
    Calls Try.prog 53 #[.slice A L.length c, .func (.func 51) #[] cap] w fun e w' => ∃ r : Int, e = .returned (.int .i64 r) ∧ Below w.heap.size w w' ∧ ((0 ≤ r ∧ r = (firstN L p : Nat) ∧ firstN L p < L.length) ∨ (r = -1 ∧ firstN L p = L.length)) := by
  have HC : Hid (0 < L.length → ∃ g, A = some ⟨g, 0, none⟩ ∧ ∀ k (hk : k < L.length), w.cell? ⟨g, k * 2, none⟩ = some (.int .i64 L[k].1) ∧ w.cell? ⟨g, k * 2 + 1, none⟩ = some (.int .i64 L[k].2)) := tm_cells hS
  have HP := Lib.hid hp
  clear hS hp
  go_enter Try.func53, Try.ntmps53
  go_wp2_with fail
  go_loopw [8] (IxRel w L p) (fun i _ => L.length - (intOf i).toNat)
  case atStart => exact ⟨0, Nat.zero_le _, rfl, Below.refl _ w, fun j hj h => absurd h (Nat.not_lt_zero _)⟩
  case round =>
    obtain ⟨k, hk, rfl, hb, ha⟩ := hrel
    by_cases hlt : k < L.length
    · obtain ⟨g, rfl, hc⟩ := HC.out (by omega)
      obtain ⟨e1, e2⟩ := hc k hlt
      have e1' : wr.cell? ⟨g, k * 2, none⟩ = some (.int .i64 L[k].1) := old_cell hb e1
      have e2' : wr.cell? ⟨g, k * 2 + 1, none⟩ = some (.int .i64 L[k].2) := old_cell hb e2
      have HCL := Lib.hid (HP.out wr L[k] hb)
      have HX : Hid (∀ b, p L[k] = b → (b = true → firstN L p = k) ∧ (b = false → ∀ j (hj : j < L.length), j < k + 1 → p L[j] = false)) := fun b hb => ⟨fun e => first_hit hlt (hb.trans e) ha, fun e j hj hjk => by
        by_cases hjk2 : j < k
        · exact ha j hj hjk2
        · obtain rfl : j = k := by omega
          exact hb.trans e⟩
      obtain ⟨b, hbb⟩ : ∃ b, p L[k] = b := ⟨_, rfl⟩
      have HX2 := Lib.hid (HX.out b hbb)
      rw [hbb] at HCL
      unfold Quietly at HCL
      obtain ⟨⟨x, y⟩, hx⟩ : ∃ x, L[k] = x := ⟨_, rfl⟩
      rw [hx] at HCL e1' e2'
      simp only at HCL e1' e2'
      have HB := Lib.hid hb
      clear hb ha hc e1 e2 HX hbb hx HP
      cases b with
      | true =>
        have HF := Lib.hid (HX2.out.1 rfl)
        go_wp2_with fail
        refine HCL.out.mono ?_
        rintro e w' ⟨rfl, hb'⟩
        have HB2 := Lib.hid (below_step HB.out hb')
        clear hb'
        go_wp2_with fail
        go_ret
        exact ⟨_, rfl, HB2.out, .inl ⟨by omega, by rw [HF.out], by rw [HF.out]; exact hlt⟩⟩
      | false =>
        have HF := Lib.hid (HX2.out.2 rfl)
        go_wp2_with fail
        refine HCL.out.mono ?_
        rintro e w' ⟨rfl, hb'⟩
        have HB2 := Lib.hid (below_step HB.out hb')
        clear hb'
        go_wp2_with fail
        go_roundw
        case rel => exact ⟨k + 1, by omega, by go_num, HB2.out, HF.out⟩
        case measure => simp [intOf]; omega
    · have HB := Lib.hid hb
      have HF := Lib.hid (first_none (L := L) (p := p) fun j hj => ha j hj (by omega))
      clear hb ha
      go_wp2_with fail
      go_ret
      exact ⟨_, rfl, HB.out, .inr ⟨rfl, HF.out⟩⟩
set_option maxHeartbeats 1600000 in
/-- the least place of something that holds -/
theorem first_any34 (cap : Array Value) (p : Tm → Bool) (hp : Tells w 51 cap p) (hS : Sat w0 w (Row 70 2 A L.length c (tc L) :: F)) (hm : L.length ≤ 1000000) :
    Calls Try.prog 42 #[.slice A L.length c, .func (.func 51) #[] cap] w (Quietly w (.int .i64 (firstN L p))) := by
  have HI := Lib.hid (index_any34 cap p hp hS hm)
  have hl := first_le L p
  obtain ⟨q, hq⟩ : ∃ q, firstN L p = q := ⟨_, rfl⟩
  rw [hq] at HI hl ⊢
  clear hq hp hS
  unfold Quietly
  go_enter Try.func42, Try.ntmps42
  go_wp2_with fail
  refine HI.out.mono ?_
  rintro e w' ⟨r, rfl, hb, ⟨h0, rfl, h2⟩ | ⟨rfl, rfl⟩⟩
  · have HB := Lib.hid hb
    clear hb
    go_wp2_with fail
    go_ret
    exact ⟨rfl, HB.out⟩
  · have HB := Lib.hid hb
    clear hb
    go_wp2_with fail
    go_ret
    exact ⟨rfl, HB.out⟩
end
end Go.Proofs.Ytbgbpibfmdkndaa
