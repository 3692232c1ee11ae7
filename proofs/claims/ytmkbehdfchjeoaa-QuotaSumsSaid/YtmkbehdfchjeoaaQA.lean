/- What the small functions of package quota do. -/
import Derived.Test.YtmkbehdfchjeoaaCom
set_option linter.unusedVariables false
set_option linter.unusedSimpArgs false
set_option linter.unnecessarySimpa false
namespace Go.Proofs.Ytmkbehdfchjeoaa
open Go.RowKit Go.ChangeShapes Go.WideShapes Go.ChangeAt
def budB (n : Int) : Bool := decide (0 ≤ n) && decide (n ≤ 100000)
def leB (a b : Int) : Bool := decide (a ≤ b)
theorem isBudget_any (n : Int) (w : World) : Calls Try.prog 36 #[.int .i64 n] w fun e w' => e = .returned (.bool (budB n)) ∧ w' = w := by
  by_cases h : 0 ≤ n
  · by_cases h2 : n ≤ 100000
    · have HE : Hid (budB n = true) := by show _ = _; simp [budB, h, h2]
      go_enter Try.func36, Try.ntmps36
      go_wp2
      go_ret
      exact ⟨by rw [HE.out]; rfl, rfl⟩
    · have HE : Hid (budB n = false) := by show _ = _; simp [budB, h2]
      go_enter Try.func36, Try.ntmps36
      go_wp2
      go_ret
      exact ⟨by rw [HE.out]; rfl, rfl⟩
  · have HE : Hid (budB n = false) := by show _ = _; simp [budB, h]
    go_enter Try.func36, Try.ntmps36
    go_wp2
    go_ret
    exact ⟨by rw [HE.out]; rfl, rfl⟩
theorem has_any (g o : Nat) (l n : Int) (w : World) (hc : w.cell? ⟨g, o, none⟩ = some (.int .i64 l)) : Calls Try.prog 38 #[.pointer (some ⟨g, o, none⟩), .int .i64 n] w fun e w' => e = .returned (.bool (leB n l)) ∧ w' = w := by
  go_enter Try.func38, Try.ntmps38
  go_wp2
  go_ret
  exact ⟨rfl, rfl⟩
theorem take_any (g o : Nat) (l n : Int) (w : World) (hc : w.cell? ⟨g, o, none⟩ = some (.int .i64 l)) (hf : w.frozen? ⟨g, o, none⟩ = false) (h1 : 0 ≤ n) (h2 : n ≤ l) (h3 : l ≤ 100000) : Calls Try.prog 42 #[.pointer (some ⟨g, o, none⟩), .int .i64 n] w fun e w' => e = .returned (.tuple #[]) ∧ w' = w.setCell ⟨g, o, none⟩ (.int .i64 (l - n)) := by
  go_enter Try.func42, Try.ntmps42
  go_wp2
  go_end0
  exact ⟨rfl, rfl⟩
theorem asked1_any (n : Int) (w : World) : Calls Try.prog 40 #[.int .i64 n] w fun e w' => e = .returned (.bool (leB 0 n)) ∧ w' = w := by
  go_enter Try.func40, Try.ntmps40
  go_wp2
  go_ret
  exact ⟨rfl, rfl⟩
theorem admit1_any (a : Addr) (w : World) : Calls Try.prog 37 #[.pointer (some a)] w fun e w' => e = .returned (.func (Fn.func 38) #[.pointer (some a)] #[]) ∧ w' = w := by
  go_enter Try.func37, Try.ntmps37
  go_wp2
  go_ret
  exact ⟨rfl, rfl⟩
theorem admit2_any (a : Addr) (w : World) : Calls Try.prog 39 #[.pointer (some a)] w fun e w' => e = .returned (.func (Fn.func 40) #[] #[]) ∧ w' = w := by
  go_enter Try.func39, Try.ntmps39
  go_wp2
  go_ret
  exact ⟨rfl, rfl⟩
/-- a quota's cells -/
structure QS where
  most : Int
  live : Int
  orch : Int
  p0 : Int
  p1 : Int
  p2 : Int
  p3 : Int
def QS.vs (q : QS) : List Value := [.int .i64 q.most, .int .i64 q.live, .int .i64 q.orch, .int .i64 q.p0, .int .i64 q.p1, .int .i64 q.p2, .int .i64 q.p3]
/-- a cost's cells -/
structure CS where
  orch : Int
  p0 : Int
  p1 : Int
  p2 : Int
  p3 : Int
abbrev CS.val (c : CS) : Value := .agg #[.int .i64 c.orch, .int .i64 c.p0, .int .i64 c.p1, .int .i64 c.p2, .int .i64 c.p3]
theorem idx0 (a b c d : Value) (w : World) : (Instr.index 34 (.agg #[a, b, c, d]) (.int .i64 0)).run Try.prog w = .ok a w := by kernel_rfl
theorem idx1 (a b c d : Value) (w : World) : (Instr.index 34 (.agg #[a, b, c, d]) (.int .i64 1)).run Try.prog w = .ok b w := by kernel_rfl
theorem idx2 (a b c d : Value) (w : World) : (Instr.index 34 (.agg #[a, b, c, d]) (.int .i64 2)).run Try.prog w = .ok c w := by kernel_rfl
theorem idx3 (a b c d : Value) (w : World) : (Instr.index 34 (.agg #[a, b, c, d]) (.int .i64 3)).run Try.prog w = .ok d w := by kernel_rfl
def allHas (q : QS) (c : CS) : Bool := leB c.p0 q.p0 && (leB c.p1 q.p1 && (leB c.p2 q.p2 && leB c.p3 q.p3))
def allAsked (c : CS) : Bool := leB 0 c.p0 && (leB 0 c.p1 && (leB 0 c.p2 && leB 0 c.p3))
/-- what is left to be told behind k of four -/
def restB (a b c d : Bool) (k : Nat) : Bool := (decide (0 < k) || a) && ((decide (1 < k) || b) && ((decide (2 < k) || c) && (decide (3 < k) || d)))
set_option maxHeartbeats 1600000 in
theorem allHas_any (g : Nat) (q : QS) (c : CS) (w : World) (hq : At w g 79 q.vs) :
    Calls Try.prog 41 #[.pointer (some ⟨g, 0, none⟩), .agg #[.int .i64 c.orch, .int .i64 c.p0, .int .i64 c.p1, .int .i64 c.p2, .int .i64 c.p3], .func (Fn.func 37) #[] #[]] w fun e w' => e = .returned (.bool (allHas q c)) ∧ Below w.heap.size w w' := by
  have HQ := Lib.hid hq
  obtain ⟨o, c0, c1, c2, c3⟩ := c
  obtain ⟨m, l, o', p0, p1, p2, p3⟩ := q
  have HA : Hid (allHas ⟨m, l, o', p0, p1, p2, p3⟩ ⟨o, c0, c1, c2, c3⟩ = restB (leB c0 p0) (leB c1 p1) (leB c2 p2) (leB c3 p3) 0) := by show _ = _; simp [allHas, restB]
  clear hq
  go_enter Try.func41, Try.ntmps41
  go_wp2_with fail
  go_loopw [11] (fun i wr => ∃ k : Nat, k ≤ 4 ∧ i = .int .i64 k ∧ allHas ⟨m, l, o', p0, p1, p2, p3⟩ ⟨o, c0, c1, c2, c3⟩ = restB (leB c0 p0) (leB c1 p1) (leB c2 p2) (leB c3 p3) k ∧ Below w.heap.size w wr) (fun i _ => 4 - (intOf i).toNat)
  case atStart => exact ⟨0, by omega, rfl, HA.out, (Below.refl _ _).alloc (Nat.le_refl _) _⟩
  case round =>
    obtain ⟨k, hk, rfl, he, hbel⟩ := hrel
    have HE := Lib.hid he
    have HB := Lib.hid hbel
    have HQ2 := Lib.hid (HQ.out.below HQ.out.lt hbel)
    clear he hbel
    have hcase : k = 0 ∨ k = 1 ∨ k = 2 ∨ k = 3 ∨ k = 4 := by omega
    rcases hcase with rfl | rfl | rfl | rfl | rfl
    · have ix := idx0 (.int .i64 c0) (.int .i64 c1) (.int .i64 c2) (.int .i64 c3)
      have hc := HQ2.out.cell 3
      go_wp2_with fail
      refine (admit1_any _ _).mono ?_
      rintro e w' ⟨rfl, rfl⟩
      go_wp2_with fail
      refine (has_any _ _ p0 c0 _ hc).mono ?_
      rintro e w' ⟨rfl, rfl⟩
      cases hb : leB c0 p0 with
      | true =>
        have HN : Hid (allHas ⟨m, l, o', p0, p1, p2, p3⟩ ⟨o, c0, c1, c2, c3⟩ = restB (leB c0 p0) (leB c1 p1) (leB c2 p2) (leB c3 p3) 1) := by show _ = _; rw [HE.out]; simp [restB, hb]
        clear hb hc ix
        go_wp2_with fail
        go_roundw
        case rel => exact ⟨1, by omega, by go_num, HN.out, HB.out⟩
        case measure => simp [intOf]
      | false =>
        have HN : Hid (allHas ⟨m, l, o', p0, p1, p2, p3⟩ ⟨o, c0, c1, c2, c3⟩ = false) := by show _ = _; rw [HE.out]; simp [restB, hb]
        clear hb hc ix
        go_wp2
        go_ret
        exact ⟨by rw [HN.out]; rfl, HB.out⟩
    · have ix := idx1 (.int .i64 c0) (.int .i64 c1) (.int .i64 c2) (.int .i64 c3)
      have hc := HQ2.out.cell 4
      go_wp2_with fail
      refine (admit1_any _ _).mono ?_
      rintro e w' ⟨rfl, rfl⟩
      go_wp2_with fail
      refine (has_any _ _ p1 c1 _ hc).mono ?_
      rintro e w' ⟨rfl, rfl⟩
      cases hb : leB c1 p1 with
      | true =>
        have HN : Hid (allHas ⟨m, l, o', p0, p1, p2, p3⟩ ⟨o, c0, c1, c2, c3⟩ = restB (leB c0 p0) (leB c1 p1) (leB c2 p2) (leB c3 p3) 2) := by show _ = _; rw [HE.out]; simp [restB, hb]
        clear hb hc ix
        go_wp2_with fail
        go_roundw
        case rel => exact ⟨2, by omega, by go_num, HN.out, HB.out⟩
        case measure => simp [intOf]
      | false =>
        have HN : Hid (allHas ⟨m, l, o', p0, p1, p2, p3⟩ ⟨o, c0, c1, c2, c3⟩ = false) := by show _ = _; rw [HE.out]; simp [restB, hb]
        clear hb hc ix
        go_wp2
        go_ret
        exact ⟨by rw [HN.out]; rfl, HB.out⟩
    · have ix := idx2 (.int .i64 c0) (.int .i64 c1) (.int .i64 c2) (.int .i64 c3)
      have hc := HQ2.out.cell 5
      go_wp2_with fail
      refine (admit1_any _ _).mono ?_
      rintro e w' ⟨rfl, rfl⟩
      go_wp2_with fail
      refine (has_any _ _ p2 c2 _ hc).mono ?_
      rintro e w' ⟨rfl, rfl⟩
      cases hb : leB c2 p2 with
      | true =>
        have HN : Hid (allHas ⟨m, l, o', p0, p1, p2, p3⟩ ⟨o, c0, c1, c2, c3⟩ = restB (leB c0 p0) (leB c1 p1) (leB c2 p2) (leB c3 p3) 3) := by show _ = _; rw [HE.out]; simp [restB, hb]
        clear hb hc ix
        go_wp2_with fail
        go_roundw
        case rel => exact ⟨3, by omega, by go_num, HN.out, HB.out⟩
        case measure => simp [intOf]
      | false =>
        have HN : Hid (allHas ⟨m, l, o', p0, p1, p2, p3⟩ ⟨o, c0, c1, c2, c3⟩ = false) := by show _ = _; rw [HE.out]; simp [restB, hb]
        clear hb hc ix
        go_wp2
        go_ret
        exact ⟨by rw [HN.out]; rfl, HB.out⟩
    · have ix := idx3 (.int .i64 c0) (.int .i64 c1) (.int .i64 c2) (.int .i64 c3)
      have hc := HQ2.out.cell 6
      go_wp2_with fail
      refine (admit1_any _ _).mono ?_
      rintro e w' ⟨rfl, rfl⟩
      go_wp2_with fail
      refine (has_any _ _ p3 c3 _ hc).mono ?_
      rintro e w' ⟨rfl, rfl⟩
      cases hb : leB c3 p3 with
      | true =>
        have HN : Hid (allHas ⟨m, l, o', p0, p1, p2, p3⟩ ⟨o, c0, c1, c2, c3⟩ = restB (leB c0 p0) (leB c1 p1) (leB c2 p2) (leB c3 p3) 4) := by show _ = _; rw [HE.out]; simp [restB, hb]
        clear hb hc ix
        go_wp2_with fail
        go_roundw
        case rel => exact ⟨4, by omega, by go_num, HN.out, HB.out⟩
        case measure => simp [intOf]
      | false =>
        have HN : Hid (allHas ⟨m, l, o', p0, p1, p2, p3⟩ ⟨o, c0, c1, c2, c3⟩ = false) := by show _ = _; rw [HE.out]; simp [restB, hb]
        clear hb hc ix
        go_wp2
        go_ret
        exact ⟨by rw [HN.out]; rfl, HB.out⟩
    · have HN : Hid (allHas ⟨m, l, o', p0, p1, p2, p3⟩ ⟨o, c0, c1, c2, c3⟩ = true) := by show _ = _; rw [HE.out]; simp [restB]
      go_wp2
      go_ret
      exact ⟨by rw [HN.out]; rfl, HB.out⟩
set_option maxHeartbeats 1600000 in
theorem allAsked_any (g : Nat) (q : QS) (c : CS) (w : World) (hq : At w g 79 q.vs) :
    Calls Try.prog 41 #[.pointer (some ⟨g, 0, none⟩), .agg #[.int .i64 c.orch, .int .i64 c.p0, .int .i64 c.p1, .int .i64 c.p2, .int .i64 c.p3], .func (Fn.func 39) #[] #[]] w fun e w' => e = .returned (.bool (allAsked c)) ∧ Below w.heap.size w w' := by
  have HQ := Lib.hid hq
  obtain ⟨o, c0, c1, c2, c3⟩ := c
  obtain ⟨m, l, o', p0, p1, p2, p3⟩ := q
  have HA : Hid (allAsked ⟨o, c0, c1, c2, c3⟩ = restB (leB 0 c0) (leB 0 c1) (leB 0 c2) (leB 0 c3) 0) := by show _ = _; simp [allAsked, restB]
  clear hq
  go_enter Try.func41, Try.ntmps41
  go_wp2_with fail
  go_loopw [11] (fun i wr => ∃ k : Nat, k ≤ 4 ∧ i = .int .i64 k ∧ allAsked ⟨o, c0, c1, c2, c3⟩ = restB (leB 0 c0) (leB 0 c1) (leB 0 c2) (leB 0 c3) k ∧ Below w.heap.size w wr) (fun i _ => 4 - (intOf i).toNat)
  case atStart => exact ⟨0, by omega, rfl, HA.out, (Below.refl _ _).alloc (Nat.le_refl _) _⟩
  case round =>
    obtain ⟨k, hk, rfl, he, hbel⟩ := hrel
    have HE := Lib.hid he
    have HB := Lib.hid hbel
    have HQ2 := Lib.hid (HQ.out.below HQ.out.lt hbel)
    clear he hbel
    have hcase : k = 0 ∨ k = 1 ∨ k = 2 ∨ k = 3 ∨ k = 4 := by omega
    rcases hcase with rfl | rfl | rfl | rfl | rfl
    · have ix := idx0 (.int .i64 c0) (.int .i64 c1) (.int .i64 c2) (.int .i64 c3)
      have hc := HQ2.out.cell 3
      go_wp2_with fail
      refine (admit2_any _ _).mono ?_
      rintro e w' ⟨rfl, rfl⟩
      go_wp2_with fail
      refine (asked1_any c0 _).mono ?_
      rintro e w' ⟨rfl, rfl⟩
      cases hb : leB 0 c0 with
      | true =>
        have HN : Hid (allAsked ⟨o, c0, c1, c2, c3⟩ = restB (leB 0 c0) (leB 0 c1) (leB 0 c2) (leB 0 c3) 1) := by show _ = _; rw [HE.out]; simp [restB, hb]
        clear hb hc ix
        go_wp2_with fail
        go_roundw
        case rel => exact ⟨1, by omega, by go_num, HN.out, HB.out⟩
        case measure => simp [intOf]
      | false =>
        have HN : Hid (allAsked ⟨o, c0, c1, c2, c3⟩ = false) := by show _ = _; rw [HE.out]; simp [restB, hb]
        clear hb hc ix
        go_wp2
        go_ret
        exact ⟨by rw [HN.out]; rfl, HB.out⟩
    · have ix := idx1 (.int .i64 c0) (.int .i64 c1) (.int .i64 c2) (.int .i64 c3)
      have hc := HQ2.out.cell 4
      go_wp2_with fail
      refine (admit2_any _ _).mono ?_
      rintro e w' ⟨rfl, rfl⟩
      go_wp2_with fail
      refine (asked1_any c1 _).mono ?_
      rintro e w' ⟨rfl, rfl⟩
      cases hb : leB 0 c1 with
      | true =>
        have HN : Hid (allAsked ⟨o, c0, c1, c2, c3⟩ = restB (leB 0 c0) (leB 0 c1) (leB 0 c2) (leB 0 c3) 2) := by show _ = _; rw [HE.out]; simp [restB, hb]
        clear hb hc ix
        go_wp2_with fail
        go_roundw
        case rel => exact ⟨2, by omega, by go_num, HN.out, HB.out⟩
        case measure => simp [intOf]
      | false =>
        have HN : Hid (allAsked ⟨o, c0, c1, c2, c3⟩ = false) := by show _ = _; rw [HE.out]; simp [restB, hb]
        clear hb hc ix
        go_wp2
        go_ret
        exact ⟨by rw [HN.out]; rfl, HB.out⟩
    · have ix := idx2 (.int .i64 c0) (.int .i64 c1) (.int .i64 c2) (.int .i64 c3)
      have hc := HQ2.out.cell 5
      go_wp2_with fail
      refine (admit2_any _ _).mono ?_
      rintro e w' ⟨rfl, rfl⟩
      go_wp2_with fail
      refine (asked1_any c2 _).mono ?_
      rintro e w' ⟨rfl, rfl⟩
      cases hb : leB 0 c2 with
      | true =>
        have HN : Hid (allAsked ⟨o, c0, c1, c2, c3⟩ = restB (leB 0 c0) (leB 0 c1) (leB 0 c2) (leB 0 c3) 3) := by show _ = _; rw [HE.out]; simp [restB, hb]
        clear hb hc ix
        go_wp2_with fail
        go_roundw
        case rel => exact ⟨3, by omega, by go_num, HN.out, HB.out⟩
        case measure => simp [intOf]
      | false =>
        have HN : Hid (allAsked ⟨o, c0, c1, c2, c3⟩ = false) := by show _ = _; rw [HE.out]; simp [restB, hb]
        clear hb hc ix
        go_wp2
        go_ret
        exact ⟨by rw [HN.out]; rfl, HB.out⟩
    · have ix := idx3 (.int .i64 c0) (.int .i64 c1) (.int .i64 c2) (.int .i64 c3)
      have hc := HQ2.out.cell 6
      go_wp2_with fail
      refine (admit2_any _ _).mono ?_
      rintro e w' ⟨rfl, rfl⟩
      go_wp2_with fail
      refine (asked1_any c3 _).mono ?_
      rintro e w' ⟨rfl, rfl⟩
      cases hb : leB 0 c3 with
      | true =>
        have HN : Hid (allAsked ⟨o, c0, c1, c2, c3⟩ = restB (leB 0 c0) (leB 0 c1) (leB 0 c2) (leB 0 c3) 4) := by show _ = _; rw [HE.out]; simp [restB, hb]
        clear hb hc ix
        go_wp2_with fail
        go_roundw
        case rel => exact ⟨4, by omega, by go_num, HN.out, HB.out⟩
        case measure => simp [intOf]
      | false =>
        have HN : Hid (allAsked ⟨o, c0, c1, c2, c3⟩ = false) := by show _ = _; rw [HE.out]; simp [restB, hb]
        clear hb hc ix
        go_wp2
        go_ret
        exact ⟨by rw [HN.out]; rfl, HB.out⟩
    · have HN : Hid (allAsked ⟨o, c0, c1, c2, c3⟩ = true) := by show _ = _; rw [HE.out]; simp [restB]
      go_wp2
      go_ret
      exact ⟨by rw [HN.out]; rfl, HB.out⟩
end Go.Proofs.Ytmkbehdfchjeoaa
