/- What Close and Left do, the program's and the reference's; odysseyref15.New. -/
import Derived.Test.YtmkbehdfchjeoaaQC
import Derived.Test.YtmkbehdfchjeoaaQB
set_option linter.unusedVariables false
set_option linter.unusedSimpArgs false
set_option linter.unnecessarySimpa false
namespace Go.Proofs.Ytmkbehdfchjeoaa
open Go.RowKit Go.ChangeShapes Go.WideShapes Go.ChangeAt
def codeC (q : QS) : Int := if q.live = 0 then 1 else 0
def nextC (q : QS) : QS := if q.live = 0 then q else { q with live := q.live - 1 }
def ClosePost (t g : Nat) (q : QS) (w : World) (e : Ending) (w' : World) : Prop := e = .returned (.int .i64 (codeC q)) ∧ At w' g t (nextC q).vs ∧ Chg g w w'
theorem close_any (g : Nat) (q : QS) (w : World) (hq : At w g 79 q.vs) (hok : QOk q) : Calls Try.prog 22 #[.pointer (some ⟨g, 0, none⟩)] w (ClosePost 79 g q w) := by
  have HQ := Lib.hid hq
  have hl : 0 ≤ q.live := hok.2.2.1
  have hl2 : q.live ≤ 12 := by have := hok.2.1; have := hok.2.2.2.1; omega
  have c1 := hq.cell 1
  have f1 := hq.free 1
  unfold QS.vs at c1
  clear hq hok
  by_cases h : q.live = 0
  · have HK : Hid (codeC q = 1 ∧ nextC q = q) := by show _ ∧ _; simp [codeC, nextC, h]
    have t1 : (q.live == 0) = true := by rw [beq_iff_eq]; exact h
    clear h
    go_enter Try.func22, Try.ntmps22
    go_wp2
    go_ret
    exact ⟨by rw [HK.out.1]; rfl, by rw [HK.out.2]; exact HQ.out, Chg.refl _ _⟩
  · have HK : Hid (codeC q = 0 ∧ nextC q = { q with live := q.live - 1 }) := by show _ ∧ _; simp [codeC, nextC, h]
    have t1 : (q.live == 0) = false := by rw [beq_eq_false_iff_ne]; exact h
    clear h
    go_enter Try.func22, Try.ntmps22
    go_wp2
    go_ret
    exact ⟨by rw [HK.out.1]; rfl, by rw [HK.out.2]; exact HQ.out.set 1 _, (Chg.refl _ _).set 1 _⟩
theorem rclose_any (g : Nat) (q : QS) (w : World) (hq : At w g 81 q.vs) (hok : QOk q) : Calls Try.prog 23 #[.pointer (some ⟨g, 0, none⟩)] w (ClosePost 81 g q w) := by
  have HQ := Lib.hid hq
  have hl : 0 ≤ q.live := hok.2.2.1
  have hl2 : q.live ≤ 12 := by have := hok.2.1; have := hok.2.2.2.1; omega
  have c1 := hq.cell 1
  have f1 := hq.free 1
  unfold QS.vs at c1
  clear hq hok
  by_cases h : q.live = 0
  · have HK : Hid (codeC q = 1 ∧ nextC q = q) := by show _ ∧ _; simp [codeC, nextC, h]
    have t1 : (q.live == 0) = true := by rw [beq_iff_eq]; exact h
    clear h
    go_enter Try.func23, Try.ntmps23
    go_wp2
    go_ret
    exact ⟨by rw [HK.out.1]; rfl, by rw [HK.out.2]; exact HQ.out, Chg.refl _ _⟩
  · have HK : Hid (codeC q = 0 ∧ nextC q = { q with live := q.live - 1 }) := by show _ ∧ _; simp [codeC, nextC, h]
    have t1 : (q.live == 0) = false := by rw [beq_eq_false_iff_ne]; exact h
    clear h
    go_enter Try.func23, Try.ntmps23
    go_wp2
    go_ret
    exact ⟨by rw [HK.out.1]; rfl, by rw [HK.out.2]; exact HQ.out.set 1 _, (Chg.refl _ _).set 1 _⟩
def LeftPost (q : QS) (w : World) (e : Ending) (w' : World) : Prop := e = .returned (.tuple #[.int .i64 q.live, .agg #[.int .i64 q.orch, .int .i64 q.p0, .int .i64 q.p1, .int .i64 q.p2, .int .i64 q.p3]]) ∧ Below w.heap.size w w'
theorem rleft_any (g : Nat) (q : QS) (w : World) (hq : At w g 81 q.vs) : Calls Try.prog 24 #[.pointer (some ⟨g, 0, none⟩)] w (LeftPost q w) := by
  have hlt := hq.lt
  have c1 := hq.cell 1
  have c2 := hq.cell 2
  have c3 := hq.cell 3
  have c4 := hq.cell 4
  have c5 := hq.cell 5
  have c6 := hq.cell 6
  unfold QS.vs at c1 c2 c3 c4 c5 c6
  clear hq
  go_enter Try.func24, Try.ntmps24
  go_wp2_with fail
  go_region
  all_goals
    go_wp2_with fail
    exact bodyPost_ret (v := .tuple #[.int .i64 q.live, .agg #[.int .i64 q.orch, .int .i64 q.p0, .int .i64 q.p1, .int .i64 q.p2, .int .i64 q.p3]]) (by simp [results, Try.results24, go_sem]) rfl ⟨rfl, ((Below.refl _ _).alloc (Nat.le_refl _) _).drew⟩
theorem left_any (g : Nat) (q : QS) (w : World) (hq : At w g 79 q.vs) : Calls Try.prog 19 #[.pointer (some ⟨g, 0, none⟩)] w (LeftPost q w) := by
  have hlt := hq.lt
  have HQ := Lib.hid hq
  have c2 := hq.cell 2
  unfold QS.vs at c2
  clear hq
  go_enter Try.func19, Try.ntmps19
  go_wp2_with fail
  clear c2
  go_loopw [12] (fun i wr => ∃ k : Nat, k ≤ 4 ∧ i = .int .i64 k ∧ At wr (w.heap.size + 1) 42 [.int .i64 q.orch, .int .i64 (if 0 < k then q.p0 else 0), .int .i64 (if 1 < k then q.p1 else 0), .int .i64 (if 2 < k then q.p2 else 0), .int .i64 (if 3 < k then q.p3 else 0)] ∧ At wr w.heap.size 42 [.int .i64 0, .int .i64 0, .int .i64 0, .int .i64 0, .int .i64 0] ∧ At wr g 79 q.vs ∧ Below w.heap.size w wr) (fun i _ => 4 - (intOf i).toNat)
  case atStart =>
    refine ⟨0, by omega, rfl, ?_, (At.new w 42 _).alloc _, (HQ.out.alloc _).alloc _, ((Below.refl _ w).alloc (Nat.le_refl _) _).alloc (by simp) _⟩
    have := At.new (w.alloc (.cells #[.int .i64 0, .int .i64 0, .int .i64 0, .int .i64 0, .int .i64 0] 42)) 42 #[.int .i64 q.orch, .int .i64 0, .int .i64 0, .int .i64 0, .int .i64 0]
    simpa using this
  case round =>
    obtain ⟨k, hk, rfl, hA, hR, hQ2, hB⟩ := hrel
    have HAK := Lib.hid hA
    have HRK := Lib.hid hR
    have HQK := Lib.hid hQ2
    have HBK := Lib.hid hB
    clear hA hR hQ2 hB
    have hcase : k = 0 ∨ k = 1 ∨ k = 2 ∨ k = 3 ∨ k = 4 := by omega
    rcases hcase with rfl | rfl | rfl | rfl | rfl
    · have hc := HQK.out.cell 3
      have hc2 := HAK.out.cell 1
      have hf2 := HAK.out.free 1
      unfold QS.vs at hc
      go_wp2_with fail
      clear hc hc2 hf2
      go_roundw
      case rel => exact ⟨1, by omega, by go_num, HAK.out.set 1 _, HRK.out.far (by show _ ≠ _ + 1; omega) _, HQK.out.far (by show _ ≠ _ + 1; omega) _, HBK.out.setCell (by show _ ≤ _ + 1; omega) _⟩
      case measure => simp [intOf]
    · have hc := HQK.out.cell 4
      have hc2 := HAK.out.cell 2
      have hf2 := HAK.out.free 2
      unfold QS.vs at hc
      go_wp2_with fail
      clear hc hc2 hf2
      go_roundw
      case rel => exact ⟨2, by omega, by go_num, HAK.out.set 2 _, HRK.out.far (by show _ ≠ _ + 1; omega) _, HQK.out.far (by show _ ≠ _ + 1; omega) _, HBK.out.setCell (by show _ ≤ _ + 1; omega) _⟩
      case measure => simp [intOf]
    · have hc := HQK.out.cell 5
      have hc2 := HAK.out.cell 3
      have hf2 := HAK.out.free 3
      unfold QS.vs at hc
      go_wp2_with fail
      clear hc hc2 hf2
      go_roundw
      case rel => exact ⟨3, by omega, by go_num, HAK.out.set 3 _, HRK.out.far (by show _ ≠ _ + 1; omega) _, HQK.out.far (by show _ ≠ _ + 1; omega) _, HBK.out.setCell (by show _ ≤ _ + 1; omega) _⟩
      case measure => simp [intOf]
    · have hc := HQK.out.cell 6
      have hc2 := HAK.out.cell 4
      have hf2 := HAK.out.free 4
      unfold QS.vs at hc
      go_wp2_with fail
      clear hc hc2 hf2
      go_roundw
      case rel => exact ⟨4, by omega, by go_num, HAK.out.set 4 _, HRK.out.far (by show _ ≠ _ + 1; omega) _, HQK.out.far (by show _ ≠ _ + 1; omega) _, HBK.out.setCell (by show _ ≤ _ + 1; omega) _⟩
      case measure => simp [intOf]
    · have hc1 := HQK.out.cell 1
      unfold QS.vs at hc1
      have a0 := HAK.out.cell 0
      have a1 := HAK.out.cell 1
      have a2 := HAK.out.cell 2
      have a3 := HAK.out.cell 3
      have a4 := HAK.out.cell 4
      have b0 := HRK.out.cell 0
      have b1 := HRK.out.cell 1
      have b2 := HRK.out.cell 2
      have b3 := HRK.out.cell 3
      have b4 := HRK.out.cell 4
      have f0 := HRK.out.free 0
      have f1 := HRK.out.free 1
      have f2 := HRK.out.free 2
      have f3 := HRK.out.free 3
      have f4 := HRK.out.free 4
      go_wp2_with fail
      go_region
      all_goals
        go_wp2_with fail
        clear b0 b1 b2 b3 b4 f0 f1 f2 f3 f4 a0 a1 a2 a3 a4 hc1
        have hR := ((((HRK.out.set 0 (.int .i64 q.orch)).set 1 (.int .i64 q.p0)).set 2 (.int .i64 q.p1)).set 3 (.int .i64 q.p2)).set 4 (.int .i64 q.p3)
        have r0 := hR.cell 0
        have r1 := hR.cell 1
        have r2 := hR.cell 2
        have r3 := hR.cell 3
        have r4 := hR.cell 4
        have HBF := Lib.hid (((((HBK.out.setCell (p := ⟨w.heap.size, 0, none⟩) (Nat.le_refl _) (.int .i64 q.orch)).setCell (p := ⟨w.heap.size, 1, none⟩) (Nat.le_refl _) (.int .i64 q.p0)).setCell (p := ⟨w.heap.size, 2, none⟩) (Nat.le_refl _) (.int .i64 q.p1)).setCell (p := ⟨w.heap.size, 3, none⟩) (Nat.le_refl _) (.int .i64 q.p2)).setCell (p := ⟨w.heap.size, 4, none⟩) (Nat.le_refl _) (.int .i64 q.p3)).drew
        clear hR
        generalize ((((wr.setCell ⟨w.heap.size, 0, none⟩ (.int .i64 q.orch)).setCell ⟨w.heap.size, 1, none⟩ (.int .i64 q.p0)).setCell ⟨w.heap.size, 2, none⟩ (.int .i64 q.p1)).setCell ⟨w.heap.size, 3, none⟩ (.int .i64 q.p2)).setCell ⟨w.heap.size, 4, none⟩ (.int .i64 q.p3) = w6 at *
        exact bodyPost_ret (v := .tuple #[.int .i64 q.live, .agg #[.int .i64 q.orch, .int .i64 q.p0, .int .i64 q.p1, .int .i64 q.p2, .int .i64 q.p3]]) (by simp [results, Try.results19, go_sem, r0, r1, r2, r3, r4]) rfl ⟨rfl, HBF.out⟩
end Go.Proofs.Ytmkbehdfchjeoaa
