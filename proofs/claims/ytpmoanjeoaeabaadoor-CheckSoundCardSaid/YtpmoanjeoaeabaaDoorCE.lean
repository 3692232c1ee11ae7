/- Reading steps, keys and needs; the needs of a step: the document's and the program's. -/
import Derived.Test.YtpmoanjeoaeabaaDoorCD
import Derived.Test.YtpmoanjeoaeabaaDoorSL
set_option linter.unusedVariables false
set_option linter.unusedSimpArgs false
set_option linter.unnecessarySimpa false
set_option maxRecDepth 100000
namespace Go.Proofs.YtpmoanjeoaeabaaDoor
open Go.RowKit Go.ChangeShapes Go.WideShapes Go.ChangeAt
section
variable {w : World} {d : Df} {A : Option Addr} {c : Nat}
theorem ones_cells {α : Type} {f : α → Value} {l : List α} (h : Elems w (.slice A l.length c) 1 (l.map fun x => [f x])) (h0 : 0 < l.length) :
    ∃ b o, A = some ⟨b, o, none⟩ ∧ ∀ k (hk : k < l.length), w.cell? ⟨b, o + k, none⟩ = some (f l[k]) := by
  obtain ⟨b, o, e, hc⟩ := h.at_.2.2 (by rw [List.length_map]; exact h0)
  refine ⟨b, o, e, fun k hk => ?_⟩
  have h1 := hc k (by rw [List.length_map]; exact hk) 0 (by decide)
  have hx : (l.map fun x => [f x]).getD k [] = [f l[k]] := by simp [List.getD, hk]
  rw [hx, Nat.mul_one, Nat.add_zero] at h1
  exact h1
theorem need_cells {l : List Int} (h : Elems w (.slice A l.length c) 1 (l.map intC)) (h0 : 0 < l.length) :
    ∃ b o, A = some ⟨b, o, none⟩ ∧ ∀ k (hk : k < l.length), w.cell? ⟨b, o + k, none⟩ = some (.int .i64 l[k]) := ones_cells (f := fun n => .int .i64 n) h h0
theorem key_cells {l : List ByteArray} (h : Elems w (.slice A l.length c) 1 (l.map strC)) (h0 : 0 < l.length) :
    ∃ b o, A = some ⟨b, o, none⟩ ∧ ∀ k (hk : k < l.length), w.cell? ⟨b, o + k, none⟩ = some (.string l[k]) := ones_cells (f := fun n => .string n) h h0
theorem step_cells (h : DefAt w d) (h0 : 0 < d.steps.length) : ∃ b o, d.A = some ⟨b, o, none⟩ ∧ ∀ k (hk : k < d.steps.length),
    w.cell? ⟨b, o + k * 5, none⟩ = some (.string d.steps[k].name) ∧ w.cell? ⟨b, o + k * 5 + 1, none⟩ = some (.int .i64 d.steps[k].kind) ∧ w.cell? ⟨b, o + k * 5 + 2, none⟩ = some (.int .i64 d.steps[k].part) ∧
    w.cell? ⟨b, o + k * 5 + 3, none⟩ = some (.slice d.steps[k].kA d.steps[k].keys.length d.steps[k].kc) ∧ w.cell? ⟨b, o + k * 5 + 4, none⟩ = some (.slice d.steps[k].nA d.steps[k].needs.length d.steps[k].nc) := by
  obtain ⟨b, o, e, hc⟩ := h.steps.at_.2.2 (by rw [List.length_map]; exact h0)
  refine ⟨b, o, e, fun k hk => ?_⟩
  have h1 := hc k (by rw [List.length_map]; exact hk)
  have hx : (d.steps.map St.vs).getD k [] = (d.steps[k]).vs := by simp [List.getD, hk]
  rw [hx] at h1
  exact ⟨h1 0 (by decide), h1 1 (by decide), h1 2 (by decide), h1 3 (by decide), h1 4 (by decide)⟩
end
/-- a need that is as it must be -/
def okAt (l : List Int) (i n : Nat) (k : Nat) : Prop := 0 ≤ l.getD k 0 ∧ l.getD k 0 < n ∧ l.getD k 0 ≠ i ∧ (0 < k → l.getD (k - 1) 0 < l.getD k 0)
instance (l : List Int) (i n k : Nat) : Decidable (okAt l i n k) := by unfold okAt; infer_instance
def needsB (l : List Int) (i n : Nat) : Bool := decide (∀ k, k < l.length → okAt l i n k)
theorem needs_no {l : List Int} {i n k : Nat} (hk : k < l.length) (h : ¬ okAt l i n k) : needsB l i n = false := decide_eq_false fun g => h (g k hk)
def RnRel (w : World) (l : List Int) (i n : Nat) (x : Value) (wr : World) : Prop := ∃ k : Nat, k ≤ l.length ∧ x = .int .i64 k ∧ Below w.heap.size w wr ∧ ∀ j, j < k → okAt l i n j
set_option maxHeartbeats 1600000 in
theorem rneeds_any {w : World} {A : Option Addr} {c : Nat} (l : List Int) (i n : Nat) (h : Elems w (.slice A l.length c) 1 (l.map intC)) (hl : l.length ≤ 1000000000000000000) :
    Calls Tryd.prog 77 #[.slice A l.length c, .int .i64 i, .int .i64 n] w fun e w' => e = .returned (.bool (needsB l i n)) ∧ Below w.heap.size w w' := by
  have HE := Lib.hid h
  clear h
  go_enter Tryd.func77, Tryd.ntmps77
  go_wp2_with fail
  go_loopw [7] (RnRel w l i n) (fun x _ => l.length - (intOf x).toNat)
  case atStart => exact ⟨0, Nat.zero_le _, rfl, Below.refl _ _, fun j hj => by omega⟩
  case round =>
    obtain ⟨k, hk, rfl, hb, hok⟩ := hrel
    by_cases hlt : k < l.length
    · obtain ⟨b, o, rfl, hcell⟩ := need_cells (HE.out.keep hb) (by omega)
      have c0 := hcell k hlt
      have c1 : 0 < k → wr.cell? ⟨b, o + (k - 1), none⟩ = some (.int .i64 (l.getD (k - 1) 0)) := fun h => by
        rw [hcell (k - 1) (by omega), ← List.getElem_eq_getD (h := by omega)]
      have hx : l[k] = l.getD k 0 := List.getElem_eq_getD (h := hlt) 0
      rw [hx] at c0
      obtain ⟨x, hX⟩ : ∃ x, l.getD k 0 = x := ⟨_, rfl⟩
      obtain ⟨y, hY⟩ : ∃ x, l.getD (k - 1) 0 = x := ⟨_, rfl⟩
      have HOK : Hid (okAt l i n k ↔ 0 ≤ x ∧ x < n ∧ x ≠ i ∧ (0 < k → y < x)) := by unfold okAt; rw [hX, hY]; exact Iff.rfl
      have HNO := Lib.hid (fun h => needs_no (i := i) (n := n) hlt h)
      have HB := Lib.hid hb
      have HOLD := Lib.hid hok
      rw [hX] at c0
      rw [hY] at c1
      clear hcell hx hX hY hb hok
      by_cases h1 : x < 0
      · have t1 : decide (x < 0) = true := decide_eq_true h1
        go_wp2_with fail
        go_quiet (fail)
        go_wp2_with fail
        go_ret
        exact ⟨by rw [HNO.out (fun g => by have := HOK.out.1 g; omega)]; rfl, below_drewN HB.out _⟩
      have t1 : decide (x < 0) = false := decide_eq_false h1
      by_cases h2 : (n : Int) ≤ x
      · have t2 : decide ((n : Int) ≤ x) = true := decide_eq_true h2
        go_wp2_with fail
        go_quiet (fail)
        go_wp2_with fail
        go_ret
        exact ⟨by rw [HNO.out (fun g => by have := HOK.out.1 g; omega)]; rfl, below_drewN HB.out _⟩
      have t2 : decide ((n : Int) ≤ x) = false := decide_eq_false h2
      by_cases h3 : x = i
      · have t3 : (x == (i : Int)) = true := by rw [beq_iff_eq]; exact h3
        have H3 := Lib.hid h3
        clear h3
        go_wp2_with fail
        go_quiet (fail)
        go_wp2_with fail
        go_ret
        have h3 := H3.out
        exact ⟨by rw [HNO.out (fun g => by have := HOK.out.1 g; omega)]; rfl, below_drewN HB.out _⟩
      have t3 : (x == (i : Int)) = false := by rw [beq_eq_false_iff_ne]; exact h3
      have HS : Hid (okAt l i n k → ∀ j, j < k + 1 → okAt l i n j) := fun g j hj => by
        by_cases e : j = k
        · subst e; exact g
        · exact HOLD.out j (by omega)
      by_cases h0 : k = 0
      · have tk : decide ((0 : Int) < (k : Int)) = false := decide_eq_false (by omega)
        have tk2 : decide (0 < k) = false := decide_eq_false (by omega)
        have H0 := Lib.hid h0
        clear c1 h0
        go_wp2_with fail
        go_quiet (fail)
        go_wp2_with fail
        go_roundw
        case rel => exact ⟨k + 1, by omega, by go_num, below_drewN HB.out _, HS.out (HOK.out.2 ⟨by omega, by omega, h3, fun h => by have := H0.out; omega⟩)⟩
        case measure => simp [intOf]; omega
      have c2 := c1 (by omega)
      have tk : decide ((0 : Int) < (k : Int)) = true := decide_eq_true (by omega)
      have tk2 : decide (0 < k) = true := decide_eq_true (by omega)
      have hk0 : 0 < k := by omega
      have sw : IntKind.i64.wrap ((k : Int) - 1) = ((k - 1 : Nat) : Int) := by
        rw [show (k : Int) - 1 = ((k - 1 : Nat) : Int) by omega]
        exact IntWalk.i64_in _ (by omega)
      have i0 : (0 : Int) ≤ ((k - 1 : Nat) : Int) := by omega
      have i1 : ((k - 1 : Nat) : Int) < (l.length : Int) := by omega
      clear c1
      by_cases h4 : x ≤ y
      · have t4 : decide (x ≤ y) = true := decide_eq_true h4
        go_wp2_with fail
        go_quiet (fail)
        go_wp2_with fail
        go_ret
        exact ⟨by rw [HNO.out (fun g => by have := (HOK.out.1 g).2.2.2 (by omega); omega)]; rfl, below_drewN HB.out _⟩
      have t4 : decide (x ≤ y) = false := decide_eq_false h4
      go_wp2_with fail
      go_quiet (fail)
      go_wp2_with fail
      go_roundw
      case rel => exact ⟨k + 1, by omega, by go_num, below_drewN HB.out _, HS.out (HOK.out.2 ⟨by omega, by omega, h3, fun h => by omega⟩)⟩
      case measure => simp [intOf]; omega
    · obtain rfl : k = l.length := by omega
      have e : needsB l i n = true := decide_eq_true hok
      go_wp2_with fail
      go_ret
      exact ⟨by rw [e]; rfl, hb⟩
end Go.Proofs.YtpmoanjeoaeabaaDoor
