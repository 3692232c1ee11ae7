/- The document's twice. -/
import Derived.Test.YtpmoanjeoaeabaaDoorCE
set_option linter.unusedVariables false
set_option linter.unusedSimpArgs false
set_option linter.unnecessarySimpa false
set_option maxRecDepth 100000
namespace Go.Proofs.YtpmoanjeoaeabaaDoor
open Go.RowKit Go.ChangeShapes Go.WideShapes Go.ChangeAt
theorem str_no {a b : ByteArray} (h : ¬ a = b) : (a.toList == b.toList) = false := by
  rw [beq_eq_false_iff_ne, ByteArray.toList_eq, ByteArray.toList_eq]
  intro e
  exact h (ByteArray.ext (Array.ext' e))
theorem str_yes {a b : ByteArray} (h : a = b) : (a.toList == b.toList) = true := by rw [h]; exact beq_self_eq_true _
/-- the name of a step -/
def nameAt (d : Df) (k : Nat) : ByteArray := (d.steps.getD k ⟨.empty, 0, 0, [], [], none, 0, none, 0⟩).name
theorem name_at (d : Df) (k : Nat) (h : k < d.steps.length) : d.steps[k].name = nameAt d k := by
  unfold nameAt
  rw [← List.getElem_eq_getD (h := h)]
/-- has a step ahead of step i its name? -/
def twiceB (d : Df) (i : Nat) : Bool := decide (∃ k, k < i ∧ nameAt d k = nameAt d i)
def TwRel (W : World) (b : Nat) (V : List Value) (d : Df) (i : Nat) (x : Value) (wr : World) : Prop :=
  ∃ k : Nat, k ≤ i ∧ x = .int .i64 k ∧ Sat W wr [Blk b 24 V, Old W] ∧ ∀ j, j < k → nameAt d j ≠ nameAt d i
set_option maxHeartbeats 1600000 in
theorem rtwice_any {w : World} (d : Df) (i : Nat) (hD : DefAt w d) (hi : i < d.steps.length) (hn : d.steps.length ≤ 1000000000000000000) :
    Calls Tryd.prog 75 #[d.v, .int .i64 i] w fun e w' => e = .returned (.bool (twiceB d i)) ∧ Below w.heap.size w w' := by
  obtain ⟨g, o, hA, hc⟩ := step_cells hD (by omega)
  have HC : Hid (∀ w', Below w.heap.size w w' → ∀ k, k < d.steps.length → w'.cell? ⟨g, o + k * 5, none⟩ = some (.string (nameAt d k))) := fun w' hb k hk => by
    rw [← name_at d k hk]
    exact old_cell hb (hc k hk).1
  clear hc
  obtain ⟨n, hN⟩ : ∃ n, d.steps.length = n := ⟨_, rfl⟩
  have h1 := (Sat.start w).new #[.string d.name, .slice (some ⟨g, o, none⟩) n d.c] 24
  obtain ⟨b, hb⟩ : ∃ b, w.heap.size = b := ⟨_, rfl⟩
  unfold Df.v
  rw [hA, hN]
  rw [hN] at hi hn HC
  rw [hb] at h1
  have H1 := Lib.hid h1
  clear hN hA h1 hD
  go_enter Tryd.func75, Tryd.ntmps75
  go_wp2_with fail
  try simp only [hb]
  go_loopw [5] (TwRel w b [.string d.name, .slice (some ⟨g, o, none⟩) n d.c] d i) (fun x _ => i - (intOf x).toNat)
  case atStart => exact ⟨0, Nat.zero_le _, rfl, H1.out, fun j hj => by omega⟩
  case round =>
    obtain ⟨k, hk, rfl, hT, hok⟩ := hrel
    clear H1
    have h9 := hT.old (List.mem_cons_of_mem _ List.mem_cons_self)
    by_cases hlt : k < i
    · have c0 := HC.out _ h9 k (by omega)
      have c2 := HC.out _ h9 i hi
      have c1 : wr.cell? ⟨b, 1, none⟩ = some (.slice (some ⟨g, o, none⟩) n d.c) := hT.blk.cell 1
      have hkn : k < n := by omega
      have HT := Lib.hid hT
      have HOK := Lib.hid hok
      have H9 := Lib.hid h9
      obtain ⟨x, hX⟩ : ∃ x, nameAt d k = x := ⟨_, rfl⟩
      obtain ⟨y, hY⟩ : ∃ x, nameAt d i = x := ⟨_, rfl⟩
      rw [hX] at c0
      rw [hY] at c2
      have HX := Lib.hid hX
      have HY := Lib.hid hY
      clear hX hY hT hok h9
      by_cases h1 : x = y
      · have t1 : (x.toList == y.toList) = true := str_yes h1
        have H2 : Hid (twiceB d i = true) := decide_eq_true ⟨k, hlt, by rw [HX.out, HY.out]; exact h1⟩
        clear h1
        go_wp2_with fail
        go_quiet (fail)
        go_wp2_with fail
        go_ret
        exact ⟨by rw [H2.out]; rfl, by have h9 := below_drewN H9.out nq; first | exact h9 | (rw [hb] at h9; exact h9)⟩
      · have t1 : (x.toList == y.toList) = false := str_no h1
        have H2 : Hid (∀ j, j < k + 1 → nameAt d j ≠ nameAt d i) := fun j hj => by
          by_cases e : j = k
          · subst e; rw [HX.out, HY.out]; exact h1
          · exact HOK.out j (by omega)
        clear h1
        go_wp2_with fail
        go_quiet (fail)
        go_wp2_with fail
        go_roundw
        case rel => exact ⟨k + 1, by omega, by go_num, HT.out.drewN _, H2.out⟩
        case measure => simp [intOf]; omega
    · obtain rfl : k = i := by omega
      have e : twiceB d k = false := decide_eq_false fun ⟨j, hj, g⟩ => hok j hj g
      go_wp2_with fail
      go_ret
      exact ⟨by rw [e]; rfl, by first | exact h9 | (rw [hb] at h9; exact h9)⟩
end Go.Proofs.YtpmoanjeoaeabaaDoor
