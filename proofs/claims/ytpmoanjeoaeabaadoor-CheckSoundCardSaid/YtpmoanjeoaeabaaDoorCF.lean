/- The program's needs of a step. -/
import Derived.Test.YtpmoanjeoaeabaaDoorCE
set_option linter.unusedVariables false
set_option linter.unusedSimpArgs false
set_option linter.unnecessarySimpa false
set_option maxRecDepth 100000
namespace Go.Proofs.YtpmoanjeoaeabaaDoor
open Go.RowKit Go.ChangeShapes Go.WideShapes Go.ChangeAt
def lastOf (l : List Int) (k : Nat) : Int := if k = 0 then -1 else l.getD (k - 1) 0
theorem ok_last {l : List Int} {i n k : Nat} (h : ∀ j, j < k → okAt l i n j) : okAt l i n k ↔ lastOf l k < l.getD k 0 ∧ l.getD k 0 < n ∧ l.getD k 0 ≠ i := by
  unfold lastOf okAt
  by_cases e : k = 0
  · rw [if_pos e]
    constructor
    · rintro ⟨h1, h2, h3, _⟩
      exact ⟨by omega, h2, h3⟩
    · rintro ⟨h1, h2, h3⟩
      exact ⟨by omega, h2, h3, fun g => by omega⟩
  · rw [if_neg e]
    have h0 := (h (k - 1) (by omega)).1
    constructor
    · rintro ⟨h1, h2, h3, h4⟩
      exact ⟨h4 (by omega), h2, h3⟩
    · rintro ⟨h1, h2, h3⟩
      exact ⟨by omega, h2, h3, fun _ => h1⟩
def NdRel (W : World) (b : Nat) (V : List Value) (l : List Int) (i n : Nat) (last x : Value) (wr : World) : Prop :=
  ∃ k : Nat, k ≤ l.length ∧ x = .int .i64 k ∧ last = .int .i64 (lastOf l k) ∧ Sat W wr [Blk b 24 V, Old W] ∧ ∀ j, j < k → okAt l i n j
set_option maxHeartbeats 1600000 in
theorem needs_any {w : World} (d : Df) (i : Nat) (hD : DefAt w d) (hi : i < d.steps.length) (hl : d.steps[i].needs.length ≤ 1000000000000000000) (hn : d.steps.length ≤ 1000000000000000000) :
    Calls Tryd.prog 68 #[d.v, .int .i64 i] w fun e w' => e = .returned (.bool (needsB d.steps[i].needs i d.steps.length)) ∧ Below w.heap.size w w' := by
  obtain ⟨g, o, hA, hc⟩ := step_cells hD (by omega)
  obtain ⟨_, _, _, _, c4⟩ := hc i hi
  have hE := (hD.each _ (List.getElem_mem hi)).needs
  obtain ⟨s, hs⟩ : ∃ s, d.steps[i] = s := ⟨_, rfl⟩
  rw [hs] at c4 hE hl ⊢
  clear hc hs
  obtain ⟨n, hN⟩ : ∃ n, d.steps.length = n := ⟨_, rfl⟩
  have h1 := (Sat.start w).new #[.string d.name, .slice (some ⟨g, o, none⟩) n d.c] 24
  obtain ⟨b, hb⟩ : ∃ b, w.heap.size = b := ⟨_, rfl⟩
  have hE2 := Lib.hid hE
  have x4 := old_cell (h1.old (by simp)) c4
  obtain ⟨l, hL⟩ : ∃ l, s.needs = l := ⟨_, rfl⟩
  rw [hL] at x4 hE2 hl ⊢
  unfold Df.v
  rw [hA, hN]
  rw [hN] at hi hn
  rw [hb] at h1
  have H1 := Lib.hid h1
  clear c4 hE hL hN hA h1 hD
  go_enter Tryd.func68, Tryd.ntmps68
  go_wp2_with fail
  try simp only [hb]
  go_loopw [5, 15] (NdRel w b [.string d.name, .slice (some ⟨g, o, none⟩) n d.c] l i n) (fun _ x _ => l.length - (intOf x).toNat)
  case atStart => exact ⟨0, Nat.zero_le _, rfl, rfl, H1.out, fun j hj => by omega⟩
  case round =>
    obtain ⟨k, hk, rfl, rfl, hT, hok⟩ := hrel
    clear H1 x4
    by_cases hlt : k < l.length
    · obtain ⟨b2, o2, hnA, hcell⟩ := need_cells (hE2.out.keep (hT.old (by simp))) (by omega)
      have c0 := hcell k hlt
      have c1 : wr.cell? ⟨b, 1, none⟩ = some (.slice (some ⟨g, o, none⟩) n d.c) := hT.blk.cell 1
      have hx : l[k] = l.getD k 0 := List.getElem_eq_getD (h := hlt) 0
      rw [hx] at c0
      have hiff := ok_last hok
      have hnl : lastOf l (k + 1) = l.getD k 0 := by unfold lastOf; rw [if_neg (by omega)]; rfl
      obtain ⟨x, hX⟩ : ∃ x, l.getD k 0 = x := ⟨_, rfl⟩
      obtain ⟨y, hY⟩ : ∃ x, lastOf l k = x := ⟨_, rfl⟩
      rw [hX, hY] at hiff
      rw [hX] at c0 hnl
      rw [hY]
      have HNO := Lib.hid (fun h => needs_no (i := i) (n := n) hlt h)
      have HS : Hid (okAt l i n k → ∀ j, j < k + 1 → okAt l i n j) := fun g j hj => by
        by_cases e : j = k
        · subst e; exact g
        · exact hok j (by omega)
      have HOK := Lib.hid hiff
      have HT := Lib.hid hT
      have HNL := Lib.hid hnl
      rw [hnA]
      clear hcell hx hX hY hiff hnl hT hok
      by_cases h1 : x ≤ y
      · have t1 : decide (x ≤ y) = true := decide_eq_true h1
        go_wp2_with fail
        go_ret
        exact ⟨by rw [HNO.out (fun g => by have := HOK.out.1 g; omega)]; rfl, by have h9 := HT.out.old (List.mem_cons_of_mem _ List.mem_cons_self); first | exact h9 | (rw [hb] at h9; exact h9)⟩
      have t1 : decide (x ≤ y) = false := decide_eq_false h1
      by_cases h2 : (n : Int) ≤ x
      · have t2 : decide ((n : Int) ≤ x) = true := decide_eq_true h2
        go_wp2_with fail
        go_ret
        exact ⟨by rw [HNO.out (fun g => by have := HOK.out.1 g; omega)]; rfl, by have h9 := HT.out.old (List.mem_cons_of_mem _ List.mem_cons_self); first | exact h9 | (rw [hb] at h9; exact h9)⟩
      have t2 : decide ((n : Int) ≤ x) = false := decide_eq_false h2
      by_cases h3 : x = i
      · have t3 : (x == (i : Int)) = true := by rw [beq_iff_eq]; exact h3
        have H3 := Lib.hid h3
        clear h3
        go_wp2_with fail
        go_ret
        have h3 := H3.out
        exact ⟨by rw [HNO.out (fun g => by have := HOK.out.1 g; omega)]; rfl, by have h9 := HT.out.old (List.mem_cons_of_mem _ List.mem_cons_self); first | exact h9 | (rw [hb] at h9; exact h9)⟩
      have t3 : (x == (i : Int)) = false := by rw [beq_eq_false_iff_ne]; exact h3
      go_wp2_with fail
      go_roundw
      case rel => exact ⟨k + 1, by omega, by go_num, by rw [HNL.out], HT.out, HS.out (HOK.out.2 ⟨by omega, by omega, h3⟩)⟩
      case measure => simp [intOf]; omega
    · obtain rfl : k = l.length := by omega
      have e : needsB l i n = true := decide_eq_true hok
      go_wp2_with fail
      go_ret
      exact ⟨by rw [e]; rfl, hT.old (by simp)⟩
end Go.Proofs.YtpmoanjeoaeabaaDoor
