/- The program's rings. -/
import Derived.Test.YtpmoanjeoaeabaaDoorCW
import Derived.Laws.EntriesVeiled
set_option linter.unusedVariables false
set_option linter.unusedSimpArgs false
set_option linter.unnecessarySimpa false
set_option maxRecDepth 100000
namespace Go.Proofs.YtpmoanjeoaeabaaDoor
open Go.RowKit Go.ChangeShapes Go.WideShapes Go.ChangeAt
theorem within_of {d : Df} (h : NeedIn d) : Within (needN d) d.steps.length := fun k x hx => needN_in h k x hx
theorem ringB_iff {d : Df} (h : NeedIn d) (i : Nat) : ringB d i = true ↔ Reach (needN d) i i := ring_iff (within_of h) i i
section
variable {w0 w : World} {F : List HP} {b : Nat} {d : Df}
set_option maxHeartbeats 3200000 in
theorem tells70 (hD : DefAt w0 d) (hO : Old w0 ∈ F) (hz : Small d) (h8 : d.steps.length ≤ 8) (hl : ∀ k, (needN d k).length ≤ 8) (k : Nat) (hk : k < d.steps.length) (hS : Sat w0 w (Blk b 24 (boxV d) :: F)) :
    Calls Tryd.prog 70 #[.int .i64 k, .pointer (some ⟨b, 0, none⟩)] w fun e w' => e = .returned (.bool (ringB d k)) ∧ Sat w0 w' (Blk b 24 (boxV d) :: F) := by
  have h1 := hS.new #[.int .i64 0, .int .i64 0, .int .i64 0, .int .i64 0, .int .i64 0, .int .i64 0, .int .i64 0, .int .i64 0] 93
  have e8 : (#[.int .i64 0, .int .i64 0, .int .i64 0, .int .i64 0, .int .i64 0, .int .i64 0, .int .i64 0, .int .i64 0] : Array Value).toList = metV (fun _ => 0) := rfl
  rw [e8] at h1
  have hsz : (w.alloc (.cells #[.int .i64 0, .int .i64 0, .int .i64 0, .int .i64 0, .int .i64 0, .int .i64 0, .int .i64 0, .int .i64 0] 93)).heap.size = w.heap.size + 1 := by simp
  have h3 := h1.new #[.func (.func 71) #[] #[.pointer (some ⟨b, 0, none⟩), .pointer (some ⟨w.heap.size, 0, none⟩), .pointer (some ⟨w.heap.size + 1, 0, none⟩)]] 94
  rw [hsz] at h3
  have h4 := h3.r2
  have hc := along_any (b := b) (mt := w.heap.size) (ab := w.heap.size + 1) hD hO hz h8 hl 8 _ k (fun _ => 0) 0 hk (Nat.le_trans (zs_top _ _) h8) (fun _ => ⟨Int.le_refl _, Int.le_refl _⟩) (by decide) h4
  have HC := Lib.hid hc
  have HB : Hid (∀ M' : Nat → Int, Along (needN d) (fun _ => 0) M' (needN d k) k → decide (0 < M' k) = ringB d k) := fun M' ha => by
    by_cases h : 0 < M' k
    · rw [decide_eq_true h, (ringB_iff hz.need k).2 ((ha.whole (fun _ => Int.le_refl _) k).1 h)]
    · rw [decide_eq_false h]
      cases hr : ringB d k with
      | false => rfl
      | true => exact absurd ((ha.whole (fun _ => Int.le_refl _) k).2 ((ringB_iff hz.need k).1 hr)) h
  obtain ⟨v, hv⟩ : ∃ v, ringB d k = v := ⟨_, rfl⟩
  rw [hv] at HB ⊢
  clear hv
  have hk8 : k < 8 := by omega
  have i0 : (0 : Int) ≤ (k : Int) := by omega
  have i1 : (k : Int) < 8 := by omega
  clear h1 h3 h4 hS hc hD hO hz h8 hl hk hsz e8
  go_enter Tryd.func70, Tryd.ntmps70
  go_wp2_with fail
  refine HC.out.mono ?_
  rintro e w2 ⟨rfl, M2, hal, _, hT⟩
  have m0 := hT.blk.cell k
  rw [met_get _ _ hk8] at m0
  have hv := HB.out M2 hal
  have HT := Lib.hid hT.tail.tail
  obtain ⟨y, hy⟩ : ∃ y, M2 k = y := ⟨_, rfl⟩
  rw [hy] at m0 hv
  clear hal hT hy
  go_wp2_with fail
  go_ret
  exact ⟨rfl, HT.out⟩
end
end Go.Proofs.YtpmoanjeoaeabaaDoor
