/- The program's first, for each of its four function values. -/
import Derived.Test.YtpmoanjeoaeabaaDoorCM
set_option linter.unusedVariables false
set_option linter.unusedSimpArgs false
set_option linter.unnecessarySimpa false
set_option maxRecDepth 100000
namespace Go.Proofs.YtpmoanjeoaeabaaDoor
open Go.RowKit Go.ChangeShapes Go.WideShapes Go.ChangeAt
def FxRel (I : Nat → World → Prop) (n : Nat) (p : Nat → Bool) (i : Value) (wr : World) : Prop := ∃ k : Nat, k ≤ n ∧ i = .int .i64 k ∧ I k wr ∧ ∀ j, j < k → p j = false
set_option maxHeartbeats 1600000 in
theorem first39 {w : World} (d : Df) (hm : d.steps.length ≤ 1000000) (cap : Array Value) (p : Nat → Bool) (I : Nat → World → Prop) (h0 : I 0 (w.alloc (.cells #[.string d.name, .slice d.A d.steps.length d.c] 24)))
    (hp : ∀ k w1, k < d.steps.length → I k w1 → Calls Tryd.prog 39 (#[.int .i64 k] ++ cap) w1 fun e w' => e = .returned (.bool (p k)) ∧ I (k + 1) w') :
    Calls Tryd.prog 38 #[d.v, .func (.func 39) #[] cap] w fun e w' => e = .returned (.int .i64 (retI d.steps.length p)) ∧ ∃ k, I k w' := by
  have HP := Lib.hid hp
  have H0 := Lib.hid h0
  have h1 := (Sat.start w).new #[.string d.name, .slice d.A d.steps.length d.c] 24
  obtain ⟨b, hb⟩ : ∃ b, w.heap.size = b := ⟨_, rfl⟩
  rw [hb] at h1
  have a1 := h1.blk.cell 1
  unfold Df.v
  obtain ⟨n, hN⟩ : ∃ n, d.steps.length = n := ⟨_, rfl⟩
  rw [hN] at HP hm a1 H0 ⊢
  clear hp h0 h1 hN
  go_enter Tryd.func38, Tryd.ntmps38
  go_wp2_with fail
  go_loopw [9] (FxRel I n p) (fun i _ => n - (intOf i).toNat)
  case atStart => exact ⟨0, Nat.zero_le _, rfl, H0.out, fun j hj => absurd hj (Nat.not_lt_zero _)⟩
  case round =>
    obtain ⟨k, hk, rfl, hb1, ha⟩ := hrel
    clear H0 a1
    by_cases hlt : k < n
    · have HCL := Lib.hid (HP.out k wr hlt hb1)
      have HX : Hid (∀ b, p k = b → (b = true → retI n p = k) ∧ (b = false → ∀ j, j < k + 1 → p j = false)) := fun b hb => ⟨fun e => ret_hit hlt (hb.trans e) ha, fun e j hj => by
        by_cases hjk2 : j < k
        · exact ha j hjk2
        · obtain rfl : j = k := by omega
          exact hb.trans e⟩
      obtain ⟨v, hv⟩ : ∃ b, p k = b := ⟨_, rfl⟩
      have HX2 := Lib.hid (HX.out v hv)
      rw [hv] at HCL
      clear hb1 ha HX hv HP
      cases v with
      | true =>
        have HF := Lib.hid (HX2.out.1 rfl)
        go_wp2_with fail
        refine HCL.out.mono ?_
        rintro e w' ⟨rfl, hb'⟩
        have HB2 := Lib.hid hb'
        clear hb'
        go_wp2_with fail
        go_ret
        exact ⟨by rw [HF.out]; rfl, k + 1, HB2.out⟩
      | false =>
        have HF := Lib.hid (HX2.out.2 rfl)
        go_wp2_with fail
        refine HCL.out.mono ?_
        rintro e w' ⟨rfl, hb'⟩
        have HB2 := Lib.hid hb'
        clear hb'
        go_wp2_with fail
        go_roundw
        case rel => exact ⟨k + 1, by omega, by go_num, HB2.out, HF.out⟩
        case measure => simp [intOf]; omega
    · have HB := Lib.hid hb1
      have HF := Lib.hid (ret_none (n := n) (p := p) fun j hj => ha j (by omega))
      clear hb1 ha
      go_wp2_with fail
      go_ret
      exact ⟨by rw [HF.out]; rfl, k, HB.out⟩
set_option maxHeartbeats 1600000 in
theorem first40 {w : World} (d : Df) (hm : d.steps.length ≤ 1000000) (cap : Array Value) (p : Nat → Bool) (I : Nat → World → Prop) (h0 : I 0 (w.alloc (.cells #[.string d.name, .slice d.A d.steps.length d.c] 24)))
    (hp : ∀ k w1, k < d.steps.length → I k w1 → Calls Tryd.prog 40 (#[.int .i64 k] ++ cap) w1 fun e w' => e = .returned (.bool (p k)) ∧ I (k + 1) w') :
    Calls Tryd.prog 38 #[d.v, .func (.func 40) #[] cap] w fun e w' => e = .returned (.int .i64 (retI d.steps.length p)) ∧ ∃ k, I k w' := by
  have HP := Lib.hid hp
  have H0 := Lib.hid h0
  have h1 := (Sat.start w).new #[.string d.name, .slice d.A d.steps.length d.c] 24
  obtain ⟨b, hb⟩ : ∃ b, w.heap.size = b := ⟨_, rfl⟩
  rw [hb] at h1
  have a1 := h1.blk.cell 1
  unfold Df.v
  obtain ⟨n, hN⟩ : ∃ n, d.steps.length = n := ⟨_, rfl⟩
  rw [hN] at HP hm a1 H0 ⊢
  clear hp h0 h1 hN
  go_enter Tryd.func38, Tryd.ntmps38
  go_wp2_with fail
  go_loopw [9] (FxRel I n p) (fun i _ => n - (intOf i).toNat)
  case atStart => exact ⟨0, Nat.zero_le _, rfl, H0.out, fun j hj => absurd hj (Nat.not_lt_zero _)⟩
  case round =>
    obtain ⟨k, hk, rfl, hb1, ha⟩ := hrel
    clear H0 a1
    by_cases hlt : k < n
    · have HCL := Lib.hid (HP.out k wr hlt hb1)
      have HX : Hid (∀ b, p k = b → (b = true → retI n p = k) ∧ (b = false → ∀ j, j < k + 1 → p j = false)) := fun b hb => ⟨fun e => ret_hit hlt (hb.trans e) ha, fun e j hj => by
        by_cases hjk2 : j < k
        · exact ha j hjk2
        · obtain rfl : j = k := by omega
          exact hb.trans e⟩
      obtain ⟨v, hv⟩ : ∃ b, p k = b := ⟨_, rfl⟩
      have HX2 := Lib.hid (HX.out v hv)
      rw [hv] at HCL
      clear hb1 ha HX hv HP
      cases v with
      | true =>
        have HF := Lib.hid (HX2.out.1 rfl)
        go_wp2_with fail
        refine HCL.out.mono ?_
        rintro e w' ⟨rfl, hb'⟩
        have HB2 := Lib.hid hb'
        clear hb'
        go_wp2_with fail
        go_ret
        exact ⟨by rw [HF.out]; rfl, k + 1, HB2.out⟩
      | false =>
        have HF := Lib.hid (HX2.out.2 rfl)
        go_wp2_with fail
        refine HCL.out.mono ?_
        rintro e w' ⟨rfl, hb'⟩
        have HB2 := Lib.hid hb'
        clear hb'
        go_wp2_with fail
        go_roundw
        case rel => exact ⟨k + 1, by omega, by go_num, HB2.out, HF.out⟩
        case measure => simp [intOf]; omega
    · have HB := Lib.hid hb1
      have HF := Lib.hid (ret_none (n := n) (p := p) fun j hj => ha j (by omega))
      clear hb1 ha
      go_wp2_with fail
      go_ret
      exact ⟨by rw [HF.out]; rfl, k, HB.out⟩
set_option maxHeartbeats 1600000 in
theorem first44 {w : World} (d : Df) (hm : d.steps.length ≤ 1000000) (cap : Array Value) (p : Nat → Bool) (I : Nat → World → Prop) (h0 : I 0 (w.alloc (.cells #[.string d.name, .slice d.A d.steps.length d.c] 24)))
    (hp : ∀ k w1, k < d.steps.length → I k w1 → Calls Tryd.prog 44 (#[.int .i64 k] ++ cap) w1 fun e w' => e = .returned (.bool (p k)) ∧ I (k + 1) w') :
    Calls Tryd.prog 38 #[d.v, .func (.func 44) #[] cap] w fun e w' => e = .returned (.int .i64 (retI d.steps.length p)) ∧ ∃ k, I k w' := by
  have HP := Lib.hid hp
  have H0 := Lib.hid h0
  have h1 := (Sat.start w).new #[.string d.name, .slice d.A d.steps.length d.c] 24
  obtain ⟨b, hb⟩ : ∃ b, w.heap.size = b := ⟨_, rfl⟩
  rw [hb] at h1
  have a1 := h1.blk.cell 1
  unfold Df.v
  obtain ⟨n, hN⟩ : ∃ n, d.steps.length = n := ⟨_, rfl⟩
  rw [hN] at HP hm a1 H0 ⊢
  clear hp h0 h1 hN
  go_enter Tryd.func38, Tryd.ntmps38
  go_wp2_with fail
  go_loopw [9] (FxRel I n p) (fun i _ => n - (intOf i).toNat)
  case atStart => exact ⟨0, Nat.zero_le _, rfl, H0.out, fun j hj => absurd hj (Nat.not_lt_zero _)⟩
  case round =>
    obtain ⟨k, hk, rfl, hb1, ha⟩ := hrel
    clear H0 a1
    by_cases hlt : k < n
    · have HCL := Lib.hid (HP.out k wr hlt hb1)
      have HX : Hid (∀ b, p k = b → (b = true → retI n p = k) ∧ (b = false → ∀ j, j < k + 1 → p j = false)) := fun b hb => ⟨fun e => ret_hit hlt (hb.trans e) ha, fun e j hj => by
        by_cases hjk2 : j < k
        · exact ha j hjk2
        · obtain rfl : j = k := by omega
          exact hb.trans e⟩
      obtain ⟨v, hv⟩ : ∃ b, p k = b := ⟨_, rfl⟩
      have HX2 := Lib.hid (HX.out v hv)
      rw [hv] at HCL
      clear hb1 ha HX hv HP
      cases v with
      | true =>
        have HF := Lib.hid (HX2.out.1 rfl)
        go_wp2_with fail
        refine HCL.out.mono ?_
        rintro e w' ⟨rfl, hb'⟩
        have HB2 := Lib.hid hb'
        clear hb'
        go_wp2_with fail
        go_ret
        exact ⟨by rw [HF.out]; rfl, k + 1, HB2.out⟩
      | false =>
        have HF := Lib.hid (HX2.out.2 rfl)
        go_wp2_with fail
        refine HCL.out.mono ?_
        rintro e w' ⟨rfl, hb'⟩
        have HB2 := Lib.hid hb'
        clear hb'
        go_wp2_with fail
        go_roundw
        case rel => exact ⟨k + 1, by omega, by go_num, HB2.out, HF.out⟩
        case measure => simp [intOf]; omega
    · have HB := Lib.hid hb1
      have HF := Lib.hid (ret_none (n := n) (p := p) fun j hj => ha j (by omega))
      clear hb1 ha
      go_wp2_with fail
      go_ret
      exact ⟨by rw [HF.out]; rfl, k, HB.out⟩
set_option maxHeartbeats 1600000 in
theorem first70 {w : World} (d : Df) (hm : d.steps.length ≤ 1000000) (cap : Array Value) (p : Nat → Bool) (I : Nat → World → Prop) (h0 : I 0 (w.alloc (.cells #[.string d.name, .slice d.A d.steps.length d.c] 24)))
    (hp : ∀ k w1, k < d.steps.length → I k w1 → Calls Tryd.prog 70 (#[.int .i64 k] ++ cap) w1 fun e w' => e = .returned (.bool (p k)) ∧ I (k + 1) w') :
    Calls Tryd.prog 38 #[d.v, .func (.func 70) #[] cap] w fun e w' => e = .returned (.int .i64 (retI d.steps.length p)) ∧ ∃ k, I k w' := by
  have HP := Lib.hid hp
  have H0 := Lib.hid h0
  have h1 := (Sat.start w).new #[.string d.name, .slice d.A d.steps.length d.c] 24
  obtain ⟨b, hb⟩ : ∃ b, w.heap.size = b := ⟨_, rfl⟩
  rw [hb] at h1
  have a1 := h1.blk.cell 1
  unfold Df.v
  obtain ⟨n, hN⟩ : ∃ n, d.steps.length = n := ⟨_, rfl⟩
  rw [hN] at HP hm a1 H0 ⊢
  clear hp h0 h1 hN
  go_enter Tryd.func38, Tryd.ntmps38
  go_wp2_with fail
  go_loopw [9] (FxRel I n p) (fun i _ => n - (intOf i).toNat)
  case atStart => exact ⟨0, Nat.zero_le _, rfl, H0.out, fun j hj => absurd hj (Nat.not_lt_zero _)⟩
  case round =>
    obtain ⟨k, hk, rfl, hb1, ha⟩ := hrel
    clear H0 a1
    by_cases hlt : k < n
    · have HCL := Lib.hid (HP.out k wr hlt hb1)
      have HX : Hid (∀ b, p k = b → (b = true → retI n p = k) ∧ (b = false → ∀ j, j < k + 1 → p j = false)) := fun b hb => ⟨fun e => ret_hit hlt (hb.trans e) ha, fun e j hj => by
        by_cases hjk2 : j < k
        · exact ha j hjk2
        · obtain rfl : j = k := by omega
          exact hb.trans e⟩
      obtain ⟨v, hv⟩ : ∃ b, p k = b := ⟨_, rfl⟩
      have HX2 := Lib.hid (HX.out v hv)
      rw [hv] at HCL
      clear hb1 ha HX hv HP
      cases v with
      | true =>
        have HF := Lib.hid (HX2.out.1 rfl)
        go_wp2_with fail
        refine HCL.out.mono ?_
        rintro e w' ⟨rfl, hb'⟩
        have HB2 := Lib.hid hb'
        clear hb'
        go_wp2_with fail
        go_ret
        exact ⟨by rw [HF.out]; rfl, k + 1, HB2.out⟩
      | false =>
        have HF := Lib.hid (HX2.out.2 rfl)
        go_wp2_with fail
        refine HCL.out.mono ?_
        rintro e w' ⟨rfl, hb'⟩
        have HB2 := Lib.hid hb'
        clear hb'
        go_wp2_with fail
        go_roundw
        case rel => exact ⟨k + 1, by omega, by go_num, HB2.out, HF.out⟩
        case measure => simp [intOf]; omega
    · have HB := Lib.hid hb1
      have HF := Lib.hid (ret_none (n := n) (p := p) fun j hj => ha j (by omega))
      clear hb1 ha
      go_wp2_with fail
      go_ret
      exact ⟨by rw [HF.out]; rfl, k, HB.out⟩
def SyRel (I : World → Prop) (n : Nat) (p : Nat → Bool) (i : Value) (wr : World) : Prop := ∃ k : Nat, k ≤ n ∧ i = .int .i64 k ∧ I wr ∧ ∀ j, j < k → p j = false
set_option maxHeartbeats 1600000 in
theorem index42 {w : World} {A : Option Addr} (n c : Nat) (el : Nat → Int) (cap : Array Value) (p : Nat → Bool) (I : World → Prop) (h0 : I w) (hm : n ≤ 1000000000000000000)
    (hc : ∀ w1, I w1 → ∀ k, k < n → ∃ b o, A = some ⟨b, o, none⟩ ∧ w1.cell? ⟨b, o + k, none⟩ = some (.int .i64 (el k)))
    (hp : ∀ k w1, k < n → I w1 → Calls Tryd.prog 42 (#[.int .i64 (el k)] ++ cap) w1 fun e w' => e = .returned (.bool (p k)) ∧ I w') :
    Calls Tryd.prog 69 #[.slice A n c, .func (.func 42) #[] cap] w fun e w' => e = .returned (.int .i64 (retI n p)) ∧ I w' := by
  have HP := Lib.hid hp
  have HC := Lib.hid hc
  have H0 := Lib.hid h0
  clear hp h0 hc
  go_enter Tryd.func69, Tryd.ntmps69
  go_wp2_with fail
  go_loopw [8] (SyRel I n p) (fun i _ => n - (intOf i).toNat)
  case atStart => exact ⟨0, Nat.zero_le _, rfl, H0.out, fun j hj => absurd hj (Nat.not_lt_zero _)⟩
  case round =>
    obtain ⟨k, hk, rfl, hb1, ha⟩ := hrel
    clear H0
    by_cases hlt : k < n
    · have HCL := Lib.hid (HP.out k wr hlt hb1)
      obtain ⟨b, o, hA, c0⟩ := HC.out wr hb1 k hlt
      rw [hA]
      have HX : Hid (∀ b, p k = b → (b = true → retI n p = k) ∧ (b = false → ∀ j, j < k + 1 → p j = false)) := fun b hb => ⟨fun e => ret_hit hlt (hb.trans e) ha, fun e j hj => by
        by_cases hjk2 : j < k
        · exact ha j hjk2
        · obtain rfl : j = k := by omega
          exact hb.trans e⟩
      obtain ⟨v, hv⟩ : ∃ b, p k = b := ⟨_, rfl⟩
      have HX2 := Lib.hid (HX.out v hv)
      obtain ⟨x, hx⟩ : ∃ x, el k = x := ⟨_, rfl⟩
      rw [hx] at c0 HCL
      rw [hv] at HCL
      clear hb1 ha HX hv HP HC hx
      cases v with
      | true =>
        have HF := Lib.hid (HX2.out.1 rfl)
        go_wp2_with fail
        refine HCL.out.mono ?_
        rintro e w' ⟨rfl, hb'⟩
        have HB2 := Lib.hid hb'
        clear hb'
        go_wp2_with fail
        go_ret
        exact ⟨by rw [HF.out]; rfl, HB2.out⟩
      | false =>
        have HF := Lib.hid (HX2.out.2 rfl)
        go_wp2_with fail
        refine HCL.out.mono ?_
        rintro e w' ⟨rfl, hb'⟩
        have HB2 := Lib.hid hb'
        clear hb'
        go_wp2_with fail
        go_roundw
        case rel => exact ⟨k + 1, by omega, by go_num, HB2.out, HF.out⟩
        case measure => simp [intOf]; omega
    · have HB := Lib.hid hb1
      have HF := Lib.hid (ret_none (n := n) (p := p) fun j hj => ha j (by omega))
      clear hb1 ha
      go_wp2_with fail
      go_ret
      exact ⟨by rw [HF.out]; rfl, HB.out⟩
theorem contains42 {w : World} {A : Option Addr} (n c : Nat) (el : Nat → Int) (cap : Array Value) (p : Nat → Bool) (I : World → Prop) (h0 : I w) (hm : n ≤ 1000000000000000000)
    (hc : ∀ w1, I w1 → ∀ k, k < n → ∃ b o, A = some ⟨b, o, none⟩ ∧ w1.cell? ⟨b, o + k, none⟩ = some (.int .i64 (el k)))
    (hp : ∀ k w1, k < n → I w1 → Calls Tryd.prog 42 (#[.int .i64 (el k)] ++ cap) w1 fun e w' => e = .returned (.bool (p k)) ∧ I w') :
    Calls Tryd.prog 41 #[.slice A n c, .func (.func 42) #[] cap] w fun e w' => e = .returned (.bool (decide (∃ k, k < n ∧ p k = true))) ∧ I w' := by
  have h1 := Lib.hid (index42 n c el cap p I h0 hm hc hp)
  rw [← ret_ge]
  clear hp hc h0
  obtain ⟨r, hr⟩ : ∃ r, retI n p = r := ⟨_, rfl⟩
  rw [hr] at h1 ⊢
  clear hr
  go_enter Tryd.func41, Tryd.ntmps41
  go_wp2_with fail
  refine h1.out.mono ?_
  rintro e w1 ⟨rfl, hb⟩
  have HB := Lib.hid hb
  clear hb
  go_wp2_with fail
  go_ret
  exact ⟨rfl, HB.out⟩
set_option maxHeartbeats 1600000 in
theorem index46 {w : World} {A : Option Addr} (n c : Nat) (el : Nat → ByteArray) (cap : Array Value) (p : Nat → Bool) (I : World → Prop) (h0 : I w) (hm : n ≤ 1000000000000000000)
    (hc : ∀ w1, I w1 → ∀ k, k < n → ∃ b o, A = some ⟨b, o, none⟩ ∧ w1.cell? ⟨b, o + k, none⟩ = some (.string (el k)))
    (hp : ∀ k w1, k < n → I w1 → Calls Tryd.prog 46 (#[.string (el k)] ++ cap) w1 fun e w' => e = .returned (.bool (p k)) ∧ I w') :
    Calls Tryd.prog 72 #[.slice A n c, .func (.func 46) #[] cap] w fun e w' => e = .returned (.int .i64 (retI n p)) ∧ I w' := by
  have HP := Lib.hid hp
  have HC := Lib.hid hc
  have H0 := Lib.hid h0
  clear hp h0 hc
  go_enter Tryd.func72, Tryd.ntmps72
  go_wp2_with fail
  go_loopw [8] (SyRel I n p) (fun i _ => n - (intOf i).toNat)
  case atStart => exact ⟨0, Nat.zero_le _, rfl, H0.out, fun j hj => absurd hj (Nat.not_lt_zero _)⟩
  case round =>
    obtain ⟨k, hk, rfl, hb1, ha⟩ := hrel
    clear H0
    by_cases hlt : k < n
    · have HCL := Lib.hid (HP.out k wr hlt hb1)
      obtain ⟨b, o, hA, c0⟩ := HC.out wr hb1 k hlt
      rw [hA]
      have HX : Hid (∀ b, p k = b → (b = true → retI n p = k) ∧ (b = false → ∀ j, j < k + 1 → p j = false)) := fun b hb => ⟨fun e => ret_hit hlt (hb.trans e) ha, fun e j hj => by
        by_cases hjk2 : j < k
        · exact ha j hjk2
        · obtain rfl : j = k := by omega
          exact hb.trans e⟩
      obtain ⟨v, hv⟩ : ∃ b, p k = b := ⟨_, rfl⟩
      have HX2 := Lib.hid (HX.out v hv)
      obtain ⟨x, hx⟩ : ∃ x, el k = x := ⟨_, rfl⟩
      rw [hx] at c0 HCL
      rw [hv] at HCL
      clear hb1 ha HX hv HP HC hx
      cases v with
      | true =>
        have HF := Lib.hid (HX2.out.1 rfl)
        go_wp2_with fail
        refine HCL.out.mono ?_
        rintro e w' ⟨rfl, hb'⟩
        have HB2 := Lib.hid hb'
        clear hb'
        go_wp2_with fail
        go_ret
        exact ⟨by rw [HF.out]; rfl, HB2.out⟩
      | false =>
        have HF := Lib.hid (HX2.out.2 rfl)
        go_wp2_with fail
        refine HCL.out.mono ?_
        rintro e w' ⟨rfl, hb'⟩
        have HB2 := Lib.hid hb'
        clear hb'
        go_wp2_with fail
        go_roundw
        case rel => exact ⟨k + 1, by omega, by go_num, HB2.out, HF.out⟩
        case measure => simp [intOf]; omega
    · have HB := Lib.hid hb1
      have HF := Lib.hid (ret_none (n := n) (p := p) fun j hj => ha j (by omega))
      clear hb1 ha
      go_wp2_with fail
      go_ret
      exact ⟨by rw [HF.out]; rfl, HB.out⟩
theorem contains46 {w : World} {A : Option Addr} (n c : Nat) (el : Nat → ByteArray) (cap : Array Value) (p : Nat → Bool) (I : World → Prop) (h0 : I w) (hm : n ≤ 1000000000000000000)
    (hc : ∀ w1, I w1 → ∀ k, k < n → ∃ b o, A = some ⟨b, o, none⟩ ∧ w1.cell? ⟨b, o + k, none⟩ = some (.string (el k)))
    (hp : ∀ k w1, k < n → I w1 → Calls Tryd.prog 46 (#[.string (el k)] ++ cap) w1 fun e w' => e = .returned (.bool (p k)) ∧ I w') :
    Calls Tryd.prog 45 #[.slice A n c, .func (.func 46) #[] cap] w fun e w' => e = .returned (.bool (decide (∃ k, k < n ∧ p k = true))) ∧ I w' := by
  have h1 := Lib.hid (index46 n c el cap p I h0 hm hc hp)
  rw [← ret_ge]
  clear hp hc h0
  obtain ⟨r, hr⟩ : ∃ r, retI n p = r := ⟨_, rfl⟩
  rw [hr] at h1 ⊢
  clear hr
  go_enter Tryd.func45, Tryd.ntmps45
  go_wp2_with fail
  refine h1.out.mono ?_
  rintro e w1 ⟨rfl, hb⟩
  have HB := Lib.hid hb
  clear hb
  go_wp2_with fail
  go_ret
  exact ⟨rfl, HB.out⟩
end Go.Proofs.YtpmoanjeoaeabaaDoor
