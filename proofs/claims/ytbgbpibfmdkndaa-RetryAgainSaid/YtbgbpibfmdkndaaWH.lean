/- The wheel: Set. -/
import Derived.Test.YtbgbpibfmdkndaaWG
import Derived.Deep.RegionHeld3
set_option linter.unusedVariables false
set_option linter.unusedSimpArgs false
set_option linter.unnecessarySimpa false
set_option maxRecDepth 100000
namespace Go.Proofs.Ytbgbpibfmdkndaa
open Go.RowKit Go.ChangeShapes Go.WideShapes Go.ChangeAt
section
variable {w0 w : World} {F : List HP} {g T E n c : Nat} {A : Option Addr} {L : List Tm}
theorem wset_bad (id at_ : Int) (w : World) (h : ¬ (0 ≤ id ∧ 0 ≤ at_ ∧ at_ ≤ 1073741824)) :
    Calls Try.prog 34 #[.pointer (some ⟨g, 0, none⟩), .int .i64 id, .int .i64 at_] w fun e w' => e = .returned (.int .i64 1) ∧ w' = w := by
  by_cases h1 : id < 0
  · clear h
    go_enter Try.func34, Try.ntmps34
    go_wp2_with fail
    go_ret
    exact ⟨rfl, rfl⟩
  · by_cases h2 : at_ < 0
    · clear h
      go_enter Try.func34, Try.ntmps34
      go_wp2_with fail
      go_ret
      exact ⟨rfl, rfl⟩
    · have h3 : at_ > 1073741824 := by omega
      clear h
      go_enter Try.func34, Try.ntmps34
      go_wp2_with fail
      go_ret
      exact ⟨rfl, rfl⟩
set_option maxHeartbeats 1600000 in
theorem wset_ok (id at_ : Int) (hS : Sat w0 w (WheelC g 68 70 L :: F)) (hm : L.length ≤ 200) (h1 : 0 ≤ id) (h2 : 0 ≤ at_) (h3 : at_ ≤ 1073741824) :
    Calls Try.prog 34 #[.pointer (some ⟨g, 0, none⟩), .int .i64 id, .int .i64 at_] w fun e w' => e = .returned (.int .i64 (setC L id at_)) ∧ Sat w0 w' (WheelC g 68 70 (setL L id at_) :: F) := by
  have HSC : Hid (setC L id at_ = if stopB L id = false ∧ L.length = 200 then 2 else 0) := by show _ = _; unfold setC; rw [if_pos ⟨h1, h2, h3⟩]
  have HSL : Hid (setL L id at_ = if stopB L id = false ∧ L.length = 200 then L else putL (stopL L id) (id, at_)) := by show _ = _; unfold setL; rw [if_pos ⟨h1, h2, h3⟩]
  have HST := Lib.hid (wstop_any id hS (by omega))
  have hsl := stop_len L id
  have hfin : ¬ (stopB L id = false ∧ L.length = 200) → (stopL L id).length < 200 := by
    intro h
    by_cases hb : stopB L id = true
    · rw [if_pos hb] at hsl
      have : 0 < L.length := by
        unfold stopB at hb
        have := of_decide_eq_true hb
        omega
      omega
    · rw [if_neg hb] at hsl
      have : stopB L id = false := by simpa using hb
      have : L.length ≠ 200 := fun e => h ⟨this, e⟩
      omega
  have hsame : stopB L id = false → stopL L id = L := by
    intro h
    unfold stopB at h
    have := of_decide_eq_false h
    unfold stopL
    rw [List.eraseIdx_of_length_le (by omega)]
  have HSAME := Lib.hid hsame
  have HFIN := Lib.hid hfin
  obtain ⟨b, hb⟩ : ∃ b, stopB L id = b := ⟨_, rfl⟩
  obtain ⟨K, hK⟩ : ∃ K, stopL L id = K := ⟨_, rfl⟩
  rw [hb] at HSC HSL HST HSAME HFIN
  rw [hK] at HSL HST HSAME HFIN
  clear hb hK hS hsl hfin hsame
  go_enter Try.func34, Try.ntmps34
  go_wp2_with fail
  refine HST.out.mono ?_
  rintro e w1 ⟨rfl, hS1⟩
  obtain ⟨A, c, hS2⟩ := hS1.openW
  have x0 : w1.cell? ⟨g, 0, none⟩ = some (.slice A K.length c) := hS2.blk.cell 0
  clear HST hS1
  by_cases hfull : b = false ∧ L.length = 200
  · obtain ⟨rfl, hl⟩ := hfull
    have hKL := HSAME.out rfl
    subst hKL
    have t0 : ((K.length : Int) == 200) = true := by rw [beq_iff_eq]; omega
    have HR : Hid (setC K id at_ = 2 ∧ setL K id at_ = K) := ⟨by rw [HSC.out, if_pos ⟨rfl, hl⟩], by rw [HSL.out, if_pos ⟨rfl, hl⟩]⟩
    have HS2 := Lib.hid hS2
    clear hS2
    go_wp2_with fail
    go_ret
    rw [HR.out.1, HR.out.2]
    exact ⟨rfl, Sat.closeW rfl HS2.out⟩
  · have hkl := HFIN.out hfull
    have HR : Hid (setC L id at_ = 0 ∧ setL L id at_ = putL K (id, at_)) := ⟨by rw [HSC.out, if_neg hfull], by rw [HSL.out, if_neg hfull]⟩
    have hx := hS2.new #[.int .i64 id, .int .i64 at_] 70
    obtain ⟨q, hq⟩ : ∃ q, w1.heap.size = q := ⟨_, rfl⟩
    rw [hq] at hx
    have HT : Hid (Tells (w1.alloc (.cells #[.int .i64 id, .int .i64 at_] 70)) 43 #[.pointer (some ⟨q, 0, none⟩)] (after (id, at_))) := tells26 q (id, at_) (by rw [← hq]; simp) (hx.blk.cell 0) (hx.blk.cell 1)
    have HFI := Lib.hid (first_any26 #[.pointer (some ⟨q, 0, none⟩)] (after (id, at_)) HT.out hx.r3 (by omega))
    have hfl := first_le K (after (id, at_))
    have HPL : Hid (putL K (id, at_) = K.take (firstN K (after (id, at_))) ++ [(id, at_)] ++ K.drop (firstN K (after (id, at_)))) := rfl
    have HPN := Lib.hid (put_len K (id, at_))
    obtain ⟨p, hp⟩ : ∃ p, firstN K (after (id, at_)) = p := ⟨_, rfl⟩
    rw [hp] at HFI hfl HPL
    unfold Quietly at HFI
    have c0 : (w1.alloc (.cells #[.int .i64 id, .int .i64 at_] 70)).cell? ⟨g, 0, none⟩ = some (.slice A K.length c) := hx.r2.blk.cell 0
    have HX := Lib.hid hx
    have hft : b = true ∨ ((b = false) ∧ ((K.length : Int) == 200) = false) := by
      cases b
      · right
        refine ⟨rfl, ?_⟩
        rw [beq_eq_false_iff_ne]
        omega
      · left; rfl
    clear hp hx hS2 HT hfull
    rcases hft with rfl | ⟨rfl, t0⟩
    all_goals
      go_wp2_with fail
      try simp only [hq]
      refine HFI.out.mono ?_
      rintro e w2 ⟨rfl, hbl⟩
      have h2 := HX.out.below hbl
      have x0 : w2.cell? ⟨g, 0, none⟩ = some (.slice A K.length c) := h2.r2.blk.cell 0
      have x1 : w2.cell? ⟨q, 0, none⟩ = some (.int .i64 id) := h2.blk.cell 0
      have x2 : w2.cell? ⟨q, 1, none⟩ = some (.int .i64 at_) := h2.blk.cell 1
      clear hbl c0 HFI HX hq
      have hI := (h2.new #[.int .i64 id, .int .i64 at_] 70).drew.r4
      have HI := Lib.hid (ins_any id at_ p hI hfl (by omega) (tc_one K))
      rw [put_cells K (id, at_) p, ← HPL.out] at HI
      unfold InsOut at HI
      have hgn : g ≠ w2.heap.size := Nat.ne_of_lt h2.r2.blk.lt
      have hqn : q ≠ w2.heap.size := Nat.ne_of_lt h2.blk.lt
      have XA : Hid ((w2.alloc (.cells #[.int .i64 id, .int .i64 at_] 70)).cell? ⟨g, 0, none⟩ = some (.slice A K.length c)) := (h2.new #[.int .i64 id, .int .i64 at_] 70).r3.blk.cell 0
      clear hI h2 hgn hqn
      go_wp2_with fail
      have x0a : (w2.alloc (.cells #[.int .i64 id, .int .i64 at_] 70)).cell? ⟨g, 0, none⟩ = some (.slice A K.length c) := XA.out
      go_region_with (first | (go_at_call 46; refine HI.out.mono ?_; rintro e w5 ⟨A', c', rfl, h5⟩; have y0 : w5.cell? ⟨g, 0, none⟩ = some (.slice A K.length c) := h5.r3.blk.cell 0; have yf : w5.frozen? ⟨g, 0, none⟩ = false := h5.r3.blk.free 0))
      all_goals
        have H6 := Lib.hid ((h5.r3.set 0 (.slice A' (K.length + 1) c')).r3.tail)
        clear h5 y0 yf
        go_wp2_with fail
        go_ret
        rw [HR.out.1, HR.out.2]
        exact ⟨rfl, Sat.closeW HPN.out.symm H6.out⟩
theorem wset_any (id at_ : Int) (hS : Sat w0 w (WheelC g 68 70 L :: F)) (hm : L.length ≤ 200) :
    Calls Try.prog 34 #[.pointer (some ⟨g, 0, none⟩), .int .i64 id, .int .i64 at_] w fun e w' => e = .returned (.int .i64 (setC L id at_)) ∧ Sat w0 w' (WheelC g 68 70 (setL L id at_) :: F) := by
  by_cases h : 0 ≤ id ∧ 0 ≤ at_ ∧ at_ ≤ 1073741824
  · exact wset_ok id at_ hS hm h.1 h.2.1 h.2.2
  · have e1 : setC L id at_ = 1 := by unfold setC; rw [if_neg h]
    have e2 : setL L id at_ = L := by unfold setL; rw [if_neg h]
    refine (wset_bad id at_ w h).mono ?_
    rintro e w' ⟨rfl, rfl⟩
    rw [e1, e2]
    exact ⟨rfl, hS⟩
end
end Go.Proofs.Ytbgbpibfmdkndaa
