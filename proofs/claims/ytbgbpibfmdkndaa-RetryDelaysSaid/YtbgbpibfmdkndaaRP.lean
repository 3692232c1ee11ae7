/- The walk of RetryDelays. -/
import Derived.Test.YtbgbpibfmdkndaaRN
import Derived.Test.YtbgbpibfmdkndaaRO
set_option linter.unusedVariables false
set_option linter.unusedSimpArgs false
set_option linter.unnecessarySimpa false
set_option maxRecDepth 100000
namespace Go.Proofs.Ytbgbpibfmdkndaa
open Go.RowKit Go.ChangeShapes Go.WideShapes Go.ChangeAt
section
variable {w w0 : World} {F : List HP} {A : Option Addr} {c : Nat} {t : List Int}
set_option maxHeartbeats 1600000 in
theorem delays_any {tries : Int} (hw : wf64 tries) (hT : NsAt w0 A t) (hl : t.length ≤ 140737488351232) (hwf : ∀ x ∈ t, wf64 x) (hO : Old w0 ∈ F) (hS : Sat w0 w F) :
    Calls Try.prog 4 #[.slice A t.length c, .int .i64 tries] w fun e w' => e = .returned (.bool true) ∧ Sat w0 w' F := by
  have HNS : Hid (NsF w0 F A t) := fun W G h => hT.keep (h.old (List.mem_append_right _ hO))
  have H11 : Hid (∀ W G, Sat w0 W (G ++ F) → Calls Try.prog 11 #[.slice A t.length c, .int .i64 tries] W fun e w' => e = .returned (.tuple #[.int .i64 (delE t tries).1, .int .i64 (delE t tries).2]) ∧ Sat w0 w' (G ++ F)) := fun W G h => by
    refine (delay_any (c := c) hw (HNS.out W G h)).mono ?_
    rintro e w' ⟨rfl, q, rfl⟩
    exact ⟨rfl, h.drewN q⟩
  have H12 : Hid (∀ W G, Sat w0 W (G ++ F) → Calls Try.prog 12 #[.slice A t.length c, .int .i64 tries] W fun e w' => e = .returned (.tuple #[.int .i64 (delE t tries).1, .int .i64 (delE t tries).2]) ∧ Sat w0 w' (G ++ F)) := fun W G h => by
    refine (rdelay_any (c := c) hw (HNS.out W G h)).mono ?_
    rintro e w' ⟨rfl, q, rfl⟩
    exact ⟨rfl, h.drewN q⟩
  have H13 : Hid (∀ W, Sat w0 W F → Calls Try.prog 13 #[.slice A t.length c] W fun e w' => ∃ A1 c1, e = .returned (.slice A1 (fitN t).length c1) ∧ Sat w0 w' (Row 3 1 A1 (fitN t).length c1 (nums (fitN t)) :: F)) := fun W h => fit_any (c := c) HNS.out hl hwf h
  have H21 : Hid (∀ W A1 c1, Sat w0 W (Row 3 1 A1 (fitN t).length c1 (nums (fitN t)) :: F) → Calls Try.prog 11 #[.slice A1 (fitN t).length c1, .int .i64 tries] W fun e w' => e = .returned (.tuple #[.int .i64 (delE (fitN t) tries).1, .int .i64 (delE (fitN t) tries).2]) ∧ Sat w0 w' (Row 3 1 A1 (fitN t).length c1 (nums (fitN t)) :: F)) := fun W A1 c1 h => by
    refine (delay_any (c := c1) hw (Sat.rowNs h)).mono ?_
    rintro e w' ⟨rfl, q, rfl⟩
    exact ⟨rfl, h.drewN q⟩
  have H22 : Hid (∀ W A1 c1, Sat w0 W (Row 3 1 A1 (fitN t).length c1 (nums (fitN t)) :: F) → Calls Try.prog 12 #[.slice A1 (fitN t).length c1, .int .i64 tries] W fun e w' => e = .returned (.tuple #[.int .i64 (delE (fitN t) tries).1, .int .i64 (delE (fitN t) tries).2]) ∧ Sat w0 w' F) := fun W A1 c1 h => by
    refine (rdelay_any (c := c1) hw (Sat.rowNs h)).mono ?_
    rintro e w' ⟨rfl, q, rfl⟩
    exact ⟨rfl, h.tail.drewN q⟩
  have HLV : Hid (∀ W G, Sat w0 W G → Calls Try.prog 10 #[] W fun e w' => e = .returned (.bool true) ∧ Sat w0 w' G) := fun W G h => live_any h
  obtain ⟨n, hn⟩ : ∃ n, t.length = n := ⟨_, rfl⟩
  obtain ⟨m, hm⟩ : ∃ n, (fitN t).length = n := ⟨_, rfl⟩
  obtain ⟨a, ha⟩ : ∃ x, delE t tries = x := ⟨_, rfl⟩
  obtain ⟨b, hb⟩ : ∃ x, delE (fitN t) tries = x := ⟨_, rfl⟩
  obtain ⟨a1, a2⟩ := a
  obtain ⟨b1, b2⟩ := b
  rw [hn, ha] at H11 H12
  rw [hn, hm] at H13
  rw [hm, hb] at H21 H22
  rw [hn]
  simp only at H11 H12 H21 H22
  have q1 : (a1 == a1) = true := by simp
  have q2 : (a2 == a2) = true := by simp
  have q3 : (b1 == b1) = true := by simp
  have q4 : (b2 == b2) = true := by simp
  have HS := Lib.hid hS
  clear hT hl hwf hO hS hn hm ha hb hw HNS
  go_enter Try.func4, Try.ntmps4
  go_wp2_with fail
  refine (H11.out _ [] HS.out).mono ?_
  rintro e w1 ⟨rfl, h1⟩
  have H1 := Lib.hid h1
  clear h1 HS
  go_wp2_with fail
  refine (H12.out _ [] H1.out).mono ?_
  rintro e w2 ⟨rfl, h2⟩
  have H2 := Lib.hid h2
  clear h2 H1
  go_wp2_with fail
  refine (H13.out _ H2.out).mono ?_
  rintro e w3 ⟨A1, c1, rfl, h3⟩
  have H3 := Lib.hid h3
  clear h3 H2
  go_wp2_with fail
  refine (H21.out _ _ _ H3.out).mono ?_
  rintro e w4 ⟨rfl, h4⟩
  have H4 := Lib.hid h4
  clear h4 H3
  go_wp2_with fail
  refine (H22.out _ _ _ H4.out).mono ?_
  rintro e w5 ⟨rfl, h5⟩
  have H5 := Lib.hid h5
  clear h5 H4
  go_wp2_with fail
  refine (HLV.out _ _ H5.out).mono ?_
  rintro e w6 ⟨rfl, h6⟩
  have H6 := Lib.hid h6
  clear h6 H5
  go_wp2_with fail
  go_ret
  exact ⟨rfl, H6.out⟩
end
theorem retryDelays_walk (a0 : Option Addr) (len0 cap0 : Nat) (z0 : List Int) (a1 : Int) (w : World) (w0 : NumsAt w a0 len0 cap0 z0) (y0 : len0 * 8 ≤ 140737488351232) (w1 : (Lit.int .i64 a1).wf = true) :
    Calls Try.prog 4 #[.slice a0 len0 cap0, .int .i64 a1] w fun e w' => e = .returned (.bool true) ∧ Below w.heap.size w w' := by
  have hn := w0.ns
  obtain ⟨rfl, _, hwf⟩ := w0
  refine (delays_any (wf64_of w1) hn (by omega) hwf (by simp) (Sat.start w)).mono ?_
  rintro e w' ⟨rfl, h⟩
  exact ⟨rfl, h.old (by simp)⟩
end Go.Proofs.Ytbgbpibfmdkndaa
