/- The document's wheel: Due. -/
import Derived.Test.YtnjhnchjlecdoaaWJ
set_option linter.unusedVariables false
set_option linter.unusedSimpArgs false
set_option linter.unnecessarySimpa false
set_option maxRecDepth 100000
namespace Go.Proofs.Ytnjhnchjlecdoaa
open Go.RowKit Go.ChangeShapes Go.WideShapes Go.ChangeAt
section
variable {w0 w : World} {F : List HP} {g T E n c : Nat} {A : Option Addr} {L : List Tm}
def RdRel (w0 : World) (G : List HP) (L : List Tm) (now : Int) (out i : Value) (wr : World) : Prop :=
  ∃ (k : Nat) (A' : Option Addr) (c' : Nat), k ≤ L.length ∧ i = .int .i64 k ∧ out = .slice A' k c' ∧ (∀ j (hj : j < L.length), j < k → isLate now L[j] = false) ∧ Sat w0 wr (Row 3 1 A' k c' (ids (L.take k)) :: G)
set_option maxHeartbeats 1600000 in
theorem rdue_any (now : Int) (hS : Sat w0 w (WheelC g 58 61 L :: F)) (hm : L.length ≤ 1000000) :
    Calls Try.prog 19 #[.pointer (some ⟨g, 0, none⟩), .int .i64 now] w fun e w' => ∃ A' c', e = .returned (.slice A' (dueN L now) c') ∧ Sat w0 w' (Row 3 1 A' (dueN L now) c' (ids (L.take (dueN L now))) :: WheelC g 58 61 (L.drop (dueN L now)) :: F) := by
  obtain ⟨A, c, hS⟩ := hS.openW
  obtain ⟨ii, hii, hz, hsz, hby⟩ := info_parts info3
  obtain ⟨jj, hjj, iz, isz, iby⟩ := info_parts info61
  have H0 := Lib.hid (hS.nilRow 3 1)
  have HDN : Hid (dueN L now = firstN L (isLate now)) := rfl
  obtain ⟨hcap1, hcap2⟩ := hS.r2.rowCap
  unfold maxLen at hcap2
  have c0 := hS.blk.cell 0
  clear hS
  go_enter Try.func19, Try.ntmps19
  go_wp2_with fail
  go_loopw [5, 6] (RdRel w0 (Blk g 58 [.slice A L.length c] :: Row 61 2 A L.length c (tc L) :: F) L now) (fun _ i _ => L.length - (intOf i).toNat)
  case atStart => exact ⟨0, none, 0, Nat.zero_le _, rfl, rfl, fun j hj h => absurd h (Nat.not_lt_zero _), H0.out⟩
  case round =>
    obtain ⟨k, A', c', hk, rfl, rfl, ha, hT⟩ := hrel
    have x0 : wr.cell? ⟨g, 0, none⟩ = some (.slice A L.length c) := hT.r2.blk.cell 0
    clear H0 c0
    by_cases hlt : k < L.length
    · obtain ⟨b, rfl, hc⟩ := tm_cells hT.r3 (by omega)
      obtain ⟨e1, e2⟩ := hc k hlt
      by_cases hx : now < L[k].2
      · have HQ : Hid (dueN L now = k) := by show _ = _; rw [HDN.out]; exact first_hit hlt (by unfold isLate; exact decide_eq_true hx) ha
        have HR2 := Lib.hid (fun (w1 : World) (h : Rd w1 (some ⟨b, 0, none⟩) L.length 2 (tc L)) => h.drop hk)
        have s2 : ∀ u ∈ (tc L).drop (k * 2), u.oneCell' = true := fun u hu => tc_one L u (List.mem_of_mem_drop hu)
        obtain ⟨y, hy⟩ : ∃ y, L[k].2 = y := ⟨_, rfl⟩
        rw [hy] at e2 hx
        have t0 : decide (y ≤ now) = false := decide_eq_false (by omega)
        have hcq : ¬ c = k := by omega
        have HT := Lib.hid hT
        clear hc ha hy hx e1 hT
        go_wp2_with (at_builtin; refine wpList_appS rfl (.tmp 41) (.tmp 47) 56 rfl 61 jj _ 2 16 Try.underlying56 hjj iz isz iby rfl (by decide) rfl (HT.out.nilRow 61 2) rfl (HR2.out _ HT.out.r3.rd) s2 (by unfold maxLen; omega) (by omega) ?_; intro A2 c2 w2 hS2; have x1 : w2.cell? ⟨g, 0, none⟩ = some (.slice (some ⟨b, 0, none⟩) L.length c) := hS2.r3.blk.cell 0; have f1 : w2.frozen? ⟨g, 0, none⟩ = false := hS2.r3.blk.free 0; have HF := Lib.hid ((hS2.r3.set 0 (.slice A2 (0 + (L.length - k)) c2))); clear x0 hS2)
        go_ret
        rw [HQ.out]
        rw [List.nil_append, tc_drop, Nat.zero_add] at HF
        exact ⟨A', c', rfl, (Sat.closeW (n := L.length - k) (by simp) (HF.out.r4.tail)).r2⟩
      · have HN : Hid (∀ j (hj : j < L.length), j < k + 1 → isLate now L[j] = false) := fun j hj hjk => by
          by_cases hjk2 : j < k
          · exact ha j hj hjk2
          · obtain rfl : j = k := by omega
            unfold isLate
            exact decide_eq_false hx
        have HNX := Lib.hid (ids_next L k hlt)
        obtain ⟨⟨x, y⟩, hxy⟩ : ∃ y, L[k] = y := ⟨_, rfl⟩
        rw [hxy] at e1 e2 hx HNX
        simp only at e1 e2 hx HNX
        have t0 : decide (y ≤ now) = true := decide_eq_true (by omega)
        have h4 : k + 1 ≤ maxLen := by unfold maxLen; omega
        have h5 : (k + 1) * 8 ≤ 140737488355328 := by omega
        have HA := Lib.hid (hT.new #[.int .i64 x] 3)
        clear hc ha hxy hx hT
        go_wp2_with (at_builtin; refine wpList_app1 rfl (.tmp 27) (.tmp 36) 33 rfl 3 ii (.int .i64 0) 1 8 Try.underlying33 hii hz hsz hby rfl (by decide) rfl HA.out (by rfl) rfl (by intro u hu; simp at hu; subst hu; rfl) h4 h5 ?_; intro A2 c2 w2 hS2; clear e1 e2 x0)
        go_roundw
        case rel => exact ⟨k + 1, A2, c2, by omega, by go_num, rfl, HN.out, by rw [HNX.out]; exact hS2⟩
        case measure => simp [intOf]; omega
    · obtain rfl : k = L.length := by omega
      have HQ : Hid (dueN L now = L.length) := by show _ = _; rw [HDN.out]; exact first_none fun j hj => ha j hj hj
      have HT := Lib.hid hT
      have HDR : Hid (L.drop L.length = []) := by show _ = _; simp
      cases A with
      | none =>
        obtain ⟨hn0, hc0, _⟩ := hT.r3.rowNone
        clear ha hT
        go_wp2_with (at_builtin; refine wpList_appS rfl (.tmp 41) (.tmp 47) 56 rfl 61 jj _ 2 16 Try.underlying56 hjj iz isz iby rfl (by decide) rfl (HT.out.nilRow 61 2) rfl (Rd.none_ _ _ 2) (by simp) (by unfold maxLen; omega) (by omega) ?_; intro A2 c2 w2 hS2; have x1 : w2.cell? ⟨g, 0, none⟩ = some (.slice none L.length c) := hS2.r3.blk.cell 0; have f1 : w2.frozen? ⟨g, 0, none⟩ = false := hS2.r3.blk.free 0; have HF := Lib.hid ((hS2.r3.set 0 (.slice A2 (0 + 0) c2))); clear x0 hS2)
        go_ret
        rw [HQ.out]
        rw [List.nil_append, Nat.zero_add] at HF
        rw [HDR.out]
        exact ⟨A', c', by rw [hn0]; rfl, (Sat.closeW (n := 0) rfl (HF.out.r4.tail)).r2⟩
      | some a =>
        obtain ⟨b, cur, rfl, _⟩ := hT.r3.rowBlk
        clear ha hT
        by_cases hcq : c = L.length
        · go_wp2_with (at_builtin; refine wpList_appS rfl (.tmp 41) (.tmp 47) 56 rfl 61 jj _ 2 16 Try.underlying56 hjj iz isz iby rfl (by decide) rfl (HT.out.nilRow 61 2) rfl (Rd.none_ _ _ 2) (by simp) (by unfold maxLen; omega) (by omega) ?_; intro A2 c2 w2 hS2; have x1 : w2.cell? ⟨g, 0, none⟩ = some (.slice (some ⟨b, 0, none⟩) L.length c) := hS2.r3.blk.cell 0; have f1 : w2.frozen? ⟨g, 0, none⟩ = false := hS2.r3.blk.free 0; have HF := Lib.hid ((hS2.r3.set 0 (.slice A2 (0 + 0) c2))); clear x0 hS2)
          go_ret
          rw [HQ.out]
          rw [List.nil_append, Nat.zero_add] at HF
          rw [HDR.out]
          exact ⟨A', c', rfl, (Sat.closeW (n := 0) rfl (HF.out.r4.tail)).r2⟩
        · go_wp2_with (at_builtin; refine wpList_appS rfl (.tmp 41) (.tmp 47) 56 rfl 61 jj _ 2 16 Try.underlying56 hjj iz isz iby rfl (by decide) rfl (HT.out.nilRow 61 2) rfl (Rd.none_ _ _ 2) (by simp) (by unfold maxLen; omega) (by omega) ?_; intro A2 c2 w2 hS2; have x1 : w2.cell? ⟨g, 0, none⟩ = some (.slice (some ⟨b, 0, none⟩) L.length c) := hS2.r3.blk.cell 0; have f1 : w2.frozen? ⟨g, 0, none⟩ = false := hS2.r3.blk.free 0; have HF := Lib.hid ((hS2.r3.set 0 (.slice A2 (0 + 0) c2))); clear x0 hS2)
          go_ret
          rw [HQ.out]
          rw [List.nil_append, Nat.zero_add] at HF
          rw [HDR.out]
          exact ⟨A', c', rfl, (Sat.closeW (n := 0) rfl (HF.out.r4.tail)).r2⟩
end
end Go.Proofs.Ytnjhnchjlecdoaa
