/- The law DiskApart: the walk. -/
import Derived.Test.YtjlpgjfgeikdeaaDR
set_option linter.unusedVariables false
set_option linter.unusedSimpArgs false
set_option linter.unnecessarySimpa false
namespace Go.Proofs.Ytjlpgjfgeikdeaa
open Go.RowKit Go.ChangeShapes Go.WideShapes Go.ChangeAt
/-- the cells of what 'files' tells -/
theorem files_cells {w0 w : World} {L : List HP} {M : MD} {A : Option Addr} {c : Nat} (h : Sat w0 w (Row 41 2 A 4 c (filesV M 4) :: L)) :
    ∃ g, A = some ⟨g, 0, none⟩ ∧ (∀ k, k < 4 → w.cell? ⟨g, k * 2, none⟩ = some (.string (M.f k).b) ∧ w.cell? ⟨g, k * 2 + 1, none⟩ = some (.int .i64 (M.f k).safe)) := by
  obtain ⟨g, rfl, hc, hf⟩ := h.rowCell (by simp [filesV])
  refine ⟨g, rfl, fun k hk => ?_⟩
  have hl : (filesV M 4).length = 8 := by simp [filesV]
  rw [hc _ (by rw [hl]; omega), hc _ (by rw [hl]; omega)]
  have : k = 0 ∨ k = 1 ∨ k = 2 ∨ k = 3 := by omega
  rcases this with rfl | rfl | rfl | rfl <;> exact ⟨rfl, rfl⟩
/-- all files but f are the same -/
def SameBut (M0 M : MD) (f : Nat) : Prop := ∀ i, i < 4 → i ≠ f → M.f i = M0.f i
theorem SameBut.refl (M : MD) (f : Nat) : SameBut M M f := fun _ _ _ => rfl
theorem SameBut.app {M0 M : MD} {f : Nat} (h : SameBut M0 M f) (s : ByteArray) : SameBut M0 (appR M f s).1 f := by
  intro i hi hne
  unfold appR
  split
  · split
    · simp only [set_f, Int.toNat_natCast]; rw [if_neg hne]; exact h i hi hne
    · exact h i hi hne
  · exact h i hi hne
theorem SameBut.sync {M0 M : MD} {f : Nat} (h : SameBut M0 M f) : SameBut M0 (syncR M f).1 f := by
  intro i hi hne
  unfold syncR
  split
  · simp only [set_f, Int.toNat_natCast]; rw [if_neg hne]; exact h i hi hne
  · exact h i hi hne
theorem SameBut.cut {M0 M : MD} {f : Nat} (h : SameBut M0 M f) (z : Int) : SameBut M0 (cutR M f z).1 f := by
  intro i hi hne
  unfold cutR
  split
  · split
    · simp only [set_f, Int.toNat_natCast]; rw [if_neg hne]; exact h i hi hne
    · exact h i hi hne
  · exact h i hi hne
def ApRel (w : World) (g f : Nat) (M0 : MD) (P : HP) (n : Nat) (i : Value) (wr : World) : Prop :=
  ∃ (k : Nat) (v : Nat → Value) (M : MD), k ≤ n ∧ i = .int .i64 k ∧ M.Ok ∧ SameBut M0 M f ∧ Sat w wr [DiskV g v M, P, Old w]
def ApRel2 (w : World) (L : List HP) (i : Value) (wr : World) : Prop := ∃ k : Nat, k ≤ 4 ∧ i = .int .i64 k ∧ Sat w wr L
set_option maxRecDepth 100000 in
set_option maxHeartbeats 3200000 in
theorem diskApart_walk (room : Int) (A : Option Addr) (n c : Nat) (l : List DOp) (name : Int) (A3 : Option Addr) (n3 c3 : Nat) (l3 : List DOp) (w : World) (w0 : (Lit.int .i64 room).wf = true) (w1 : OpsAt w A n c l) (_ : n * 48 ≤ 140737488351232)
    (w2 : (Lit.int .i64 name).wf = true) (w3 : OpsAt w A3 n3 c3 l3) (_ : n3 * 48 ≤ 140737488351232) :
    Calls Try.prog 7 #[.int .i64 room, .slice A n c, .int .i64 name, .slice A3 n3 c3] w fun e w' => e = .returned (.bool true) ∧ Below w.heap.size w w' := by
  have HE := Lib.hid w3.1
  obtain ⟨hn, hml, _⟩ := w3.1.at_
  rw [List.length_map] at hn hml
  subst hn
  unfold maxLen at hml
  have HW := Lib.hid w3.2
  have HE1 := Lib.hid w1.1
  have HW1 := Lib.hid w1.2
  have HR : Hid (wf64 room) := i64_of w0
  have HNM : Hid (wf64 name) := i64_of w2
  have hpk := pickN_lt name 4 (by decide)
  have hpr := pickN_lt room 200 (by decide)
  obtain ⟨f, hf⟩ : ∃ f, pickN name 4 = f := ⟨_, rfl⟩
  rw [hf] at hpk
  have HF := Lib.hid hf
  obtain ⟨M0, hM0⟩ : ∃ M0, playM (begM (3 + (pickN room 200 : Nat))) l = M0 := ⟨_, rfl⟩
  have HM0 := Lib.hid hM0
  have HOK : Hid M0.Ok := by show _; rw [← hM0]; exact play_ok (beg_ok (by omega) (by omega)) l
  clear hf hM0 hpr w0 w1 w2 w3
  go_enter Try.func7, Try.ntmps7
  go_wp2_with fail
  refine (plays_any room A n c l w w [Old w] (Sat.start w) (by simp) HR.out HE1.out HW1.out).mono ?_
  rintro e w1 ⟨g, v, rfl, hS⟩
  rw [HM0.out] at hS
  go_wp2_with fail
  refine (pick_any name 4 _ HNM.out (by decide) (by decide)).mono ?_
  rintro e w2 ⟨rfl, rfl⟩
  rw [HF.out]
  go_wp2_with fail
  refine (files_any g v M0 w _ _ hS HOK.out).mono ?_
  rintro e w3 ⟨A1, c1, rfl, hS3⟩
  clear hS
  go_wp2_with fail
  go_loopw [13] (ApRel w g f M0 (Row 41 2 A1 4 c1 (filesV M0 4)) l3.length) (fun i _ => l3.length - (intOf i).toNat)
  case atStart => exact ⟨0, v, M0, Nat.zero_le _, rfl, HOK.out, SameBut.refl _ _, hS3.r2⟩
  case round =>
    obtain ⟨k, v5, M, hk, rfl, hok, hsp, hT⟩ := hrel
    have HO := Lib.hid hok
    have HS := Lib.hid hsp
    clear hok hsp hS3
    by_cases hlt : k < l3.length
    · obtain ⟨b, of, rfl, hc⟩ := (HE.out.keep (hT.old (by simp))).at_.2.2 (by rw [List.length_map]; omega)
      have hc' := hc k (by rw [List.length_map]; exact hlt)
      have hx : (l3.map DOp.vs).getD k [] = (l3[k]).vs := by simp [List.getD, hlt]
      rw [hx] at hc'
      obtain ⟨o1, o2, o3⟩ := HW.out _ (List.getElem_mem hlt)
      obtain ⟨⟨act, dk, fl, nm, t⟩, hM⟩ : ∃ x, l3[k] = x := ⟨_, rfl⟩
      rw [hM] at hc' o1 o2 o3
      have e0 := hc' 0 (by decide)
      have e2 := hc' 2 (by decide)
      have e3 := hc' 3 (by decide)
      have e4 := hc' 4 (by decide)
      simp only [DOp.vs] at e0 e2 e3 e4
      rw [Nat.add_zero] at e0
      simp only at o2 o3
      clear hc hc' hx hM o1 o2
      by_cases a0 : act = 0
      · subst a0
        go_wp2_with (go_at_call 19; refine (app_sat hT HO.out f t o3).mono ?_; rintro e w5 ⟨rfl, v6, hT5⟩)
        go_roundw
        case rel => exact ⟨k + 1, v6, _, by omega, by go_num, app_ok HO.out _ _, HS.out.app _, hT5⟩
        case measure => simp [intOf]; omega
      by_cases a1 : act = 1
      · subst a1
        go_wp2_with (go_at_call 17; refine (sync_sat hT f).mono ?_; rintro e w5 ⟨rfl, v6, hT5⟩)
        go_roundw
        case rel => exact ⟨k + 1, v6, _, by omega, by go_num, sync_ok HO.out _, HS.out.sync, hT5⟩
        case measure => simp [intOf]; omega
      by_cases a2 : act = 2
      · subst a2
        go_wp2_with (go_at_call 22; refine (cut_sat hT HO.out f nm).mono ?_; rintro e w5 ⟨rfl, v6, hT5⟩)
        go_roundw
        case rel => exact ⟨k + 1, v6, _, by omega, by go_num, cut_ok HO.out _ _, HS.out.cut _, hT5⟩
        case measure => simp [intOf]; omega
      · have t0 : (act == 0) = false := by rw [beq_eq_false_iff_ne]; exact a0
        have t1 : (act == 1) = false := by rw [beq_eq_false_iff_ne]; exact a1
        have t2 : (act == 2) = false := by rw [beq_eq_false_iff_ne]; exact a2
        clear a0 a1 a2
        go_wp2_with fail
        go_roundw
        case rel => exact ⟨k + 1, v5, M, by omega, by go_num, HO.out, HS.out, hT⟩
        case measure => simp [intOf]; omega
    · go_wp2_with fail
      refine (files_any g v5 M w _ _ hT HO.out).mono ?_
      rintro e w6 ⟨A2, c2, rfl, hT6⟩
      clear hT
      obtain ⟨g1, rfl, _⟩ := files_cells hT6.r3
      obtain ⟨g2, rfl, _⟩ := files_cells hT6
      go_wp2_with fail
      go_loopw [16] (ApRel2 w [Row 41 2 (some ⟨g2, 0, none⟩) 4 c2 (filesV M 4), DiskV g v5 M, Row 41 2 (some ⟨g1, 0, none⟩) 4 c1 (filesV M0 4), Old w]) (fun i _ => 4 - (intOf i).toNat)
      case atStart => exact ⟨0, by omega, rfl, hT6⟩
      case round =>
        obtain ⟨j, hj, rfl, hU⟩ := hrel
        clear hT6
        by_cases hjl : j < 4
        · obtain ⟨_, q1, hc1⟩ := files_cells hU.r3
          obtain ⟨_, q2, hc2⟩ := files_cells hU
          cases q1
          cases q2
          obtain ⟨x1, x2⟩ := hc1 j hjl
          obtain ⟨y1, y2⟩ := hc2 j hjl
          clear hc1 hc2
          by_cases hjf : j = f
          · subst hjf
            have t0 : ((j : Int) != (j : Int)) = false := by simp
            clear x1 x2 y1 y2
            go_wp2_with fail
            go_quiet (fail)
            go_wp2_with fail
            go_roundw
            case rel => exact ⟨j + 1, by omega, by go_num, hU.drewN _⟩
            case measure => simp [intOf]; omega
          · have t0 : ((j : Int) != (f : Int)) = true := by simp; omega
            have t1 : ((j : Int) == (f : Int)) = false := by simp; omega
            rw [HS.out j hjl hjf] at y1 y2
            obtain ⟨⟨b, sf⟩, hb⟩ : ∃ b, M0.f j = b := ⟨_, rfl⟩
            rw [hb] at x1 x2 y1 y2
            simp only at x1 x2 y1 y2
            clear hb hjf
            go_wp2_with fail
            go_quiet (fail)
            go_wp2_with fail
            go_roundw
            case rel => exact ⟨j + 1, by omega, by go_num, hU.drewN _⟩
            case measure => simp [intOf]; omega
        · go_wp2_with fail
          go_ret
          exact ⟨rfl, hU.old (by simp)⟩
end Go.Proofs.Ytjlpgjfgeikdeaa
