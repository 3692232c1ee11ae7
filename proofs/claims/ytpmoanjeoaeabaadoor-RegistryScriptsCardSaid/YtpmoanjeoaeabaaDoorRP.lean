/- The registry: what stands, whatever was put in; begun. -/
import Derived.Test.YtpmoanjeoaeabaaDoorRN
import Derived.Test.YtpmoanjeoaeabaaDoorRO
import Derived.Test.YtpmoanjeoaeabaaDoorRK
import Derived.Deep.RegionHeld3
set_option linter.unusedVariables false
set_option linter.unusedSimpArgs false
set_option linter.unnecessarySimpa false
set_option maxRecDepth 100000
namespace Go.Proofs.YtpmoanjeoaeabaaDoor
open Go.RowKit Go.ChangeShapes Go.WideShapes Go.ChangeAt
/-- what stands of a registry, whatever was put in -/
structure RegOk (R : List Ver) : Prop where
  wf : ∀ r ∈ R, Wf r.d
  grown : Grown R
  len : R.length ≤ 16
theorem RegOk.snoc {R : List Ver} {D : Df} (h : RegOk R) (hw : Wf D) (hl : R.length < 16) : RegOk (R ++ [⟨D, (verN R D.name : Int) + 1⟩]) :=
  ⟨fun r hr => by
    rcases List.mem_append.1 hr with hr | hr
    · exact h.wf r hr
    · have e : r = ⟨D, (verN R D.name : Int) + 1⟩ := by simpa using hr
      subst e; exact hw, h.grown.snoc D, by simp; omega⟩
theorem one_wf (a : Nat) : Wf (oneD a) := by
  refine ⟨one_fits a, fun s h => ?_, fun s h => ?_, fun s h n hn => ?_⟩
  · rcases one_mem h with rfl | rfl <;> (show wf64 1; unfold wf64; decide)
  · rcases one_mem h with rfl | rfl
    · show wf64 1; unfold wf64; decide
    · show wf64 0; unfold wf64; decide
  · rcases one_mem h with rfl | rfl
    · exact absurd hn (List.not_mem_nil)
    · have e : n = 0 := by simpa [oneS2] using hn
      subst e; unfold wf64; decide
theorem one_like (a b : Nat) : Like (oneD a) (oneD b) := ⟨rfl, rfl⟩
theorem Like.trans {a b c : Df} (h : Like a b) (k : Like b c) : Like a c := ⟨h.name.trans k.name, h.steps.trans k.steps⟩
theorem Sat.swapA {w0 w : World} {L M : List HP} (h : Sat w0 w (L ++ M)) : Sat w0 w (M ++ L) := h.perm List.perm_append_comm
def zz : ByteArray := ⟨#[122, 122]⟩
set_option maxHeartbeats 3200000 in
theorem begun_any {w w0 : World} {F : List HP} (hT0 : Lib.Utf8Tabs 0 1 w0) (hO : Old w0 ∈ F) (hS : Sat w0 w F) :
    Calls Tryd.prog 24 #[] w fun e w' => ∃ (rb : Nat) (D : Df), e = .returned (.pointer (some ⟨rb, 0, none⟩)) ∧ Like D (oneD 0) ∧ Sat w0 w' (RegP rb [⟨D, 1⟩] :: F) := by
  have HS := Lib.hid hS
  have CA : Hid (∀ a rb W, Sat w0 W (RegP rb [] :: Blk (a + 1 + 1 + 1) 35 ((oneS1 a).vs ++ (oneS2 a).vs) :: Blk (a + 1 + 1) 3 [.int .i64 0] :: Blk (a + 1) 9 [.string sA] :: F) → Calls Tryd.prog 25 #[.pointer (some ⟨rb, 0, none⟩), (oneD a).v] W fun e w' =>
      ∃ D : Df, e = .returned (.tuple #[.int .i64 1, .int .i64 0]) ∧ Like D (oneD 0) ∧ Sat w0 w' (RegP rb [⟨D, 1⟩] :: F)) := fun a rb W h => by
    refine (add_any (oneD a) (one_wf a) (R := []) (fun r hr => by cases hr) .nil (Nat.zero_le _) (fun W L hh => one_at hh.swapA.r3.blk hh.swapA.r2.blk hh.swapA.blk) hT0 (by simp [hO]) h).mono ?_
    rintro e w' (⟨h1, _⟩ | ⟨_, r, hr, _⟩ | ⟨_, _, ⟨h1, _⟩ | ⟨_, D, hl, rfl, hs⟩⟩)
    · exact absurd (by rw [one_good]) h1
    · cases hr
    · exact absurd h1 (by decide)
    · exact ⟨D, rfl, hl.trans (one_like a 0), hs.r4.tail.r3.tail.r2.tail⟩
  have CF : Hid (∀ D rb W, Like D (oneD 0) → Sat w0 W (RegP rb [⟨D, 1⟩] :: F) → Calls Tryd.prog 27 #[.pointer (some ⟨rb, 0, none⟩), .string ⟨#[122, 122]⟩, .int .i64 0] W fun e w' =>
      ∃ E : Df, e = .returned (.tuple #[.agg #[.string E.name, .slice E.A E.steps.length E.c], .int .i64 1, .int .i64 0]) ∧ Like E (oneD 0) ∧ Sat w0 w' (OwnP E :: RegP rb [⟨D, 1⟩] :: F)) := fun D rb W hl h => by
    refine (find_any (R := [⟨D, 1⟩]) ⟨#[122, 122]⟩ 0 (by decide) (by unfold wf64; decide) (fun r hr => by
      obtain rfl : r = ⟨D, 1⟩ := by simpa using hr
      exact hl.wf (one_wf 0)) (by show 1 ≤ 16; decide) h).mono ?_
    intro e w' ho
    have hn : D.name = ⟨#[122, 122]⟩ := hl.name
    have e1 : verOf [(⟨D, 1⟩ : Ver)] ⟨#[122, 122]⟩ 0 = 1 := by
      unfold verOf verN
      simp [hn]
    have e2 : findV [(⟨D, 1⟩ : Ver)] (⟨#[122, 122]⟩, 1) = some ⟨D, 1⟩ := by
      unfold findV
      simp [Ver.p, hn]
    unfold FindOut at ho
    rw [e1, e2] at ho
    obtain ⟨E, rfl, hE, hs⟩ := ho
    exact ⟨E, by rw [← like_v hE]; rfl, hE.trans hl, hs⟩
  have CS : Hid (∀ (E : Df) a W, Like E (oneD 0) → DefAt W E → DefAt W (oneD a) → Calls Tryd.prog 28 #[.agg #[.string E.name, .slice E.A E.steps.length E.c], (oneD a).v] W fun e w' => e = .returned (.bool true) ∧ Below W.heap.size W w') := fun E a W hl h1 h2 => by
    have h := same10_any h1 h2 (hl.fits (one_fits 0)) (one_fits a)
    rw [like_yes (hl.trans (one_like 0 a))] at h
    exact h
  clear hS hT0 hO
  go_enter Tryd.func24, Tryd.ntmps24
  go_wp2_with fail
  refine (regNew_any HS.out).mono ?_
  rintro e w1 ⟨rb, rfl, h1⟩
  have H1 := Lib.hid h1
  clear h1 HS
  go_wp2_with fail
  refine (one_any H1.out).mono ?_
  rintro e w2 ⟨a, rfl, h2⟩
  have H2 := Lib.hid h2.r4
  clear h2 H1
  go_wp2_with fail
  refine (CA.out a rb w2 H2.out).mono ?_
  rintro e w3 ⟨D, rfl, hD, h3⟩
  have H3 := Lib.hid h3
  have HD := Lib.hid hD
  clear h3 hD H2 CA
  go_wp2_with fail
  refine (CF.out D rb w3 HD.out H3.out).mono ?_
  rintro e w4 ⟨E, rfl, hE, h4⟩
  have h5 := h4.new #[.string E.name, .slice E.A E.steps.length E.c] 24
  obtain ⟨bx, hbx⟩ : ∃ q, w4.heap.size = q := ⟨_, rfl⟩
  rw [hbx] at h5
  have H5 := Lib.hid h5
  have HE := Lib.hid hE
  clear h4 h5 hE H3 CF
  go_wp2_with fail
  obtain ⟨W5, hW5⟩ : ∃ x, x = w4.alloc (.cells #[.string E.name, .slice E.A E.steps.length E.c] 24) := ⟨_, rfl⟩
  rw [← hW5] at H5 ⊢
  clear hW5
  have x1 := H5.out.blk.cell 0
  have x2 := H5.out.blk.cell 1
  have HWF : Hid (Wf E) := HE.out.wf (one_wf 0)
  go_region_held3 (fun w' => w'.cell? ⟨bx, 0, none⟩ = some (.string E.name) ∧ w'.cell? ⟨bx, 1, none⟩ = some (.slice E.A E.steps.length E.c))
    (first | exact ⟨x1, x2⟩ | exact ⟨y1, y2⟩ | exact ⟨z1, z2⟩)
    (first
      | (go_at_call 32; refine (one_any H5.out.drew).mono ?_; rintro e w6 ⟨a2, rfl, h6⟩; have y1 := h6.r4.blk.cell 0; have y2 := h6.r4.blk.cell 1; have HC := Lib.hid (CS.out E a2 w6 HE.out (h6.r5.wfDef HWF.out) (one_at h6.r3.blk h6.r2.blk h6.blk)))
      | (go_at_call 28; refine HC.out.mono ?_; rintro e w7 ⟨rfl, h7⟩; have H7 := Lib.hid (h6.below h7); have z1 := H7.out.r4.blk.cell 0; have z2 := H7.out.r4.blk.cell 1))
  all_goals
    have H8 := Lib.hid H7.out.r6.r6.tail.r5.tail.r4.tail.r3.tail.r2.tail
    clear x1 x2 y1 y2 z1 z2 HC h6 h7 H7 H5 CS
    go_wp2_with fail
    go_ret
    exact ⟨rb, D, rfl, HD.out, H8.out⟩
end Go.Proofs.YtpmoanjeoaeabaaDoor
