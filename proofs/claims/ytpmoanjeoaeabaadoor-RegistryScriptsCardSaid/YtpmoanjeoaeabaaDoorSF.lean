/- Is Find the same? found. -/
import Derived.Test.YtpmoanjeoaeabaaDoorSE
set_option linter.unusedVariables false
set_option linter.unusedSimpArgs false
set_option linter.unnecessarySimpa false
set_option maxRecDepth 100000
namespace Go.Proofs.YtpmoanjeoaeabaaDoor
open Go.RowKit Go.ChangeShapes Go.WideShapes Go.ChangeAt
def zeroDf : Df := ⟨⟨#[]⟩, [], none, 0⟩
theorem zero_wf : Wf zeroDf := ⟨⟨by show 0 ≤ _; decide, (fun s h => by cases h), (fun s h => by cases h), (fun s h => by cases h), (fun s h => by cases h), by show 0 * 80 ≤ _; decide⟩, (fun s h => by cases h), (fun s h => by cases h), (fun s h => by cases h)⟩
theorem Sat.zeroOwn {w0 w : World} {F : List HP} (h : Sat w0 w F) : Sat w0 w (OwnP zeroDf :: F) :=
  Sat.close2 (((Sat.close (M := []) h).nilRow 35 5))
/-- what is found: a definition, its version, its error -/
def fV (R : List Ver) (nm : ByteArray) (ver : Int) : Int := match findV R (nm, verOf R nm ver) with | none => 0 | some _ => verOf R nm ver
def fE (R : List Ver) (nm : ByteArray) (ver : Int) : Int := match findV R (nm, verOf R nm ver) with | none => 140 | some _ => 0
def fL (R : List Ver) (nm : ByteArray) (ver : Int) : Df := match findV R (nm, verOf R nm ver) with | none => zeroDf | some r => r.d
theorem Like.refl (d : Df) : Like d d := ⟨rfl, rfl⟩
section
variable {w w0 : World} {F : List HP} {rb xb : Nat} {R : List Ver}
theorem find_two (nm : ByteArray) (ver : Int) (hn : nm.size ≤ maxLen) (hv : wf64 ver) (hR : RegOk R) (hS : Sat w0 w (RegP rb R :: F)) :
    Calls Tryd.prog 27 #[.pointer (some ⟨rb, 0, none⟩), .string nm, .int .i64 ver] w fun e w' => ∃ D : Df, e = .returned (.tuple #[.agg #[.string D.name, .slice D.A D.steps.length D.c], .int .i64 (fV R nm ver), .int .i64 (fE R nm ver)]) ∧ Like D (fL R nm ver) ∧ Wf D ∧ Sat w0 w' (OwnP D :: RegP rb R :: F) := by
  refine (find_any nm ver hn hv hR.wf hR.len hS).mono ?_
  intro e w' ho
  unfold FindOut at ho
  unfold fV fE fL
  cases h : findV R (nm, verOf R nm ver) with
  | none =>
    rw [h] at ho
    obtain ⟨rfl, hs⟩ := ho
    exact ⟨zeroDf, rfl, Like.refl _, zero_wf, hs.zeroOwn⟩
  | some r =>
    rw [h] at ho
    obtain ⟨D, rfl, hl, hs⟩ := ho
    exact ⟨D, by rw [← like_v hl]; rfl, hl, hl.wf (hR.wf r (findV_mem h).1), hs⟩
theorem docFind_two (nm : ByteArray) (ver : Int) (hR : RegOk R) (hS : Sat w0 w (DocP xb R :: F)) :
    Calls Tryd.prog 60 #[.pointer (some ⟨xb, 0, none⟩), .string nm, .int .i64 ver] w fun e w' => ∃ D : Df, e = .returned (.tuple #[.agg #[.string D.name, .slice D.A D.steps.length D.c], .int .i64 (fV R nm ver), .int .i64 (fE R nm ver)]) ∧ Like D (fL R nm ver) ∧ Wf D ∧ Sat w0 w' (OwnP D :: DocP xb R :: F) := by
  refine (docFind_any nm ver hR.wf hR.grown hR.len hS).mono ?_
  unfold fV fE fL
  rintro e w' (⟨h, rfl, hs⟩ | ⟨r, D, h, rfl, hl, hs⟩)
  · rw [h]
    exact ⟨zeroDf, rfl, Like.refl _, zero_wf, hs.zeroOwn⟩
  · rw [h]
    exact ⟨D, rfl, hl, hl.wf (hR.wf r (findV_mem h).1), hs⟩
set_option maxHeartbeats 1600000 in
theorem found_any (nm : ByteArray) (ver : Int) (hn : nm.size ≤ maxLen) (hv : wf64 ver) (hR : RegOk R) (hS : Sat w0 w (RegP rb R :: DocP xb R :: F)) :
    Calls Tryd.prog 34 #[.pointer (some ⟨rb, 0, none⟩), .pointer (some ⟨xb, 0, none⟩), .string nm, .int .i64 ver] w fun e w' => e = .returned (.bool true) ∧ Sat w0 w' (RegP rb R :: DocP xb R :: F) := by
  have C27 := Lib.hid (find_two nm ver hn hv hR hS)
  have C60 : Hid (∀ W L, Sat w0 W (DocP xb R :: L) → Calls Tryd.prog 60 #[.pointer (some ⟨xb, 0, none⟩), .string nm, .int .i64 ver] W fun e w' => ∃ D : Df, e = .returned (.tuple #[.agg #[.string D.name, .slice D.A D.steps.length D.c], .int .i64 (fV R nm ver), .int .i64 (fE R nm ver)]) ∧ Like D (fL R nm ver) ∧ Wf D ∧ Sat w0 w' (OwnP D :: DocP xb R :: L)) := fun W L h => docFind_two nm ver hR h
  obtain ⟨v, hv'⟩ : ∃ x, fV R nm ver = x := ⟨_, rfl⟩
  obtain ⟨er, her⟩ : ∃ x, fE R nm ver = x := ⟨_, rfl⟩
  obtain ⟨LD, hLD⟩ : ∃ x, fL R nm ver = x := ⟨_, rfl⟩
  rw [hv', her, hLD] at C27 C60
  clear hv' her hLD hn hv hR hS
  go_enter Tryd.func34, Tryd.ntmps34
  go_wp2_with fail
  refine C27.out.mono ?_
  rintro e w1 ⟨D1, rfl, hl1, hw1, h1⟩
  have h2 := h1.new #[.string D1.name, .slice D1.A D1.steps.length D1.c] 24
  obtain ⟨b1, hb1⟩ : ∃ q, w1.heap.size = q := ⟨_, rfl⟩
  rw [hb1] at h2
  have H2 := Lib.hid h2.r4
  have HL1 := Lib.hid hl1
  have HW1 := Lib.hid hw1
  clear h1 h2 hl1 hw1 C27
  go_wp2_with fail
  try simp only [hb1]
  refine (C60.out _ _ H2.out).mono ?_
  rintro e w2 ⟨D2, rfl, hl2, hw2, h3⟩
  have h4 := h3.new #[.string D2.name, .slice D2.A D2.steps.length D2.c] 24
  obtain ⟨b2, hb2⟩ : ∃ q, w2.heap.size = q := ⟨_, rfl⟩
  rw [hb2] at h4
  have x0 : (w2.alloc (.cells #[.string D2.name, .slice D2.A D2.steps.length D2.c] 24)).cell? ⟨b1, 0, none⟩ = some (.string D1.name) := h4.r4.blk.cell 0
  have x1 : (w2.alloc (.cells #[.string D2.name, .slice D2.A D2.steps.length D2.c] 24)).cell? ⟨b1, 1, none⟩ = some (.slice D1.A D1.steps.length D1.c) := h4.r4.blk.cell 1
  have HC : Hid (Calls Tryd.prog 28 #[.agg #[.string D1.name, .slice D1.A D1.steps.length D1.c], .agg #[.string D2.name, .slice D2.A D2.steps.length D2.c]] (w2.alloc (.cells #[.string D2.name, .slice D2.A D2.steps.length D2.c] 24)) fun e w' => e = .returned (.bool true) ∧ Below (w2.alloc (.cells #[.string D2.name, .slice D2.A D2.steps.length D2.c] 24)).heap.size (w2.alloc (.cells #[.string D2.name, .slice D2.A D2.steps.length D2.c] 24)) w') := by
    have h := same10_any (h4.r5.wfDef HW1.out) (h4.r2.wfDef hw2) HW1.out.fits hw2.fits
    rw [like_yes (HL1.out.trans hl2.symm)] at h
    exact h
  have H4 := Lib.hid h4
  clear h3 h4 hl2 hw2 H2 C60
  go_wp2_with fail
  try simp only [hb2]
  refine HC.out.mono ?_
  rintro e w3 ⟨rfl, hb3⟩
  have h5 := H4.out.below hb3
  have y0 := h5.r4.blk.cell 0
  have y1 := h5.r4.blk.cell 1
  have HWR := Lib.hid (written_any HW1.out h5.r5)
  clear x0 x1 HC H4 hb3 h5
  go_wp2_with fail
  refine HWR.out.mono ?_
  rintro e w4 ⟨rfl, h6⟩
  have H6 := Lib.hid h6
  clear h6 HWR y0 y1
  go_wp2_with fail
  go_ret
  exact ⟨by first | rfl | simp, H6.out.tail.tail.r2.tail.r2⟩
end
end Go.Proofs.YtpmoanjeoaeabaaDoor
