import Derived.Test.YtpmoanjeoaeabaaDoorA8
import Derived.Deep.RegionLaw
import Derived.BigRegion
import Derived.StillTailTactics
section
/- Copied: a definition in memory of its own. -/
set_option linter.unusedVariables false
set_option linter.unusedSimpArgs false
set_option linter.unnecessarySimpa false
set_option maxRecDepth 100000
namespace Go.Proofs.YtpmoanjeoaeabaaDoor
open Go.RowKit Go.ChangeShapes Go.WideShapes Go.ChangeAt
def CpRel (W : World) (b rb ob : Nat) (V Z : List Value) (d : Df) (x : Value) (wr : World) : Prop :=
  ∃ (i : Nat) (A : Option Addr) (c : Nat) (L : List St), i ≤ d.steps.length ∧ x = .int .i64 i ∧ L.map St.core = (d.steps.take i).map St.core ∧
    Sat W wr [Blk ob 24 [.string d.name, .slice A i c], Row 35 5 A i c (stepsC L), sep (L.map stP), Blk rb 24 Z, Blk b 24 V, Old W]
def Cp6 (W : World) (L : List HP) (sb : Nat) (s : St) (wr : World) : Prop :=
  ∃ (A1 : Option Addr) (c1 : Nat), Sat W wr (Blk sb 35 [.string s.name, .int .i64 s.kind, .int .i64 s.part, .slice A1 s.keys.length c1, .slice none 0 0] :: Row 9 1 A1 s.keys.length c1 (strV s.keys) :: L)
def Cp7 (W : World) (L : List HP) (sb : Nat) (s : St) (A1 : Option Addr) (c1 : Nat) (wr : World) : Prop :=
  ∃ (A2 : Option Addr) (c2 : Nat), Sat W wr (Blk sb 35 [.string s.name, .int .i64 s.kind, .int .i64 s.part, .slice A1 s.keys.length c1, .slice A2 s.needs.length c2] :: Row 3 1 A2 s.needs.length c2 (intV s.needs) :: Row 9 1 A1 s.keys.length c1 (strV s.keys) :: L)
set_option maxHeartbeats 6400000 in
theorem copied_any {w : World} (d : Df) (hD : DefAt w d) (hz : Fits d) :
    Calls Tryd.prog 11 #[d.v] w fun e w' => ∃ D : Df, e = .returned D.v ∧ Like D d ∧ Sat w w' [OwnP D, Old w] := by
  have h1 := (Sat.start w).new #[.string d.name, .slice d.A d.steps.length d.c] 24
  have hs1 : (w.alloc (.cells #[.string d.name, .slice d.A d.steps.length d.c] 24)).heap.size = w.heap.size + 1 := by simp
  have h2 := h1.new #[.string ⟨#[]⟩, .slice none 0 0] 24
  rw [hs1] at h2
  have hs2 : ((w.alloc (.cells #[.string d.name, .slice d.A d.steps.length d.c] 24)).alloc (.cells #[.string ⟨#[]⟩, .slice none 0 0] 24)).heap.size = w.heap.size + 2 := by simp
  have h3 := h2.new #[.string d.name, .slice none 0 0] 24
  rw [hs2] at h3
  obtain ⟨b, hb⟩ : ∃ b, w.heap.size = b := ⟨_, rfl⟩
  rw [hb] at h1 h2 h3
  have a0 := h1.blk.cell 0
  have h4 : Sat w _ [Blk (b + 1 + 1) 24 [.string d.name, .slice none 0 0], Row 35 5 none 0 0 (stepsC []), sep ([].map stP), Blk (b + 1) 24 [.string ⟨#[]⟩, .slice none 0 0], Blk b 24 [.string d.name, .slice d.A d.steps.length d.c], Old w] :=
    ((Sat.close (M := []) h3).nilRow 35 5).r3
  have HD := Lib.hid hD
  have HZ := Lib.hid hz
  have HV : Hid ([.string d.name, .slice d.A d.steps.length d.c] = boxV d) := rfl
  have H4 := Lib.hid h4
  obtain ⟨n, hN⟩ : ∃ n, d.steps.length = n := ⟨_, rfl⟩
  have HN := Lib.hid hN
  have hn : n * 80 ≤ 140737488351232 := by have := hz.steps; omega
  unfold Df.v
  rw [hN] at a0 HV H4 ⊢
  obtain ⟨AA, hAA⟩ : ∃ x, d.A = x := ⟨_, rfl⟩
  have HAA := Lib.hid hAA
  rw [hAA] at a0 HV H4 ⊢
  clear hAA
  obtain ⟨ob, hob⟩ : ∃ x, b + 1 + 1 = x := ⟨_, rfl⟩
  rw [hob] at H4
  clear h1 h2 h3 h4 hs1 hs2 hD hz hN
  go_enter Tryd.func11, Tryd.ntmps11
  go_wp2_with fail
  try simp only [hb]
  try simp only [hob]
  go_loopw [4] (CpRel w b (b + 1) ob [.string d.name, .slice AA n d.c] [.string ⟨#[]⟩, .slice none 0 0] d) (fun x _ => n - (intOf x).toNat)
  case atStart => exact ⟨0, none, 0, [], Nat.zero_le _, rfl, rfl, H4.out⟩
  case round =>
    obtain ⟨i, A, c, L, hi, rfl, hL, hS⟩ := hrel
    rw [HN.out] at hi
    clear H4 a0
    have h9 : Below w.heap.size w wr := hS.old (by simp)
    have b1 : wr.cell? ⟨b, 1, none⟩ = some (.slice AA n d.c) := hS.r5.blk.cell 1
    by_cases hlt : i < n
    · have hlt' : i < d.steps.length := by rw [HN.out]; exact hlt
      obtain ⟨g, o, hA, s0, s1, s2, s3, s4⟩ := step_at d (HD.out.keep h9) i hlt'
      have HST := Lib.hid ((HD.out.each _ (List.getElem_mem hlt')).keep h9)
      have HSM : Hid (d.steps[i] ∈ d.steps) := List.getElem_mem hlt'
      have HTK : Hid ((d.steps.take (i + 1)).map St.core = (d.steps.take i).map St.core ++ [d.steps[i].core]) := by show _ = _; rw [List.take_succ_eq_append_getElem hlt', List.map_append]; rfl
      obtain rfl : AA = some ⟨g, o, none⟩ := HAA.out.symm.trans hA
      obtain ⟨s, hs⟩ : ∃ x, d.steps[i] = x := ⟨_, rfl⟩
      rw [hs] at s0 s1 s2 s3 s4 HST HSM HTK
      have HSC : Hid (∀ W, Below w.heap.size w W → W.cell? ⟨g, o + i * 5 + 4, none⟩ = some (.slice s.nA s.needs.length s.nc) ∧ StAt W s) := fun W hb => by
        obtain ⟨g', o', hA', _, _, _, _, s4⟩ := step_at d (HD.out.keep hb) i hlt'
        rw [hA] at hA'
        cases hA'
        rw [hs] at s4
        exact ⟨s4, by rw [← hs]; exact (HD.out.each _ (List.getElem_mem hlt')).keep hb⟩
      have HS := Lib.hid hS
      have HL := Lib.hid hL
      have H9 := Lib.hid h9
      clear hS hL h9 hs hlt' hA
      have t1 := cell_alloc (.cells #[.string ⟨#[]⟩, .int .i64 0, .int .i64 0, .slice none 0 0, .slice none 0 0] 35) b1
      have y0 := cell_alloc (.cells #[.string ⟨#[]⟩, .int .i64 0, .int .i64 0, .slice none 0 0, .slice none 0 0] 35) s0
      have y1 := cell_alloc (.cells #[.string ⟨#[]⟩, .int .i64 0, .int .i64 0, .slice none 0 0, .slice none 0 0] 35) s1
      have y2 := cell_alloc (.cells #[.string ⟨#[]⟩, .int .i64 0, .int .i64 0, .slice none 0 0, .slice none 0 0] 35) s2
      go_wp2_with fail
      go_region
      as_aux_lemma =>
        clear t1 y0 y1 y2
        obtain ⟨sb, hsb⟩ : ∃ x, wr.heap.size = x := ⟨_, rfl⟩
        obtain ⟨W1, hW1⟩ : ∃ x, x = (wr.alloc (.cells #[.string s.name, .int .i64 s.kind, .int .i64 s.part, .slice none 0 0, .slice none 0 0] 35)).drew := ⟨_, rfl⟩
        have h5 := (HS.out.new #[.string s.name, .int .i64 s.kind, .int .i64 s.part, .slice none 0 0, .slice none 0 0] 35).drew
        rw [← hW1, hsb] at h5
        have hbe : Below wr.heap.size wr W1 := by rw [hW1]; exact ((Below.refl _ _).alloc (Nat.le_refl _) _).drew
        rw [← hW1, hsb]
        have HS1 := Lib.hid (HST.out.keep hbe)
        have u1 := old_cell hbe b1
        have u3 := old_cell hbe s3
        have u4 := old_cell hbe s4
        have k3 : W1.cell? ⟨sb, 3, none⟩ = some (.slice none 0 0) := h5.blk.cell 3
        have kf := h5.blk.free 3
        have H5 := Lib.hid h5
        have hfk := HZ.out.keyn s HSM.out
        have hfn := HZ.out.needs s HSM.out
        have HRK : Hid (Rd W1.drew s.kA s.keys.length 1 (strV s.keys)) := (rd_of (f := fun b => .string b) HS1.out.keys).drewN 1
        obtain ⟨i9, hi9, hz9, hs9, hb9⟩ := info_parts infoS
        obtain ⟨i3, hi3, hz3, hs3, hb3⟩ := info_parts infoI
        obtain ⟨i35, hi35, hz35, hs35, hb35⟩ := info_parts infoSt
        have HI9 := Lib.hid hi9
        have HI3 := Lib.hid hi3
        have HI35 := Lib.hid hi35
        have HK63 : Hid (0 + s.keys.length ≤ maxLen ∧ (0 + s.keys.length) * 16 ≤ 140737488355328) := by show _ ∧ _; unfold maxLen; omega
        have HN63 : Hid (0 + s.needs.length ≤ maxLen ∧ (0 + s.needs.length) * 8 ≤ 140737488355328) := by show _ ∧ _; unfold maxLen; omega
        clear h5 hbe hW1 s0 s1 s2 s3 s4 b1 hi9 hi3 hi35 hfk hfn
        go_wp2_with fail
        obtain ⟨LL, hLL⟩ : ∃ LL, LL = [Blk ob 24 [.string d.name, .slice A i c], Row 35 5 A i c (stepsC L), sep (L.map stP), Blk (b + 1) 24 [.string ⟨#[]⟩, .slice none 0 0], Blk b 24 [.string d.name, .slice (some ⟨g, o, none⟩) n d.c], Old w] := ⟨_, rfl⟩
        rw [← hLL] at H5
        have HLL := Lib.hid hLL
        clear hLL
        go_still_tail 8, (by kernel_rfl)
        change wpList _ _ _ _ _ W1.drew
        have HD5 : Hid (Sat w W1.drew (Blk sb 35 [.string s.name, .int .i64 s.kind, .int .i64 s.part, .slice none 0 0, .slice none 0 0] :: LL)) := H5.out.drew
        have v1 : W1.drew.cell? ⟨b, 1, none⟩ = some (.slice (some ⟨g, o, none⟩) n d.c) := u1
        have v4 : W1.drew.cell? ⟨g, o + i * 5 + 4, none⟩ = some (.slice s.nA s.needs.length s.nc) := u4
        have HS2 : Hid (StAt W1.drew s) := HS1.out.keep (below_drewN (Below.refl _ _) 1)
        obtain ⟨W2, hW2⟩ : ∃ x, x = W1.drew := ⟨_, rfl⟩
        rw [← hW2] at HD5 v1 v4 HS2 HRK ⊢
        clear hW2
        clear H5 HS1 k3 kf u1 u3 u4
        as_aux_lemma =>
          go_wp2_with (first
            | (at_builtin; refine wpList_appS rfl (.tmp 36) (.tmp 42) 32 rfl 9 i9 (.string ⟨#[]⟩) 1 16 Tryd.underlying32 HI9.out hz9 hs9 hb9 rfl (by decide) rfl (HD5.out.nilRow 9 1) rfl HRK.out (strV_one _) HK63.out.1 HK63.out.2 ?_; intro A1 c1 W3 hS2; have q3 : W3.cell? ⟨sb, 3, none⟩ = some (.slice none 0 0) := hS2.r2.blk.cell 3; have qf := hS2.r2.blk.free 3))
          have hX := hS2.r2.set 3 (.slice A1 s.keys.length c1)
          rw [Nat.zero_add, List.nil_append] at hX
          clear hS2 q3 qf v1 v4 HRK HD5 HS2
          have h6 : Sat w (W3.setCell ⟨sb, 3, none⟩ (.slice A1 s.keys.length c1)) (Blk sb 35 [.string s.name, .int .i64 s.kind, .int .i64 s.part, .slice A1 s.keys.length c1, .slice none 0 0] :: Row 9 1 A1 s.keys.length c1 (strV s.keys) :: LL) := hX
          clear hX
          obtain ⟨W4, hW4⟩ : ∃ x, x = W3.setCell ⟨sb, 3, none⟩ (.slice A1 s.keys.length c1) := ⟨_, rfl⟩
          rw [← hW4] at h6 ⊢
          clear hW4
          as_aux_lemma =>
            have h6b := h6.tail.tail
            rw [HLL.out] at h6b
            have u1 : W4.cell? ⟨b, 1, none⟩ = some (.slice (some ⟨g, o, none⟩) n d.c) := h6b.r5.blk.cell 1
            obtain ⟨u4, hst⟩ := HSC.out W4 (h6b.old (by simp))
            have k4 : W4.cell? ⟨sb, 4, none⟩ = some (.slice none 0 0) := h6.blk.cell 4
            have HRN : Hid (Rd W4.drew s.nA s.needs.length 1 (intV s.needs)) := (rd_of (f := fun b => .int .i64 b) hst.needs).drewN 1
            have HD6 : Hid (Sat w W4.drew (Blk sb 35 [.string s.name, .int .i64 s.kind, .int .i64 s.part, .slice A1 s.keys.length c1, .slice none 0 0] :: Row 9 1 A1 s.keys.length c1 (strV s.keys) :: LL)) := h6.drew
            clear h6 h6b hst
            go_still_tail 8, (by kernel_rfl)
            change wpList _ _ _ _ _ W4.drew
            obtain ⟨W5, hW5⟩ : ∃ x, x = W4.drew := ⟨_, rfl⟩
            rw [← hW5] at HD6 HRN ⊢
            clear hW5
            clear u1 u4 k4
            as_aux_lemma =>
              go_upto_region 8 with (first
                | (at_builtin; refine wpList_appS rfl (.tmp 46) (.tmp 52) 33 rfl 3 i3 (.int .i64 0) 1 8 Tryd.underlying33 HI3.out hz3 hs3 hb3 rfl (by decide) rfl (HD6.out.nilRow 3 1) rfl HRN.out (intV_one _) HN63.out.1 HN63.out.2 ?_; intro A2 c2 W6 hS2; have q3 : W6.cell? ⟨sb, 4, none⟩ = some (.slice none 0 0) := hS2.r2.blk.cell 4; have qf := hS2.r2.blk.free 4))
              have hX := hS2.r2.set 4 (.slice A2 s.needs.length c2)
              rw [Nat.zero_add, List.nil_append] at hX
              clear hS2 q3 qf HRN HD6
              have h7 : Sat w (W6.setCell ⟨sb, 4, none⟩ (.slice A2 s.needs.length c2)) (Blk sb 35 [.string s.name, .int .i64 s.kind, .int .i64 s.part, .slice A1 s.keys.length c1, .slice A2 s.needs.length c2] :: Row 3 1 A2 s.needs.length c2 (intV s.needs) :: Row 9 1 A1 s.keys.length c1 (strV s.keys) :: LL) := hX
              clear hX
              obtain ⟨W7, hW7⟩ : ∃ x, x = W6.setCell ⟨sb, 4, none⟩ (.slice A2 s.needs.length c2) := ⟨_, rfl⟩
              rw [← hW7] at h7 ⊢
              clear hW7
              rw [HLL.out] at h7
              as_aux_lemma =>
                have o1 : W7.cell? ⟨ob, 1, none⟩ = some (.slice A i c) := h7.r4.blk.cell 1
                have n0 : W7.cell? ⟨sb, 0, none⟩ = some (.string s.name) := h7.blk.cell 0
                have n1 : W7.cell? ⟨sb, 1, none⟩ = some (.int .i64 s.kind) := h7.blk.cell 1
                have n2 : W7.cell? ⟨sb, 2, none⟩ = some (.int .i64 s.part) := h7.blk.cell 2
                have n3 : W7.cell? ⟨sb, 3, none⟩ = some (.slice A1 s.keys.length c1) := h7.blk.cell 3
                have n4 : W7.cell? ⟨sb, 4, none⟩ = some (.slice A2 s.needs.length c2) := h7.blk.cell 4
                have HB8 := Lib.hid (h7.r5.new #[.string s.name, .int .i64 s.kind, .int .i64 s.part, .slice A1 s.keys.length c1, .slice A2 s.needs.length c2] 35)
                have HB63 : Hid (i + 1 ≤ maxLen ∧ (i + 1) * 80 ≤ 140737488355328) := by show _ ∧ _; unfold maxLen; omega
                have HONE : Hid (∀ u ∈ (#[.string s.name, .int .i64 s.kind, .int .i64 s.part, .slice A1 s.keys.length c1, .slice A2 s.needs.length c2] : Array Value).toList, u.oneCell' = true) := vs_one ⟨s.name, s.kind, s.part, s.keys, s.needs, A1, c1, A2, c2⟩
                have HLEN : Hid ((#[.string s.name, .int .i64 s.kind, .int .i64 s.part, .slice A1 s.keys.length c1, .slice A2 s.needs.length c2] : Array Value).toList.length = 5) := rfl
                have HZC : Hid ((Value.agg #[.string ⟨#[]⟩, .int .i64 0, .int .i64 0, .slice none 0 0, .slice none 0 0]).cells.size = 5) := rfl
                have HSTP : Hid (List.map stP [⟨s.name, s.kind, s.part, s.keys, s.needs, A1, c1, A2, c2⟩] = [sep [Row 9 1 A1 s.keys.length c1 (strV s.keys), Row 3 1 A2 s.needs.length c2 (intV s.needs)]]) := rfl
                have HVS : Hid (St.vs ⟨s.name, s.kind, s.part, s.keys, s.needs, A1, c1, A2, c2⟩ = [.string s.name, .int .i64 s.kind, .int .i64 s.part, .slice A1 s.keys.length c1, .slice A2 s.needs.length c2]) := rfl
                have HC : Hid ((⟨s.name, s.kind, s.part, s.keys, s.needs, A1, c1, A2, c2⟩ : St).core = s.core) := rfl
                clear h7
                go_wp2_with (first
                  | (refine wpList_bs35 rfl 57 rfl (.string s.name) (.int .i64 s.kind) (.int .i64 s.part) (.slice A1 s.keys.length c1) (.slice A2 s.needs.length c2) rfl ?_)
                  | (at_builtin; refine wpList_app1 rfl (.tmp 56) (.tmp 58) 22 rfl 35 i35 _ 5 80 Tryd.underlying22 HI35.out hz35 hs35 hb35 HZC.out (by decide) rfl HB8.out rfl HLEN.out HONE.out HB63.out.1 HB63.out.2 ?_; intro A3 c3 W8 hS8; have q1 : W8.cell? ⟨ob, 1, none⟩ = some (.slice A i c) := hS8.r5.blk.cell 1; have qf := hS8.r5.blk.free 1))
                have HX := Lib.hid (hS8.r5.set 1 (.slice A3 (i + 1) c3))
                clear hS8 q1 qf
                have HFIN : Hid (Sat w (W8.setCell ⟨ob, 1, none⟩ (.slice A3 (i + 1) c3)) [Blk ob 24 [.string d.name, .slice A3 (i + 1) c3], Row 35 5 A3 (i + 1) c3 (stepsC L ++ [.string s.name, .int .i64 s.kind, .int .i64 s.part, .slice A1 s.keys.length c1, .slice A2 s.needs.length c2]),
                    sep (L.map stP ++ [sep [Row 9 1 A1 s.keys.length c1 (strV s.keys), Row 3 1 A2 s.needs.length c2 (intV s.needs)]]), Blk (b + 1) 24 [.string ⟨#[]⟩, .slice none 0 0], Blk b 24 [.string d.name, .slice (some ⟨g, o, none⟩) n d.c], Old w]) := by
                  have h1 := HX.out
                  exact h1.b5.b5.tail.r2.close2.r4.snocP.b3
                clear HX
                go_roundw
                case rel =>
                  refine ⟨i + 1, A3, c3, L ++ [⟨s.name, s.kind, s.part, s.keys, s.needs, A1, c1, A2, c2⟩], by rw [HN.out]; omega, by go_num, ?_, ?_⟩
                  · rw [List.map_append, HL.out, HTK.out, List.map_cons, List.map_nil, HC.out]
                  · rw [stepsC_snoc, List.map_append, HSTP.out, HVS.out]
                    exact HFIN.out
                case measure =>
                  simp [intOf]
                  omega
    · obtain rfl : i = n := by omega
      have o0 : wr.cell? ⟨ob, 0, none⟩ = some (.string d.name) := hS.blk.cell 0
      have o1 : wr.cell? ⟨ob, 1, none⟩ = some (.slice A i c) := hS.blk.cell 1
      have z0 : wr.cell? ⟨b + 1, 0, none⟩ = some (.string ⟨#[]⟩) := hS.r4.blk.cell 0
      have z1 : wr.cell? ⟨b + 1, 1, none⟩ = some (.slice none 0 0) := hS.r4.blk.cell 1
      have f0 := hS.r4.blk.free 0
      have f1 := hS.r4.blk.free 1
      have hx := (hS.r4.set 0 (.string d.name)).set 1 (.slice A i c)
      have HX : Hid (Sat w _ [Blk (b + 1) 24 [.string d.name, .slice A i c], Row 35 5 A i c (stepsC L), sep (L.map stP), Old w]) := hx.r2.tail.r4.tail
      have HL := Lib.hid hL
      clear hS hL h9
      go_wp2_with fail
      refine bodyPost_ret (res24 (by rfl) HX.out (by rfl)) rfl ?_
      have hlen : L.length = i := by
        have h1 := congrArg List.length HL.out
        have h2 := HN.out
        simp at h1
        omega
      refine ⟨⟨d.name, L, A, c⟩, by rw [← hlen], ⟨rfl, ?_⟩, ?_⟩
      · show L.map St.core = _
        have h2 := HN.out
        rw [HL.out, List.take_of_length_le (by omega)]
      · have h3 := HX.out.tail
        show Sat w _ (OwnP ⟨d.name, L, A, c⟩ :: [Old w])
        refine Sat.close2 ?_
        rw [hlen]
        exact h3
end Go.Proofs.YtpmoanjeoaeabaaDoor
end

section
/- Two definitions that say the same are the same for the law: texts, ints, Same. -/
set_option linter.unusedVariables false
set_option linter.unusedSimpArgs false
set_option linter.unnecessarySimpa false
set_option maxRecDepth 100000
namespace Go.Proofs.YtpmoanjeoaeabaaDoor
open Go.RowKit Go.ChangeShapes Go.WideShapes Go.ChangeAt
def Qt (w : World) (n : Nat) (x : Value) (wr : World) : Prop := ∃ k : Nat, k ≤ n ∧ x = .int .i64 k ∧ Below w.heap.size w wr
theorem texts_yes {w : World} {A B : Option Addr} {c e : Nat} (l : List ByteArray) (h1 : Elems w (.slice A l.length c) 1 (l.map strC)) (h2 : Elems w (.slice B l.length e) 1 (l.map strC)) (hl : l.length ≤ 1000000000000000000) :
    Calls Tryd.prog 50 #[.slice A l.length c, .slice B l.length e] w (Quietly w (.bool true)) := by
  have HE := Lib.hid h1
  have HG := Lib.hid h2
  clear h1 h2
  unfold Quietly
  go_enter Tryd.func50, Tryd.ntmps50
  go_wp2_with fail
  go_loopw [5] (Qt w l.length) (fun x _ => l.length - (intOf x).toNat)
  case atStart => exact ⟨0, Nat.zero_le _, rfl, Below.refl _ _⟩
  case round =>
    obtain ⟨k, hk, rfl, hb⟩ := hrel
    by_cases hlt : k < l.length
    · obtain ⟨b, o, rfl, hc⟩ := key_cells (HE.out.keep hb) (by omega)
      obtain ⟨b2, o2, rfl, hc2⟩ := key_cells (HG.out.keep hb) (by omega)
      have c0 := hc k hlt
      have c1 := hc2 k hlt
      obtain ⟨x, hx⟩ : ∃ x, l[k] = x := ⟨_, rfl⟩
      rw [hx] at c0 c1
      have s1 : (x.toList == x.toList) = true := str_yes rfl
      have HB := Lib.hid hb
      clear hc hc2 hx hb
      go_wp2_with fail
      go_quiet (fail)
      go_wp2_with fail
      go_roundw
      case rel => exact ⟨k + 1, by omega, by go_num, below_drewN HB.out _⟩
      case measure => simp [intOf]; omega
    · go_wp2_with fail
      go_ret
      exact ⟨rfl, hb⟩
theorem ints_yes {w : World} {A B : Option Addr} {c e : Nat} (l : List Int) (h1 : Elems w (.slice A l.length c) 1 (l.map intC)) (h2 : Elems w (.slice B l.length e) 1 (l.map intC)) (hl : l.length ≤ 1000000000000000000) :
    Calls Tryd.prog 51 #[.slice A l.length c, .slice B l.length e] w (Quietly w (.bool true)) := by
  have HE := Lib.hid h1
  have HG := Lib.hid h2
  clear h1 h2
  unfold Quietly
  go_enter Tryd.func51, Tryd.ntmps51
  go_wp2_with fail
  go_loopw [5] (Qt w l.length) (fun x _ => l.length - (intOf x).toNat)
  case atStart => exact ⟨0, Nat.zero_le _, rfl, Below.refl _ _⟩
  case round =>
    obtain ⟨k, hk, rfl, hb⟩ := hrel
    by_cases hlt : k < l.length
    · obtain ⟨b, o, rfl, hc⟩ := need_cells (HE.out.keep hb) (by omega)
      obtain ⟨b2, o2, rfl, hc2⟩ := need_cells (HG.out.keep hb) (by omega)
      have c0 := hc k hlt
      have c1 := hc2 k hlt
      obtain ⟨x, hx⟩ : ∃ x, l[k] = x := ⟨_, rfl⟩
      rw [hx] at c0 c1
      have HB := Lib.hid hb
      clear hc hc2 hx hb
      go_wp2_with fail
      go_quiet (fail)
      go_wp2_with fail
      go_roundw
      case rel => exact ⟨k + 1, by omega, by go_num, below_drewN HB.out _⟩
      case measure => simp [intOf]; omega
    · go_wp2_with fail
      go_ret
      exact ⟨rfl, hb⟩
theorem core_at {a d : Df} (h : Like a d) {k : Nat} (hk : k < a.steps.length) (hk2 : k < d.steps.length) : a.steps[k].core = d.steps[k].core := by
  have h1 := congrArg (fun l : List Core => l[k]?) h.steps
  simp only [List.getElem?_map, List.getElem?_eq_getElem hk, List.getElem?_eq_getElem hk2, Option.map_some, Option.some.injEq] at h1
  exact h1
set_option maxHeartbeats 3200000 in
theorem same_yes {w : World} {a d : Df} (ha : DefAt w a) (hd : DefAt w d) (hl : Like a d) (hz : Fits d) : Calls Tryd.prog 14 #[a.v, d.v] w (Quietly w (.bool true)) := by
  have HA := Lib.hid ha
  have HD := Lib.hid hd
  have HL := Lib.hid hl
  have HZ := Lib.hid hz
  have hna := hl.name
  have hla := hl.len
  obtain ⟨nm, hnm⟩ : ∃ x, d.name = x := ⟨_, rfl⟩
  obtain ⟨n, hn⟩ : ∃ x, d.steps.length = x := ⟨_, rfl⟩
  have hn5 : n * 80 ≤ 140737488351232 := by have := hz.steps; omega
  rw [hnm] at hna
  rw [hn] at hla
  unfold Df.v Quietly
  rw [hna, hla, hnm, hn]
  obtain ⟨P, hP⟩ : ∃ x, a.A = x := ⟨_, rfl⟩
  obtain ⟨R, hR⟩ : ∃ x, d.A = x := ⟨_, rfl⟩
  rw [hP, hR]
  have HP := Lib.hid hP
  have HR := Lib.hid hR
  have HLA := Lib.hid hla
  have HN := Lib.hid hn
  obtain ⟨b, hb⟩ : ∃ b, w.heap.size = b := ⟨_, rfl⟩
  have hs1 : (w.alloc (.cells #[.string nm, .slice P n a.c] 24)).heap.size = w.heap.size + 1 := by simp
  have h2 := ((Sat.start w).new #[.string nm, .slice P n a.c] 24).new #[.string nm, .slice R n d.c] 24
  rw [hs1, hb] at h2
  have H2 := Lib.hid h2
  have s0 : (nm.toList != nm.toList) = false := by simp
  clear ha hd hl hz hna hla hnm hn hP hR hs1 h2
  go_enter Tryd.func14, Tryd.ntmps14
  go_wp2_with fail
  try simp only [hb]
  go_loopw [5] (So2 w [Blk (b + 1) 24 [.string nm, .slice R n d.c], Blk b 24 [.string nm, .slice P n a.c], Old w] n) (fun x _ => n - (intOf x).toNat)
  case atStart => exact ⟨0, Nat.zero_le _, rfl, H2.out⟩
  case round =>
    obtain ⟨k, hk, rfl, hS⟩ := hrel
    clear H2 s0
    have h9 := hS.old (by simp)
    by_cases hlt : k < n
    · have ha1 : k < a.steps.length := by rw [HLA.out]; exact hlt
      have hd1 : k < d.steps.length := by rw [HN.out]; exact hlt
      obtain ⟨g, o, e1, s0, s1, s2, s3, s4⟩ := step_at a (HA.out.keep h9) k ha1
      obtain ⟨g2, o2, e2, t0, t1, t2, t3, t4⟩ := step_at d (HD.out.keep h9) k hd1
      obtain rfl : P = some ⟨g, o, none⟩ := HP.out.symm.trans e1
      obtain rfl : R = some ⟨g2, o2, none⟩ := HR.out.symm.trans e2
      have hsa := HA.out.each _ (List.getElem_mem ha1)
      have hsd := HD.out.each _ (List.getElem_mem hd1)
      have hc := core_at HL.out ha1 hd1
      have hk1 := HZ.out.keyn _ (List.getElem_mem hd1)
      have hk2 := HZ.out.needs _ (List.getElem_mem hd1)
      obtain ⟨s, hs⟩ : ∃ x, a.steps[k] = x := ⟨_, rfl⟩
      obtain ⟨t, ht⟩ : ∃ x, d.steps[k] = x := ⟨_, rfl⟩
      rw [hs] at s0 s1 s2 s3 s4 hsa hc
      rw [ht] at t0 t1 t2 t3 t4 hsd hc hk1 hk2
      obtain ⟨sn, sk, sp, sks, sns, kA, kc, nA, nc⟩ := s
      obtain ⟨tn, tk', tp, tks, tns, kB, kd, nB, nd⟩ := t
      injection hc with c1 c2 c3 c4 c5
      subst c1 c2 c3 c4 c5
      have HT1 : Hid (∀ w1, Below w.heap.size w w1 → Calls Tryd.prog 50 #[.slice kA sks.length kc, .slice kB sks.length kd] w1 fun e w' => e = .returned (.bool true) ∧ Below w1.heap.size w1 w') := fun w1 hb => texts_yes sks (hsa.keys.keep hb) (hsd.keys.keep hb) (by simp only at hk1; omega)
      have HT2 : Hid (∀ w1, Below w.heap.size w w1 → Calls Tryd.prog 51 #[.slice nA sns.length nc, .slice nB sns.length nd] w1 fun e w' => e = .returned (.bool true) ∧ Below w1.heap.size w1 w') := fun w1 hb => ints_yes sns (hsa.needs.keep hb) (hsd.needs.keep hb) (by simp only at hk2; omega)
      have b1 : wr.cell? ⟨b, 1, none⟩ = some (.slice (some ⟨g, o, none⟩) n a.c) := hS.r2.blk.cell 1
      have b2 : wr.cell? ⟨b + 1, 1, none⟩ = some (.slice (some ⟨g2, o2, none⟩) n d.c) := hS.blk.cell 1
      obtain ⟨q, hq⟩ : ∃ q, wr.heap.size = q := ⟨_, rfl⟩
      have h3 := hS.new #[.string sn, .int .i64 sk, .int .i64 sp, .slice kA sks.length kc, .slice nA sns.length nc] 35
      have hsz : (wr.alloc (.cells #[.string sn, .int .i64 sk, .int .i64 sp, .slice kA sks.length kc, .slice nA sns.length nc] 35)).heap.size = wr.heap.size + 1 := by simp
      have h4 := h3.new #[.string sn, .int .i64 sk, .int .i64 sp, .slice kB sks.length kd, .slice nB sns.length nd] 35
      rw [hsz, hq] at h4
      have u2 := cell_alloc (.cells #[.string sn, .int .i64 sk, .int .i64 sp, .slice kA sks.length kc, .slice nA sns.length nc] 35) b2
      have v0 := cell_alloc (.cells #[.string sn, .int .i64 sk, .int .i64 sp, .slice kA sks.length kc, .slice nA sns.length nc] 35) t0
      have v1 := cell_alloc (.cells #[.string sn, .int .i64 sk, .int .i64 sp, .slice kA sks.length kc, .slice nA sns.length nc] 35) t1
      have v2 := cell_alloc (.cells #[.string sn, .int .i64 sk, .int .i64 sp, .slice kA sks.length kc, .slice nA sns.length nc] 35) t2
      have v3 := cell_alloc (.cells #[.string sn, .int .i64 sk, .int .i64 sp, .slice kA sks.length kc, .slice nA sns.length nc] 35) t3
      have v4 := cell_alloc (.cells #[.string sn, .int .i64 sk, .int .i64 sp, .slice kA sks.length kc, .slice nA sns.length nc] 35) t4
      have H4 := Lib.hid h4
      have x0 : (sn.toList != sn.toList) = false := by simp
      have HH9 := Lib.hid h9
      clear h3 h4 hS hsa hsd hs ht e1 e2 hsz hk1 hk2 h9
      go_wp2_with fail
      try simp only [hq]
      refine (HT1.out _ (H4.out.old (by simp))).mono ?_
      rintro e w1 ⟨rfl, hb1⟩
      have h5 := H4.out.below hb1
      have y4 : w1.cell? ⟨q, 4, none⟩ = some (.slice nA sns.length nc) := h5.r2.blk.cell 4
      have z4 : w1.cell? ⟨q + 1, 4, none⟩ = some (.slice nB sns.length nd) := h5.blk.cell 4
      have H5 := Lib.hid h5
      clear h5 hb1 H4 s0 s1 s2 s3 s4 t0 t1 t2 t3 t4 u2 v0 v1 v2 v3 v4 b1 b2
      go_wp2_with fail
      refine (HT2.out _ (H5.out.old (by simp))).mono ?_
      rintro e w2 ⟨rfl, hb2⟩
      have H6 := Lib.hid ((H5.out.below hb2).tail.tail)
      clear hb2 H5 y4 z4
      go_wp2_with fail
      go_roundw
      case rel => exact ⟨k + 1, by omega, by go_num, H6.out⟩
      case measure => simp [intOf]; omega
    · have b1 : wr.cell? ⟨b, 1, none⟩ = some (.slice P n a.c) := hS.r2.blk.cell 1
      go_wp2_with fail
      go_ret
      exact ⟨rfl, by first | exact h9 | (rw [hb] at h9; exact h9)⟩
end Go.Proofs.YtpmoanjeoaeabaaDoor
end

section
/- The walk of CheckTells: a definition of its own, checked twice; it is as it was. -/
set_option linter.unusedVariables false
set_option linter.unusedSimpArgs false
set_option linter.unnecessarySimpa false
set_option maxRecDepth 100000
namespace Go.Proofs.YtpmoanjeoaeabaaDoor
open Go.RowKit Go.ChangeShapes Go.WideShapes Go.ChangeAt
/-- the value of a definition D that says what d says -/
def likeV (d D : Df) : Value := .agg #[.string d.name, .slice D.A d.steps.length D.c]
theorem like_v {d D : Df} (h : Like D d) : D.v = likeV d D := by unfold Df.v likeV; rw [h.name, h.len]
section
variable {w : World} {d : Df}
theorem own_check (hD : DefAt w d) (hz : Fits d) (hT : Lib.Utf8Tabs 0 1 w) : ∀ (D : Df) (F : List HP) (w1 : World), Like D d → Sat w w1 (OwnP D :: F) → Old w ∈ F →
    Calls Tryd.prog 12 #[likeV d D] w1 fun e w' => e = .returned (.tuple #[.int .i64 (checkN d).1, .int .i64 (checkN d).2]) ∧ Below w1.heap.size w1 w' := fun D F w1 hl hS hm => by
  rw [← like_v hl, ← hl.check]
  exact check_any D (hS.ownDef hl hD) (hl.fits hz).sized (tabs_keep hT (hS.old (List.mem_cons_of_mem _ hm)))
theorem own_same (hD : DefAt w d) (hz : Fits d) : ∀ (D : Df) (F : List HP) (w1 : World), Like D d → Sat w w1 (OwnP D :: F) → Old w ∈ F →
    Calls Tryd.prog 14 #[likeV d D, d.v] w1 fun e w' => e = .returned (.bool true) ∧ Below w1.heap.size w1 w' := fun D F w1 hl hS hm => by
  rw [← like_v hl]
  exact same_yes (hS.ownDef hl hD) (hD.keep (hS.old (List.mem_cons_of_mem _ hm))) hl hz
theorem copied_own {w0 : World} {F : List HP} (hD : DefAt w d) (hz : Fits d) (hS : Sat w0 w F) : Calls Tryd.prog 11 #[d.v] w fun e w' => ∃ D : Df, e = .returned (likeV d D) ∧ Like D d ∧ Sat w0 w' (OwnP D :: F) :=
  (copied_any d hD hz).mono fun e w' ⟨D, he, hl, h⟩ => ⟨D, by rw [he, like_v hl], hl, hS.frame (X := [OwnP D]) h⟩
end
set_option maxHeartbeats 3200000 in
theorem checkTells_any {w : World} (d : Df) (hD : DefAt w d) (hz : Fits d) (hT : Lib.Utf8Tabs 0 1 w) : Calls Tryd.prog 3 #[d.v] w (Quietly w (.bool true)) := by
  have C11 : Hid (∀ w1, Below w.heap.size w w1 → ∀ F, Sat w w1 F → Calls Tryd.prog 11 #[d.v] w1 fun e w' => ∃ D : Df, e = .returned (likeV d D) ∧ Like D d ∧ Sat w w' (OwnP D :: F)) := fun w1 hb F hF => copied_own (hD.keep hb) hz hF
  have C12 := Lib.hid (own_check hD hz hT)
  have C13 : Hid (∀ w1, Below w.heap.size w w1 → Calls Tryd.prog 13 #[d.v] w1 fun e w' => e = .returned (.tuple #[.int .i64 (checkN d).1, .int .i64 (checkN d).2]) ∧ Below w1.heap.size w1 w') := fun w1 hb => rcheck_any d (hD.keep hb) hz.sized
  have C14 := Lib.hid (own_same hD hz)
  have C15 : Hid (∀ w1, Below w.heap.size w w1 → Calls Tryd.prog 15 #[] w1 fun e w' => e = .returned (.bool true) ∧ Below w1.heap.size w1 w') := fun w1 hb => live_any w1 (tabs_keep hT hb)
  obtain ⟨R, hR⟩ : ∃ R, checkN d = R := ⟨_, rfl⟩
  rw [hR] at C12 C13
  obtain ⟨x, y⟩ := R
  have h1 := (Sat.start w).new #[.string d.name, .slice d.A d.steps.length d.c] 24
  obtain ⟨b, hb⟩ : ∃ b, w.heap.size = b := ⟨_, rfl⟩
  unfold likeV at C11 C12 C14
  unfold Df.v at C11 C13 C14 ⊢
  unfold Quietly
  obtain ⟨n, hN⟩ : ∃ n, d.steps.length = n := ⟨_, rfl⟩
  simp only [hN] at h1 C11 C12 C13 C14 ⊢
  rw [hb] at h1
  have H1 := Lib.hid h1
  clear h1 hD hz hR hN hT
  go_enter Tryd.func3, Tryd.ntmps3
  go_wp2_with fail
  try simp only [hb]
  refine (C11.out _ (H1.out.old (by simp)) _ H1.out).mono ?_
  rintro e w1 ⟨D, rfl, hl, h2⟩
  obtain ⟨q, hq⟩ : ∃ q, w1.heap.size = q := ⟨_, rfl⟩
  have h3 := h2.new #[.string d.name, .slice D.A n D.c] 24
  rw [hq] at h3
  have H3 := Lib.hid h3
  have HL := Lib.hid hl
  clear h2 h3 hl H1
  go_wp2_with fail
  try simp only [hq]
  refine (C12.out D _ _ HL.out H3.out.r2 (by simp)).mono ?_
  rintro e w2 ⟨rfl, hb2⟩
  have h4 := H3.out.below hb2
  have c0 := h4.blk.cell 0
  have c1 := h4.blk.cell 1
  have H4 := Lib.hid h4
  clear h4 hb2 H3
  go_wp2_with fail
  refine (C12.out D _ _ HL.out H4.out.r2 (by simp)).mono ?_
  rintro e w3 ⟨rfl, hb3⟩
  have h5 := H4.out.below hb3
  have a0 := h5.r3.blk.cell 0
  have a1 := h5.r3.blk.cell 1
  have H5 := Lib.hid h5
  clear h5 hb3 H4 c0 c1
  go_wp2_with fail
  refine (C13.out _ (H5.out.old (by simp))).mono ?_
  rintro e w4 ⟨rfl, hb4⟩
  have h6 := H5.out.below hb4
  have c0 := h6.blk.cell 0
  have c1 := h6.blk.cell 1
  have d0 := h6.r3.blk.cell 0
  have d1 := h6.r3.blk.cell 1
  have H6 := Lib.hid h6
  clear h6 hb4 H5 a0 a1
  go_wp2_with fail
  refine (C14.out D _ _ HL.out H6.out.r2 (by simp)).mono ?_
  rintro e w5 ⟨rfl, hb5⟩
  have H7 := Lib.hid (H6.out.below hb5)
  clear hb5 H6 c0 c1 d0 d1
  go_wp2_with fail
  refine (C15.out _ (H7.out.old (by simp))).mono ?_
  rintro e w6 ⟨rfl, hb6⟩
  have H8 := Lib.hid ((H7.out.below hb6).old (by simp))
  clear hb6 H7
  go_wp2_with fail
  go_ret
  exact ⟨rfl, by have h9 := H8.out; first | exact h9 | (rw [hb] at h9; exact h9)⟩
end Go.Proofs.YtpmoanjeoaeabaaDoor
end

section
/- CheckLess: a definition with one step's needs left out. -/
set_option linter.unusedVariables false
set_option linter.unusedSimpArgs false
set_option linter.unnecessarySimpa false
set_option maxRecDepth 100000
namespace Go.Proofs.YtpmoanjeoaeabaaDoor
open Go.RowKit Go.ChangeShapes Go.WideShapes Go.ChangeAt
/-- the step with its needs left out -/
def bare (s : St) : St := ⟨s.name, s.kind, s.part, s.keys, [], s.kA, s.kc, none, 0⟩
def lessD (D : Df) (q : Nat) : Df := ⟨D.name, D.steps.modify q bare, D.A, D.c⟩
theorem stepsC_less : ∀ (L : List St) (q : Nat), q < L.length → stepsC (L.modify q bare) = (stepsC L).set (q * 5 + 4) (.slice none 0 0)
  | [], q, h => absurd h (Nat.not_lt_zero _)
  | s :: L, 0, _ => by
    show stepsC (bare s :: L) = _
    unfold stepsC
    rw [List.flatMap_cons, List.flatMap_cons]
    rfl
  | s :: L, q + 1, h => by
    have ih := stepsC_less L q (by simpa using h)
    have e : (s :: L).modify (q + 1) bare = s :: L.modify q bare := by simp
    rw [e]
    unfold stepsC at ih ⊢
    rw [List.flatMap_cons, List.flatMap_cons, ih, List.set_append_right (h := by show 5 ≤ _; omega)]
    congr 2
    show _ = (q + 1) * 5 + 4 - 5
    omega
theorem less_getD (D : Df) (q k : Nat) : (lessD D q).steps.getD k ⟨.empty, 0, 0, [], [], none, 0, none, 0⟩ = if q = k then bare (D.steps.getD k ⟨.empty, 0, 0, [], [], none, 0, none, 0⟩) else D.steps.getD k ⟨.empty, 0, 0, [], [], none, 0, none, 0⟩ := by
  show (D.steps.modify q bare).getD k _ = _
  rw [List.getD_eq_getElem?_getD, List.getElem?_modify, List.getD_eq_getElem?_getD]
  by_cases h : q = k
  · subst h
    cases hc : D.steps[q]? <;> simp [bare]
  · cases hc : D.steps[k]? <;> simp [h]
theorem less_at {D d : Df} (h : Like D d) (q : Nat) : LessAt (lessD D q) d q := by
  refine ⟨h.name, by show (D.steps.modify q bare).length = _; rw [List.length_modify, h.len], fun k => ?_, fun k => ?_, fun k => ?_, fun k => ?_, fun k => ?_⟩
  · rw [← h.nameAt]; unfold nameAt; rw [less_getD]; split <;> rfl
  · rw [← h.kindAt]; unfold kindAt; rw [less_getD]; split <;> rfl
  · rw [← h.partAt]; unfold partAt; rw [less_getD]; split <;> rfl
  · rw [← h.keysAt]; unfold keysAt; rw [less_getD]; split <;> rfl
  · rw [← h.needsAt]; unfold needsAt; rw [less_getD]
    by_cases e : q = k
    · rw [if_pos e, if_pos e.symm]; rfl
    · rw [if_neg e, if_neg fun g => e g.symm]
theorem less_mem {D : Df} {q : Nat} {s : St} (h : s ∈ (lessD D q).steps) : s ∈ D.steps ∨ ∃ t ∈ D.steps, s = bare t := by
  obtain ⟨k, hk⟩ := List.mem_iff_getElem?.1 h
  change (D.steps.modify q bare)[k]? = some s at hk
  rw [List.getElem?_modify] at hk
  cases hc : D.steps[k]? with
  | none => rw [hc] at hk; simp at hk
  | some t =>
    have ht : t ∈ D.steps := List.mem_iff_getElem?.2 ⟨k, hc⟩
    rw [hc] at hk
    by_cases e : q = k
    · simp [e] at hk; exact .inr ⟨t, ht, hk.symm⟩
    · simp [e] at hk; exact .inl (by rw [← hk]; exact ht)
theorem Sat.lessDef {w0 w : World} {F : List HP} {D d : Df} {q : Nat} (h2 : Sat w0 w (Row 35 5 D.A D.steps.length D.c (stepsC (D.steps.modify q bare)) :: sep (D.steps.map stP) :: F)) (hl : Like D d) {W : World} (hd : DefAt W d) : DefAt w (lessD D q) := by
  have hlen : (D.steps.modify q bare).length = D.steps.length := List.length_modify ..
  have hst : ∀ s ∈ D.steps, StAt w s := fun s hs => by
    obtain ⟨F', hF⟩ := h2.r2.pickP (List.mem_map.2 ⟨s, hs, rfl⟩)
    obtain ⟨t, ht, e⟩ := mem_core hl hs
    have hT := hd.each t ht
    injection e with e1 e2 e3 e4 e5
    refine hF.ownStep ?_ ?_ ?_ ?_ ?_
    · rw [← e2]; exact hT.kind
    · rw [← e3]; exact hT.part
    · rw [← e5]; exact hT.need
    · rw [← e1]; exact hT.name
    · rw [← e4]; exact hT.key
  refine ⟨?_, fun s hs => ?_, by show D.name.size ≤ _; rw [hl.name]; exact hd.name⟩
  · show Elems w (.slice D.A (D.steps.modify q bare).length D.c) 5 ((D.steps.modify q bare).map St.vs)
    rw [hlen]
    refine elems_row h2 _ ?_ (by rw [List.length_map, hlen]) (fun x hx => ?_) (by decide)
    · unfold stepsC
      rw [List.flatMap_def]
    · obtain ⟨b, _, rfl⟩ := List.mem_map.1 hx; rfl
  · rcases less_mem hs with hs | ⟨t, ht, rfl⟩
    · exact hst s hs
    · have h := hst t ht
      exact ⟨h.keys, elems_nil w 1, h.kind, h.part, fun n hn => absurd hn (List.not_mem_nil), h.name, h.key⟩
theorem less_fits {D d : Df} {q : Nat} (hl : Like D d) (hf : Fits d) : Fits (lessD D q) := by
  have h := hl.fits hf
  refine ⟨h.name, fun s hs => ?_, fun s hs => ?_, fun s hs => ?_, fun s hs => ?_, by show (D.steps.modify q bare).length * 80 ≤ _; rw [List.length_modify]; exact h.steps⟩ <;>
    rcases less_mem hs with hs | ⟨t, ht, rfl⟩
  · exact h.names s hs
  · exact h.names t ht
  · exact h.keys s hs
  · exact h.keys t ht
  · exact h.needs s hs
  · exact Nat.zero_le _
  · exact h.keyn s hs
  · exact h.keyn t ht
theorem less_check {D d : Df} {q : Nat} (hl : Like D d) (h : (checkN d).2 = 0) : checkN (lessD D q) = (-1, 0) := by
  refine clean_check ((less_at hl q).clean (clean_of h).1) ?_
  rw [(less_at hl q).name]
  exact check_isN h
end Go.Proofs.YtpmoanjeoaeabaaDoor
end
