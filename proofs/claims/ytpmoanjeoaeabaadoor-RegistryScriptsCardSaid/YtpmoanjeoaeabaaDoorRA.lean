/- The document's Copy: a definition in memory of its own. -/
import Derived.Test.YtpmoanjeoaeabaaDoorA9
set_option linter.unusedVariables false
set_option linter.unusedSimpArgs false
set_option linter.unnecessarySimpa false
set_option maxRecDepth 100000
namespace Go.Proofs.YtpmoanjeoaeabaaDoor
open Go.RowKit Go.ChangeShapes Go.WideShapes Go.ChangeAt
set_option maxHeartbeats 6400000 in
theorem copy10_any {w : World} (d : Df) (hD : DefAt w d) (hz : Fits d) :
    Calls Tryd.prog 29 #[d.v] w fun e w' => ∃ D : Df, e = .returned D.v ∧ Like D d ∧ Sat w w' [OwnP D, Old w] := by
  have h1 := (Sat.start w).new #[.string d.name, .slice d.A d.steps.length d.c] 24
  have hs1 : (w.alloc (.cells #[.string d.name, .slice d.A d.steps.length d.c] 24)).heap.size = w.heap.size + 1 := by simp
  have h2 := h1.new #[.string ⟨#[]⟩, .slice none 0 0] 24
  rw [hs1] at h2
  have hs2 : ((w.alloc (.cells #[.string d.name, .slice d.A d.steps.length d.c] 24)).alloc (.cells #[.string ⟨#[]⟩, .slice none 0 0] 24)).heap.size = w.heap.size + 2 := by simp
  have h3 := h2.new #[.string d.name, .slice none 0 0] 24
  rw [hs2] at h3
  obtain ⟨b, hb⟩ : ∃ b, w.heap.size = b := ⟨_, rfl⟩
  rw [hb] at h1 h2 h3
  have a0 := h1.blk.cell 0
  have h4 : Sat w _ [Blk (b + 1 + 1) 24 [.string d.name, .slice none 0 0], Row 35 5 none 0 0 (stepsC []), sep ([].map stP), Blk (b + 1) 24 [.string ⟨#[]⟩, .slice none 0 0], Blk b 24 [.string d.name, .slice d.A d.steps.length d.c], Old w] :=
    ((Sat.close (M := []) h3).nilRow 35 5).r3
  have HD := Lib.hid hD
  have HZ := Lib.hid hz
  have H4 := Lib.hid h4
  obtain ⟨n, hN⟩ : ∃ n, d.steps.length = n := ⟨_, rfl⟩
  have HN := Lib.hid hN
  have hn : n * 80 ≤ 140737488351232 := by have := hz.steps; omega
  unfold Df.v
  rw [hN] at a0 H4 ⊢
  obtain ⟨AA, hAA⟩ : ∃ x, d.A = x := ⟨_, rfl⟩
  have HAA := Lib.hid hAA
  rw [hAA] at a0 H4 ⊢
  clear hAA
  obtain ⟨ob, hob⟩ : ∃ x, b + 1 + 1 = x := ⟨_, rfl⟩
  rw [hob] at H4
  clear h1 h2 h3 h4 hs1 hs2 hD hz hN
  go_enter Tryd.func29, Tryd.ntmps29
  go_wp2_with fail
  try simp only [hb]
  try simp only [hob]
  go_loopw [4] (CpRel w b (b + 1) ob [.string d.name, .slice AA n d.c] [.string ⟨#[]⟩, .slice none 0 0] d) (fun x _ => n - (intOf x).toNat)
  case atStart => exact ⟨0, none, 0, [], Nat.zero_le _, rfl, rfl, H4.out⟩
  case round =>
    obtain ⟨i, A, c, L, hi, rfl, hL, hS⟩ := hrel
    rw [HN.out] at hi
    clear H4 a0
    have h9 : Below w.heap.size w wr := hS.old (by simp)
    have b1 : wr.cell? ⟨b, 1, none⟩ = some (.slice AA n d.c) := hS.r5.blk.cell 1
    by_cases hlt : i < n
    · have hlt' : i < d.steps.length := by rw [HN.out]; exact hlt
      obtain ⟨g, o, hA, s0, s1, s2, s3, s4⟩ := step_at d (HD.out.keep h9) i hlt'
      have hst := (HD.out.each _ (List.getElem_mem hlt')).keep h9
      have HTK : Hid ((d.steps.take (i + 1)).map St.core = (d.steps.take i).map St.core ++ [d.steps[i].core]) := by show _ = _; rw [List.take_succ_eq_append_getElem hlt', List.map_append]; rfl
      have hfk := HZ.out.keyn _ (List.getElem_mem hlt')
      have hfn := HZ.out.needs _ (List.getElem_mem hlt')
      obtain rfl : AA = some ⟨g, o, none⟩ := HAA.out.symm.trans hA
      obtain ⟨s, hs⟩ : ∃ x, d.steps[i] = x := ⟨_, rfl⟩
      rw [hs] at s0 s1 s2 s3 s4 hst HTK hfk hfn
      obtain ⟨sb, hsb⟩ : ∃ x, wr.heap.size = x := ⟨_, rfl⟩
      have hsz : (wr.alloc (.cells #[.string s.name, .int .i64 s.kind, .int .i64 s.part, .slice s.kA s.keys.length s.kc, .slice s.nA s.needs.length s.nc] 35)).heap.size = wr.heap.size + 1 := by simp
      have h5 := (hS.new #[.string s.name, .int .i64 s.kind, .int .i64 s.part, .slice s.kA s.keys.length s.kc, .slice s.nA s.needs.length s.nc] 35).new #[.string s.name, .int .i64 s.kind, .int .i64 s.part, .slice none 0 0, .slice none 0 0] 35
      rw [hsz, hsb] at h5
      have hbe : Below wr.heap.size wr ((wr.alloc (.cells #[.string s.name, .int .i64 s.kind, .int .i64 s.part, .slice s.kA s.keys.length s.kc, .slice s.nA s.needs.length s.nc] 35)).alloc (.cells #[.string s.name, .int .i64 s.kind, .int .i64 s.part, .slice none 0 0, .slice none 0 0] 35)) :=
        ((Below.refl _ _).alloc (Nat.le_refl _) _).alloc (by simp) _
      have HRK : Hid (Rd _ s.kA s.keys.length 1 (strV s.keys)) := rd_of (f := fun b => .string b) (hst.keep hbe).keys
      have HST := Lib.hid hst
      obtain ⟨LL, hLL⟩ : ∃ LL, LL = [Blk ob 24 [.string d.name, .slice A i c], Row 35 5 A i c (stepsC L), sep (L.map stP), Blk (b + 1) 24 [.string ⟨#[]⟩, .slice none 0 0], Blk b 24 [.string d.name, .slice (some ⟨g, o, none⟩) n d.c], Old w] := ⟨_, rfl⟩
      rw [← hLL] at h5
      have HLL := Lib.hid hLL
      have H5 := Lib.hid h5
      have HL := Lib.hid hL
      have HBW : Hid (∀ W, Sat w W LL → Below w.heap.size w W) := fun W h => h.old (by rw [hLL]; simp)
      have HSC : Hid (∀ W, Below w.heap.size w W → StAt W s) := fun W hb => by rw [← hs]; exact (HD.out.each _ (List.getElem_mem hlt')).keep hb
      obtain ⟨i9, hi9, hz9, hs9, hb9⟩ := info_parts infoS
      obtain ⟨i3, hi3, hz3, hs3, hb3⟩ := info_parts infoI
      obtain ⟨i35, hi35, hz35, hs35, hb35⟩ := info_parts infoSt
      have hk63 : 0 + s.keys.length ≤ maxLen ∧ (0 + s.keys.length) * 16 ≤ 140737488355328 := by unfold maxLen; omega
      have hn63 : 0 + s.needs.length ≤ maxLen ∧ (0 + s.needs.length) * 8 ≤ 140737488355328 := by unfold maxLen; omega
      have hb63 : i + 1 ≤ maxLen ∧ (i + 1) * 80 ≤ 140737488355328 := by unfold maxLen; omega
      clear h5 hS hL hst hbe h9 hLL hs hlt' hA hsz hfk hfn
      go_upto_region 8 with (first
        | (at_builtin; refine wpList_appS rfl (.tmp 30) (.tmp 32) 32 rfl 9 i9 (.string ⟨#[]⟩) 1 16 Tryd.underlying32 hi9 hz9 hs9 hb9 rfl (by decide) rfl (H5.out.nilRow 9 1) rfl HRK.out (strV_one _) hk63.1 hk63.2 ?_; intro A1 c1 W3 hS2; have q3 : W3.cell? ⟨sb + 1, 3, none⟩ = some (.slice none 0 0) := hS2.r2.blk.cell 3; have qf := hS2.r2.blk.free 3))
      have hX := hS2.r2.set 3 (.slice A1 s.keys.length c1)
      rw [Nat.zero_add, List.nil_append] at hX
      clear hS2 q3 qf HRK H5 s0 s1 s2 s3 s4 b1
      have h6 : Sat w (W3.setCell ⟨sb + 1, 3, none⟩ (.slice A1 s.keys.length c1)) (Blk (sb + 1) 35 [.string s.name, .int .i64 s.kind, .int .i64 s.part, .slice A1 s.keys.length c1, .slice none 0 0] :: Row 9 1 A1 s.keys.length c1 (strV s.keys) :: Blk sb 35 [.string s.name, .int .i64 s.kind, .int .i64 s.part, .slice s.kA s.keys.length s.kc, .slice s.nA s.needs.length s.nc] :: LL) := hX
      clear hX
      obtain ⟨W4, hW4⟩ : ∃ x, x = W3.setCell ⟨sb + 1, 3, none⟩ (.slice A1 s.keys.length c1) := ⟨_, rfl⟩
      rw [← hW4] at h6 ⊢
      clear hW4
      have hst4 := HSC.out W4 (HBW.out W4 h6.tail.tail.tail)
      have k4 : W4.cell? ⟨sb + 1, 4, none⟩ = some (.slice none 0 0) := h6.blk.cell 4
      have u4 : W4.cell? ⟨sb, 4, none⟩ = some (.slice s.nA s.needs.length s.nc) := h6.r3.blk.cell 4
      have HRN : Hid (Rd W4 s.nA s.needs.length 1 (intV s.needs)) := rd_of (f := fun b => .int .i64 b) hst4.needs
      have HD6 := Lib.hid h6
      clear h6 hst4
      go_upto_region 9 with (first
        | (at_builtin; refine wpList_appS rfl (.tmp 36) (.tmp 38) 33 rfl 3 i3 (.int .i64 0) 1 8 Tryd.underlying33 hi3 hz3 hs3 hb3 rfl (by decide) rfl (HD6.out.nilRow 3 1) rfl HRN.out (intV_one _) hn63.1 hn63.2 ?_; intro A2 c2 W6 hS2; have q3 : W6.cell? ⟨sb + 1, 4, none⟩ = some (.slice none 0 0) := hS2.r2.blk.cell 4; have qf := hS2.r2.blk.free 4))
      have hX := hS2.r2.set 4 (.slice A2 s.needs.length c2)
      rw [Nat.zero_add, List.nil_append] at hX
      clear hS2 q3 qf HRN HD6 k4 u4
      have h7 : Sat w (W6.setCell ⟨sb + 1, 4, none⟩ (.slice A2 s.needs.length c2)) (Blk (sb + 1) 35 [.string s.name, .int .i64 s.kind, .int .i64 s.part, .slice A1 s.keys.length c1, .slice A2 s.needs.length c2] :: Row 3 1 A2 s.needs.length c2 (intV s.needs) :: Row 9 1 A1 s.keys.length c1 (strV s.keys) :: LL) := hX.r4.tail
      clear hX
      obtain ⟨W7, hW7⟩ : ∃ x, x = W6.setCell ⟨sb + 1, 4, none⟩ (.slice A2 s.needs.length c2) := ⟨_, rfl⟩
      rw [← hW7] at h7 ⊢
      clear hW7
      rw [HLL.out] at h7
      have o1 : W7.cell? ⟨ob, 1, none⟩ = some (.slice A i c) := h7.r4.blk.cell 1
      have n0 : W7.cell? ⟨sb + 1, 0, none⟩ = some (.string s.name) := h7.blk.cell 0
      have n1 : W7.cell? ⟨sb + 1, 1, none⟩ = some (.int .i64 s.kind) := h7.blk.cell 1
      have n2 : W7.cell? ⟨sb + 1, 2, none⟩ = some (.int .i64 s.part) := h7.blk.cell 2
      have n3 : W7.cell? ⟨sb + 1, 3, none⟩ = some (.slice A1 s.keys.length c1) := h7.blk.cell 3
      have n4 : W7.cell? ⟨sb + 1, 4, none⟩ = some (.slice A2 s.needs.length c2) := h7.blk.cell 4
      have HB8 := Lib.hid (h7.r5.new #[.string s.name, .int .i64 s.kind, .int .i64 s.part, .slice A1 s.keys.length c1, .slice A2 s.needs.length c2] 35)
      have HONE : Hid (∀ u ∈ (#[.string s.name, .int .i64 s.kind, .int .i64 s.part, .slice A1 s.keys.length c1, .slice A2 s.needs.length c2] : Array Value).toList, u.oneCell' = true) := vs_one ⟨s.name, s.kind, s.part, s.keys, s.needs, A1, c1, A2, c2⟩
      have HLEN : Hid ((#[.string s.name, .int .i64 s.kind, .int .i64 s.part, .slice A1 s.keys.length c1, .slice A2 s.needs.length c2] : Array Value).toList.length = 5) := rfl
      have HZC : Hid ((Value.agg #[.string ⟨#[]⟩, .int .i64 0, .int .i64 0, .slice none 0 0, .slice none 0 0]).cells.size = 5) := rfl
      have HSTP : Hid (List.map stP [⟨s.name, s.kind, s.part, s.keys, s.needs, A1, c1, A2, c2⟩] = [sep [Row 9 1 A1 s.keys.length c1 (strV s.keys), Row 3 1 A2 s.needs.length c2 (intV s.needs)]]) := rfl
      have HVS : Hid (St.vs ⟨s.name, s.kind, s.part, s.keys, s.needs, A1, c1, A2, c2⟩ = [.string s.name, .int .i64 s.kind, .int .i64 s.part, .slice A1 s.keys.length c1, .slice A2 s.needs.length c2]) := rfl
      have HC : Hid ((⟨s.name, s.kind, s.part, s.keys, s.needs, A1, c1, A2, c2⟩ : St).core = s.core) := rfl
      clear h7
      go_wp2_with (first
        | (refine wpList_bs35 rfl 43 rfl (.string s.name) (.int .i64 s.kind) (.int .i64 s.part) (.slice A1 s.keys.length c1) (.slice A2 s.needs.length c2) rfl ?_)
        | (at_builtin; refine wpList_app1 rfl (.tmp 42) (.tmp 44) 22 rfl 35 i35 _ 5 80 Tryd.underlying22 hi35 hz35 hs35 hb35 HZC.out (by decide) rfl HB8.out rfl HLEN.out HONE.out hb63.1 hb63.2 ?_; intro A3 c3 W8 hS8; have q1 : W8.cell? ⟨ob, 1, none⟩ = some (.slice A i c) := hS8.r5.blk.cell 1; have qf := hS8.r5.blk.free 1))
      have HX := Lib.hid (hS8.r5.set 1 (.slice A3 (i + 1) c3))
      clear hS8 q1 qf
      have HFIN : Hid (Sat w (W8.setCell ⟨ob, 1, none⟩ (.slice A3 (i + 1) c3)) [Blk ob 24 [.string d.name, .slice A3 (i + 1) c3], Row 35 5 A3 (i + 1) c3 (stepsC L ++ [.string s.name, .int .i64 s.kind, .int .i64 s.part, .slice A1 s.keys.length c1, .slice A2 s.needs.length c2]),
          sep (L.map stP ++ [sep [Row 9 1 A1 s.keys.length c1 (strV s.keys), Row 3 1 A2 s.needs.length c2 (intV s.needs)]]), Blk (b + 1) 24 [.string ⟨#[]⟩, .slice none 0 0], Blk b 24 [.string d.name, .slice (some ⟨g, o, none⟩) n d.c], Old w]) := by
        have h1 := HX.out
        exact h1.b5.b5.tail.r2.close2.r4.snocP.b3
      clear HX
      go_roundw
      case rel =>
        refine ⟨i + 1, A3, c3, L ++ [⟨s.name, s.kind, s.part, s.keys, s.needs, A1, c1, A2, c2⟩], by rw [HN.out]; omega, by go_num, ?_, ?_⟩
        · rw [List.map_append, HL.out, HTK.out, List.map_cons, List.map_nil, HC.out]
        · rw [stepsC_snoc, List.map_append, HSTP.out, HVS.out]
          exact HFIN.out
      case measure =>
        simp [intOf]
        omega
    · obtain rfl : i = n := by omega
      have o0 : wr.cell? ⟨ob, 0, none⟩ = some (.string d.name) := hS.blk.cell 0
      have o1 : wr.cell? ⟨ob, 1, none⟩ = some (.slice A i c) := hS.blk.cell 1
      have z0 : wr.cell? ⟨b + 1, 0, none⟩ = some (.string ⟨#[]⟩) := hS.r4.blk.cell 0
      have z1 : wr.cell? ⟨b + 1, 1, none⟩ = some (.slice none 0 0) := hS.r4.blk.cell 1
      have f0 := hS.r4.blk.free 0
      have f1 := hS.r4.blk.free 1
      have hx := (hS.r4.set 0 (.string d.name)).set 1 (.slice A i c)
      have HX : Hid (Sat w _ [Blk (b + 1) 24 [.string d.name, .slice A i c], Row 35 5 A i c (stepsC L), sep (L.map stP), Old w]) := hx.r2.tail.r4.tail
      have HL := Lib.hid hL
      clear hS hL h9
      go_wp2_with fail
      refine bodyPost_ret (res24 (by rfl) HX.out (by rfl)) rfl ?_
      have hlen : L.length = i := by
        have h1 := congrArg List.length HL.out
        have h2 := HN.out
        simp at h1
        omega
      refine ⟨⟨d.name, L, A, c⟩, by rw [← hlen], ⟨rfl, ?_⟩, ?_⟩
      · show L.map St.core = _
        have h2 := HN.out
        rw [HL.out, List.take_of_length_le (by omega)]
      · have h3 := HX.out.tail
        show Sat w _ (OwnP ⟨d.name, L, A, c⟩ :: [Old w])
        refine Sat.close2 ?_
        rw [hlen]
        exact h3
theorem copy10_own {w0 w : World} {d : Df} {F : List HP} (hD : DefAt w d) (hz : Fits d) (hS : Sat w0 w F) : Calls Tryd.prog 29 #[d.v] w fun e w' => ∃ D : Df, e = .returned (likeV d D) ∧ Like D d ∧ Sat w0 w' (OwnP D :: F) :=
  (copy10_any d hD hz).mono fun e w' ⟨D, he, hl, h⟩ => ⟨D, by rw [he, like_v hl], hl, hS.frame (X := [OwnP D]) h⟩
end Go.Proofs.YtpmoanjeoaeabaaDoor
