/- The walk of RegistryScripts. -/
import Derived.Test.YtpmoanjeoaeabaaDoorTB
set_option linter.unusedVariables false
set_option linter.unusedSimpArgs false
set_option linter.unnecessarySimpa false
set_option maxRecDepth 100000
namespace Go.Proofs.YtpmoanjeoaeabaaDoor
open Go.RowKit Go.ChangeShapes Go.WideShapes Go.ChangeAt
theorem next_one_ver (a : Nat) {D : Df} (h : Like D (oneD 0)) : Next [] (oneD a) [⟨D, 1⟩] := by
  have e : addV [] (oneD a) = (1, 0, true) := by
    unfold addV
    rw [if_neg (by rw [one_good]; decide), if_neg (by rintro ⟨r, hr, _⟩; cases hr), if_neg (by decide)]
    rfl
  unfold Next
  rw [e, if_pos rfl]
  exact ⟨D, h.trans (one_like 0 a), rfl⟩
def ScrRel (w : World) (rb xb n : Nat) (i : Value) (wr : World) : Prop :=
  ∃ (j : Nat) (R : List Ver), j ≤ n ∧ i = .int .i64 j ∧ RegGood R ∧ Sat w wr (RegP rb R :: DocP xb R :: [Old w])
set_option maxHeartbeats 6400000 in
theorem scripts_any {w : World} {A : Option Addr} {c : Nat} {L : List ROp} (n : Nat) (hn : n = L.length) (hL : ROpsAt w A c L) (hT : Lib.Utf8Tabs 0 1 w) :
    Calls Tryd.prog 10 #[.slice A n c] w fun e w' => e = .returned (.bool true) ∧ Below w.heap.size w w' := by
  have HL := Lib.hid hL
  have HN := Lib.hid hn
  have HT := Lib.hid hT
  have HB := Lib.hid (begun_any (w := w) hT (by simp) (Sat.start w))
  have hb := hL.bytes
  rw [← hn] at hb
  clear hL hT hn
  go_enter Tryd.func10, Tryd.ntmps10
  go_wp2_with fail
  refine HB.out.mono ?_
  rintro e w1 ⟨rb, D0, rfl, hD0, h1⟩
  have H1 := Lib.hid h1
  have HD0 := Lib.hid hD0
  clear h1 hD0 HB
  go_wp2_with fail
  refine (docNew_any H1.out).mono ?_
  rintro e w2 ⟨xb, rfl, h2⟩
  have H2 := Lib.hid h2
  clear h2 H1
  go_wp2_with fail
  refine (one_any H2.out).mono ?_
  rintro e w3 ⟨a, rfl, h3⟩
  have CD : Hid (Calls Tryd.prog 31 #[.pointer (some ⟨xb, 0, none⟩), (oneD a).v] w3 fun e w' => ∃ v : Value, e = .returned v ∧ Sat w w' (RegP rb [⟨D0, 1⟩] :: DocP xb [⟨D0, 1⟩] :: [Old w])) := by
    refine (docAdd_v (R := []) (oneD a) (one_wf a) ⟨(fun r hr => by cases hr), .nil, Nat.zero_le _⟩ (fun W L' h => one_at h.swapA.r3.blk h.swapA.r2.blk h.swapA.blk) h3.r4).mono ?_
    rintro e w' ⟨rfl, hs⟩
    exact ⟨_, rfl, (hs _ (next_one_ver a HD0.out)).r4.tail.r3.tail.r2.tail.r2⟩
  clear h3 H2
  go_wp2_with fail
  refine CD.out.mono ?_
  rintro e w4 ⟨v4, rfl, h4⟩
  have H4 := Lib.hid h4
  have HR0 : Hid (RegGood [⟨D0, 1⟩]) := by
    show RegGood _
    have h := RegOk.snoc (R := []) (D := D0) ⟨(fun r hr => by cases hr), .nil, Nat.zero_le _⟩ (HD0.out.wf (one_wf 0)) (by decide)
    refine ⟨h, fun r hr => ?_, Nat.lt_succ_self 0⟩
    obtain rfl : r = ⟨D0, 1⟩ := by simpa using hr
    show isN D0.name = true
    rw [HD0.out.name]
    exact isN_zz
  clear h4 CD
  go_wp2_with fail
  go_loopw [5] (ScrRel w rb xb n) (fun i _ => n - (intOf i).toNat)
  case atStart => exact ⟨0, _, Nat.zero_le _, rfl, HR0.out, H4.out⟩
  case round =>
    obtain ⟨j, R, hj, rfl, hR, hS⟩ := hrel
    clear H4 HR0
    have HR := Lib.hid hR
    clear hR
    by_cases hlt : j < n
    · have hjL : j < L.length := by rw [← HN.out]; exact hlt
      obtain ⟨_, _, hat⟩ := HL.out.elems.at_
      obtain ⟨b, o, rfl, hcell⟩ := hat (by rw [List.length_map]; omega)
      obtain ⟨O, hO⟩ : ∃ d, L[j] = d := ⟨_, rfl⟩
      have hmem : O ∈ L := by rw [← hO]; exact List.getElem_mem hjL
      have hg : (L.map ROp.vs).getD j [] = O.vs := by
        rw [← List.getElem_eq_getD (h := by rw [List.length_map]; exact hjL), List.getElem_map, hO]
      have hB := hS.old (by simp)
      have x0 := old_cell hB (show w.cell? ⟨b, o + j * 5, none⟩ = some (.int .i64 O.act) by have h := hcell j (by rw [List.length_map]; exact hjL) 0 (by decide); rw [hg] at h; exact h)
      have x1 := old_cell hB (show w.cell? ⟨b, o + j * 5 + 1, none⟩ = some (.string O.d.name) by have h := hcell j (by rw [List.length_map]; exact hjL) 1 (by decide); rw [hg] at h; exact h)
      have x2 := old_cell hB (show w.cell? ⟨b, o + j * 5 + 2, none⟩ = some (.slice O.d.A O.d.steps.length O.d.c) by have h := hcell j (by rw [List.length_map]; exact hjL) 2 (by decide); rw [hg] at h; exact h)
      have x3 := old_cell hB (show w.cell? ⟨b, o + j * 5 + 3, none⟩ = some (.string O.nm) by have h := hcell j (by rw [List.length_map]; exact hjL) 3 (by decide); rw [hg] at h; exact h)
      have x4 := old_cell hB (show w.cell? ⟨b, o + j * 5 + 4, none⟩ = some (.int .i64 O.ver) by have h := hcell j (by rw [List.length_map]; exact hjL) 4 (by decide); rw [hg] at h; exact h)
      have HOK := Lib.hid (HL.out.each O hmem)
      have HDF : Hid (∀ W L', Sat w W (L' ++ [Old w]) → DefAt W O.d) := fun W L' h => HOK.out.at_.keep (h.old (List.mem_append_right _ List.mem_cons_self))
      obtain ⟨act, d, nm, ver⟩ := O
      have h5 := hS.new #[.int .i64 act, .string d.name, .slice d.A d.steps.length d.c, .string nm, .int .i64 ver] 59
      obtain ⟨bo, hbo⟩ : ∃ q, wr.heap.size = q := ⟨_, rfl⟩
      rw [hbo] at h5
      have H5 := Lib.hid h5
      have k0 : (wr.alloc (.cells #[.int .i64 act, .string d.name, .slice d.A d.steps.length d.c, .string nm, .int .i64 ver] 59)).cell? ⟨bo, 0, none⟩ = some (.int .i64 act) := h5.blk.cell 0
      have k1 : (wr.alloc (.cells #[.int .i64 act, .string d.name, .slice d.A d.steps.length d.c, .string nm, .int .i64 ver] 59)).cell? ⟨bo, 1, none⟩ = some (.string d.name) := h5.blk.cell 1
      have k2 : (wr.alloc (.cells #[.int .i64 act, .string d.name, .slice d.A d.steps.length d.c, .string nm, .int .i64 ver] 59)).cell? ⟨bo, 2, none⟩ = some (.slice d.A d.steps.length d.c) := h5.blk.cell 2
      have k3 : (wr.alloc (.cells #[.int .i64 act, .string d.name, .slice d.A d.steps.length d.c, .string nm, .int .i64 ver] 59)).cell? ⟨bo, 3, none⟩ = some (.string nm) := h5.blk.cell 3
      have k4 : (wr.alloc (.cells #[.int .i64 act, .string d.name, .slice d.A d.steps.length d.c, .string nm, .int .i64 ver] 59)).cell? ⟨bo, 4, none⟩ = some (.int .i64 ver) := h5.blk.cell 4
      clear hcell hg hmem hO hjL hS hB h5
      have CALL : Hid (∀ W R', RegGood R' → Sat w W (RegP rb R' :: DocP xb R' :: [Old w]) → Calls Tryd.prog 35 #[.pointer (some ⟨rb, 0, none⟩), .pointer (some ⟨xb, 0, none⟩)] W fun e w' => e = .returned (.bool true) ∧ Sat w w' (RegP rb R' :: DocP xb R' :: [Old w])) := fun W R' hR' h => all35_any hR'.ok hR'.names hR'.some (by simp) HT.out h
      by_cases hact0 : act = 0
      · subst hact0
        have CCPY : Hid (Calls Tryd.prog 29 #[.agg #[.string d.name, .slice d.A d.steps.length d.c]] (wr.alloc (.cells #[.int .i64 0, .string d.name, .slice d.A d.steps.length d.c, .string nm, .int .i64 ver] 59)) fun e w' => ∃ C : Df, e = .returned (.agg #[.string C.name, .slice C.A C.steps.length C.c]) ∧ Like C d ∧ Sat w w' (OwnP C :: Blk bo 59 [.int .i64 0, .string d.name, .slice d.A d.steps.length d.c, .string nm, .int .i64 ver] :: RegP rb R :: DocP xb R :: [Old w])) := by
          refine (copy10_own (HDF.out _ [_, _, _] H5.out) HOK.out.wf.fits H5.out).mono ?_
          rintro e w' ⟨C, rfl, hl, hs⟩
          exact ⟨C, by rw [← like_v hl]; rfl, hl, hs⟩
        clear H5 k3 k4
        go_wp2_with fail
        refine CCPY.out.mono ?_
        rintro e w5 ⟨C, rfl, hC, h6⟩
        have h7 := h6.new #[.string C.name, .slice C.A C.steps.length C.c] 24
        obtain ⟨b7, hb7⟩ : ∃ q, w5.heap.size = q := ⟨_, rfl⟩
        rw [hb7] at h7
        have hCw : Wf C := hC.wf HOK.out.wf
        have HCw := Lib.hid hCw
        have HCL := Lib.hid hC
        have CADD : Hid (Calls Tryd.prog 25 #[.pointer (some ⟨rb, 0, none⟩), .agg #[.string C.name, .slice C.A C.steps.length C.c]] (w5.alloc (.cells #[.string C.name, .slice C.A C.steps.length C.c] 24)) fun e w' => e = .returned (.tuple #[.int .i64 (addV R d).1, .int .i64 (addV R d).2.1]) ∧
            ∃ R', Next R d R' ∧ Sat w w' (RegP rb R' :: Blk b7 24 [.string C.name, .slice C.A C.steps.length C.c] :: OwnP C :: Blk bo 59 [.int .i64 0, .string d.name, .slice d.A d.steps.length d.c, .string nm, .int .i64 ver] :: DocP xb R :: [Old w])) := by
          refine Calls.mono (add_v C hCw HR.out.ok (fun W L' h => h.swapA.r2.wfDef hCw) HT.out (by simp) h7.r4) ?_
          rintro e w' ⟨rfl, R', hnx, hs⟩
          exact ⟨by rw [addV_like hC], R', hnx.like hC, hs⟩
        have y0 : (w5.alloc (.cells #[.string C.name, .slice C.A C.steps.length C.c] 24)).cell? ⟨b7, 0, none⟩ = some (.string C.name) := h7.blk.cell 0
        have y1 : (w5.alloc (.cells #[.string C.name, .slice C.A C.steps.length C.c] 24)).cell? ⟨b7, 1, none⟩ = some (.slice C.A C.steps.length C.c) := h7.blk.cell 1
        clear h6 h7 CCPY k0 k1 k2 x0 x1 x2 x3 x4 hC hCw
        go_wp2_with fail
        try simp only [hb7]
        refine CADD.out.mono ?_
        rintro e w6 ⟨rfl, R', hnx, h8⟩
        have HNX := Lib.hid hnx
        have HAR := Lib.hid (addV_range R d HR.out.ok.len)
        have CDOC : Hid (Calls Tryd.prog 31 #[.pointer (some ⟨xb, 0, none⟩), .agg #[.string d.name, .slice d.A d.steps.length d.c]] w6 fun e w' => e = .returned (.tuple #[.int .i64 (addV R d).1, .int .i64 (addV R d).2.1]) ∧
            Sat w w' (DocP xb R' :: RegP rb R' :: Blk b7 24 [.string C.name, .slice C.A C.steps.length C.c] :: OwnP C :: Blk bo 59 [.int .i64 0, .string d.name, .slice d.A d.steps.length d.c, .string nm, .int .i64 ver] :: [Old w])) := by
          refine Calls.mono (docAdd_v d HOK.out.wf HR.out.ok (fun W L' h => HDF.out W (L' ++ [_, _, _, _]) (by simpa using h)) h8.r5) ?_
          rintro e w' ⟨rfl, hs⟩
          exact ⟨rfl, hs R' HNX.out⟩
        have HG : Hid (RegGood R') := HR.out.next HOK.out.wf hnx
        obtain ⟨av, hav⟩ : ∃ x, (addV R d).1 = x := ⟨_, rfl⟩
        obtain ⟨ae, hae⟩ : ∃ x, (addV R d).2.1 = x := ⟨_, rfl⟩
        rw [hav, hae] at CDOC
        rw [hav] at HAR
        rw [hav, hae]
        have k1 := h8.r4.blk.cell 1
        have k2 := h8.r4.blk.cell 2
        clear CADD hnx h8 y0 y1 hav hae
        go_wp2_with fail
        refine CDOC.out.mono ?_
        rintro e w7 ⟨rfl, h9⟩
        have y0 := h9.r3.blk.cell 0
        have y1 := h9.r3.blk.cell 1
        have k1 := h9.r5.blk.cell 1
        have k2 := h9.r5.blk.cell 2
        have C28 : Hid (Calls Tryd.prog 28 #[.agg #[.string C.name, .slice C.A C.steps.length C.c], .agg #[.string d.name, .slice d.A d.steps.length d.c]] w7 fun e w' => e = .returned (.bool true) ∧ Below w7.heap.size w7 w') := by
          have h := same10_any (h9.r4.wfDef HCw.out) (HDF.out _ [_, _, _, _, _] h9) HCw.out.fits HOK.out.wf.fits
          rw [like_yes HCL.out] at h
          exact h
        have H9 := Lib.hid h9
        clear h9 CDOC
        go_wp2_with fail
        refine C28.out.mono ?_
        rintro e w8 ⟨rfl, hb8⟩
        have h10 := H9.out.below hb8
        have y0 := h10.r3.blk.cell 0
        have y1 := h10.r3.blk.cell 1
        have HWR := Lib.hid (written_any HCw.out h10.r4)
        clear h10 hb8 H9 C28
        go_wp2_with fail
        refine HWR.out.mono ?_
        rintro e w9 ⟨rfl, h11⟩
        have k1 := h11.r4.blk.cell 1
        have HF1 := Lib.hid (found_any d.name 0 (by have h : d.name.size ≤ _ := HOK.out.wf.fits.name; unfold maxLen; omega) (by unfold wf64; decide) HG.out.ok h11.r2)
        clear h11 HWR y0 y1
        go_wp2_with fail
        refine HF1.out.mono ?_
        rintro e w10 ⟨rfl, h12⟩
        have k1 := h12.r4.blk.cell 1
        have HF2 := Lib.hid (found_any d.name av (by have h : d.name.size ≤ _ := HOK.out.wf.fits.name; unfold maxLen; omega) (by have := HAR.out; unfold wf64; omega) HG.out.ok h12)
        clear h12 HF1
        go_wp2_with fail
        refine HF2.out.mono ?_
        rintro e w11 ⟨rfl, h13⟩
        have H20 := Lib.hid h13.r4.tail.r3.tail
        clear h13 HF2 k1
        go_wp2_with fail
        refine (CALL.out _ _ HG.out H20.out).mono ?_
        rintro e w20 ⟨rfl, h21⟩
        have H21 := Lib.hid h21
        clear h21 H20 CALL
        go_wp2_with fail
        go_roundw
        case rel => exact ⟨j + 1, _, by omega, by go_num, HG.out, H21.out⟩
        case measure => simp [intOf]; omega
      · by_cases hact1 : act = 1
        · subst hact1
          have HG := HR
          have HF1 := Lib.hid (found_any nm ver HOK.out.nm HOK.out.ver HR.out.ok H5.out.tail)
          clear H5
          go_wp2_with fail
          try simp only [hbo]
          refine HF1.out.mono ?_
          rintro e w10 ⟨rfl, h12⟩
          have H20 := Lib.hid h12
          clear h12 HF1 k0 k1 k2 k3 k4 hbo x0 x1 x2 x3 x4
          go_wp2_with fail
          refine (CALL.out _ _ HG.out H20.out).mono ?_
          rintro e w20 ⟨rfl, h21⟩
          have H21 := Lib.hid h21
          clear h21 H20 CALL
          go_wp2_with fail
          go_roundw
          case rel => exact ⟨j + 1, _, by omega, by go_num, HG.out, H21.out⟩
          case measure => simp [intOf]; omega
        · have t0 : (act == 0) = false := by simpa using hact0
          have t1 : (act == 1) = false := by simpa using hact1
          have HG := HR
          have H20 := Lib.hid H5.out.tail
          clear H5
          go_wp2_with fail
          try simp only [hbo]
          refine (CALL.out _ _ HG.out H20.out).mono ?_
          rintro e w20 ⟨rfl, h21⟩
          have H21 := Lib.hid h21
          clear h21 H20 CALL
          go_wp2_with fail
          go_roundw
          case rel => exact ⟨j + 1, _, by omega, by go_num, HG.out, H21.out⟩
          case measure => simp [intOf]; omega
    · obtain rfl : j = n := by omega
      have HF1 := Lib.hid (found_any (rb := rb) (xb := xb) ⟨#[122, 122]⟩ 1 (by decide) (by unfold wf64; decide) HR.out.ok hS)
      clear hS
      go_wp2_with fail
      refine HF1.out.mono ?_
      rintro e w5 ⟨rfl, h5⟩
      have H5 := Lib.hid h5
      clear h5 HF1
      go_wp2_with fail
      go_ret
      exact ⟨rfl, H5.out.old (by simp)⟩
end Go.Proofs.YtpmoanjeoaeabaaDoor
