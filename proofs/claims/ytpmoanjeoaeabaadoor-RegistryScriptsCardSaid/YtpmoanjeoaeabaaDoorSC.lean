/- The document's registry: Find. -/
import Derived.Test.YtpmoanjeoaeabaaDoorSB
set_option linter.unusedVariables false
set_option linter.unusedSimpArgs false
set_option linter.unnecessarySimpa false
set_option maxRecDepth 100000
namespace Go.Proofs.YtpmoanjeoaeabaaDoor
open Go.RowKit Go.ChangeShapes Go.WideShapes Go.ChangeAt
/-- what the document's Find answers and leaves -/
def DocFound (w0 : World) (F : List HP) (xb : Nat) (R : List Ver) (nm : ByteArray) (ver : Int) (e : Ending) (w' : World) : Prop :=
  (findV R (nm, verOf R nm ver) = none ∧ e = .returned (.tuple #[.agg #[.string ⟨#[]⟩, .slice none 0 0], .int .i64 0, .int .i64 140]) ∧ Sat w0 w' (DocP xb R :: F)) ∨
  (∃ (r : Ver) (D : Df), findV R (nm, verOf R nm ver) = some r ∧ e = .returned (.tuple #[.agg #[.string D.name, .slice D.A D.steps.length D.c], .int .i64 (verOf R nm ver), .int .i64 0]) ∧ Like D r.d ∧ Sat w0 w' (OwnP D :: DocP xb R :: F))
def DFindRel (w0 : World) (L : List HP) (R : List Ver) (nm : ByteArray) (ver : Int) (kv i : Value) (wr : World) : Prop :=
  ∃ k : Nat, k ≤ R.length ∧ i = .int .i64 k ∧ kv = .int .i64 (verN (R.take k) nm : Int) ∧ (∀ (j : Nat) (r : Ver), j < k → R[j]? = some r → r.d.name = nm → r.v ≠ ver) ∧ Sat w0 wr L
set_option maxHeartbeats 6400000 in
theorem docFind_any {w w0 : World} {F : List HP} {xb : Nat} {R : List Ver} (nm : ByteArray) (ver : Int) (hR : ∀ r ∈ R, Wf r.d) (hg : Grown R) (hlen : R.length ≤ 16) (hS : Sat w0 w (DocP xb R :: F)) :
    Calls Tryd.prog 60 #[.pointer (some ⟨xb, 0, none⟩), .string nm, .int .i64 ver] w (DocFound w0 F xb R nm ver) := by
  obtain ⟨A, c, Ds, hl, hk, h0⟩ := hS.docOpen
  have h1 := h0.new #[.string ⟨#[]⟩, .slice none 0 0] 24
  obtain ⟨b, hb⟩ : ∃ b, w.heap.size = b := ⟨_, rfl⟩
  rw [hb] at h1
  have C59 : Hid (∀ W L', Sat w0 W (Blk xb 85 [.slice A R.length c] :: Row 24 2 A R.length c (defsC Ds) :: L') → Calls Tryd.prog 59 #[.pointer (some ⟨xb, 0, none⟩), .string nm] W fun e w' => ∃ a b : Value, e = .returned (.tuple #[.int .i64 (verN R nm : Int), .agg #[a, b]]) ∧ NewAt Ds R nm R.length a b ∧ Sat w0 w' (Blk xb 85 [.slice A R.length c] :: Row 24 2 A R.length c (defsC Ds) :: L')) := fun W L' h => newest_any nm hg hlen hl hk h
  have C29 : Hid (∀ (D : Df) (r : Ver) (j : Nat) W L', Ds[j]? = some D → R[j]? = some r → Sat w0 W (sep (Ds.map OwnP) :: L') → Calls Tryd.prog 29 #[.agg #[.string D.name, .slice D.A D.steps.length D.c]] W fun e w' => ∃ C : Df, e = .returned (.agg #[.string C.name, .slice C.A C.steps.length C.c]) ∧ Like C r.d ∧ Sat w0 w' (OwnP C :: sep (Ds.map OwnP) :: L')) := fun D r j W L' hD hr h => by
    have hkD := hk j D r hD hr
    have hDw : Wf D := hkD.wf (hR r (List.mem_of_getElem? hr))
    have hDA : DefAt W D := by
      obtain ⟨F', hF⟩ := h.pickP (List.mem_map.2 ⟨D, List.mem_of_getElem? hD, rfl⟩)
      exact hF.wfDef hDw
    refine (copy10_own hDA hDw.fits h).mono ?_
    rintro e w' ⟨C, rfl, hl, hs⟩
    exact ⟨C, by rw [← like_v hl]; rfl, hl.trans hkD, hs⟩
  have HYES : Hid (∀ (r : Ver) (D : Df) e w', r ∈ R → r.p = (nm, verOf R nm ver) → e = Ending.returned (.tuple #[.agg #[.string D.name, .slice D.A D.steps.length D.c], .int .i64 (verOf R nm ver), .int .i64 0]) → Like D r.d → Sat w0 w' (OwnP D :: Blk xb 85 [.slice A R.length c] :: Row 24 2 A R.length c (defsC Ds) :: sep (Ds.map OwnP) :: F) → DocFound w0 F xb R nm ver e w') := fun r D e w' hm hp he hd h => by
    refine .inr ⟨r, D, ?_, he, hd, (Sat.docClose hl hk h.b4).r2⟩
    rw [← hp]
    exact grown_find hg r hm
  have HNO : Hid ((∀ r ∈ R, r.p ≠ (nm, verOf R nm ver)) → ∀ e w', e = Ending.returned (.tuple #[.agg #[.string ⟨#[]⟩, .slice none 0 0], .int .i64 0, .int .i64 140]) → Sat w0 w' (Blk xb 85 [.slice A R.length c] :: Row 24 2 A R.length c (defsC Ds) :: sep (Ds.map OwnP) :: F) → DocFound w0 F xb R nm ver e w') := fun hno e w' he h => .inl ⟨findV_none hno, he, Sat.docClose hl hk h⟩
  have HPOS := Lib.hid (fun r hr => grown_range hg r hr)
  have HV0 : Hid (ver = 0 → verOf R nm ver = (verN R nm : Int)) := fun e => by unfold verOf; rw [if_pos e]
  have HV1 : Hid (¬ ver = 0 → verOf R nm ver = ver) := fun e => by unfold verOf; rw [if_neg e]
  obtain ⟨FO, hFO⟩ : ∃ X, DocFound w0 F xb R nm ver = X := ⟨_, rfl⟩
  rw [hFO] at HYES HNO ⊢
  obtain ⟨pv, hpv⟩ : ∃ x, verOf R nm ver = x := ⟨_, rfl⟩
  rw [hpv] at HYES HNO HV0 HV1
  obtain ⟨nv, hnv⟩ : ∃ v, verN R nm = v := ⟨_, rfl⟩
  have HNV := Lib.hid hnv
  rw [hnv] at C59 HV0
  obtain ⟨n, hn⟩ : ∃ n, R.length = n := ⟨_, rfl⟩
  have HN := Lib.hid hn
  have hnv16 : nv ≤ 16 := by rw [← hnv]; exact Nat.le_trans (verN_le R nm) hlen
  rw [hn] at C59 HYES HNO h1 hl hlen
  have H1 := Lib.hid h1
  have HG := Lib.hid hg
  have HK := Lib.hid hk
  clear hS h0 h1 hFO hpv hnv hn hR hg hk
  go_enter Tryd.func60, Tryd.ntmps60
  go_wp2_with fail
  try simp only [hb]
  refine (C59.out _ _ H1.out.b4).mono ?_
  rintro e w2 ⟨va, vb, rfl, hat, h2⟩
  have HSZ : Hid (∃ s, va = .string s) := by
    rcases hat with ⟨_, h, _⟩ | ⟨_, _, _, _, _, _, _, h, _⟩ <;> exact ⟨_, h⟩
  have HSB : Hid (∃ A n c, vb = .slice A n c) := by
    rcases hat with ⟨_, _, h⟩ | ⟨_, _, _, _, _, _, _, _, h⟩ <;> exact ⟨_, _, _, h⟩
  obtain ⟨s, rfl⟩ := HSZ.out
  obtain ⟨A2, n2, c2, rfl⟩ := HSB.out
  have h3 := h2.new #[.string s, .slice A2 n2 c2] 24
  obtain ⟨bx, hbx⟩ : ∃ q, w2.heap.size = q := ⟨_, rfl⟩
  rw [hbx] at h3
  have H3 := Lib.hid h3
  have HAT := Lib.hid hat
  clear h2 h3 hat H1 C59 HSZ HSB
  by_cases hfast : 0 < nv ∧ ver = 0
  · obtain ⟨hp, rfl⟩ := hfast
    have t1 : decide ((0 : Int) < (nv : Int)) = true := decide_eq_true (by omega)
    have HF : Hid (∃ (j : Nat) (D : Df) (r : Ver), Ds[j]? = some D ∧ R[j]? = some r ∧ r.p = (nm, pv) ∧ s = D.name ∧ A2 = D.A ∧ n2 = D.steps.length ∧ c2 = D.c) := by
      rcases HAT.out with ⟨h, _⟩ | ⟨j, D, r, h1, h2, h3, h4, h5, h6⟩
      · rw [← HN.out, List.take_length, HNV.out] at h
        omega
      · rw [← HN.out, List.take_length, HNV.out] at h4
        injection h5 with h5
        injection h6 with h6 h7 h8
        exact ⟨j, D, r, h1, h2, by show (r.d.name, r.v) = _; rw [h3, h4, HV0.out rfl], h5, h6, h7, h8⟩
    obtain ⟨j, D, r, hD, hr, hrp, rfl, rfl, rfl, rfl⟩ := HF.out
    have HCC := Lib.hid (C29.out D r j _ _ hD hr H3.out.r4)
    have HM : Hid (r ∈ R) := List.mem_of_getElem? hr
    have HRP := Lib.hid hrp
    have HV00 := Lib.hid (HV0.out rfl)
    clear HF HAT hD hr hrp HNO HPOS HV0 HV1 C29
    go_wp2_with fail
    refine HCC.out.mono ?_
    rintro e w5 ⟨C, rfl, hC, h5⟩
    have z0 := h5.r6.blk.cell 0
    have z1 := h5.r6.blk.cell 1
    have zf0 := h5.r6.blk.free 0
    have zf1 := h5.r6.blk.free 1
    have HX := Lib.hid ((h5.r6.set 0 (.string C.name)).set 1 (.slice C.A C.steps.length C.c))
    have HCL := Lib.hid hC
    clear h5 hC HCC H3
    go_wp2_with fail
    refine bodyPost_ret (res27 (by rfl) HX.out (by rfl)) rfl ?_
    exact HYES.out r C _ _ HM.out HRP.out (by rw [HV00.out]; rfl) HCL.out HX.out.tail.r3.tail.r2.b4
  · have hslow : nv = 0 ∨ (0 < nv ∧ ¬ ver = 0) := by omega
    have HPV : Hid (∀ r ∈ R, r.d.name = nm → r.v = pv → r.v = ver) := fun r hr h1 h2 => by
      by_cases h0 : ver = 0
      · have h3 := HV0.out h0
        have h4 := HPOS.out r hr
        rw [h1, HNV.out] at h4
        omega
      · rw [h2, HV1.out h0]
    have HSL := Lib.hid hslow
    clear hfast HV0 HAT
    have t1 : decide ((0 : Int) < (nv : Int)) = (if nv = 0 then false else true) := by
      split
      · exact decide_eq_false (by omega)
      · exact decide_eq_true (by omega)
    obtain ⟨LL, hLL⟩ : ∃ x, x = Blk bx 24 [.string s, .slice A2 n2 c2] :: Blk xb 85 [.slice A n c] :: Row 24 2 A n c (defsC Ds) :: sep (Ds.map OwnP) :: Blk b 24 [.string ⟨#[]⟩, .slice none 0 0] :: F := ⟨_, rfl⟩
    have HLL := Lib.hid hLL
    have H4 : Hid (Sat w0 (w2.alloc (.cells #[.string s, .slice A2 n2 c2] 24)) LL) := by
      rw [hLL]; exact H3.out
    obtain ⟨W3, hW3⟩ : ∃ x, x = w2.alloc (.cells #[.string s, .slice A2 n2 c2] 24) := ⟨_, rfl⟩
    rw [← hW3] at H4
    have HW3 := Lib.hid hW3
    clear hLL H3 hW3
    rcases hslow with h0 | ⟨h0, h1⟩
    · rw [if_pos h0] at t1
      go_wp2_with fail
      rw [← HW3.out]
      clear HW3 hbx h0 t1
      go_loopw [11, 12] (DFindRel w0 LL R nm ver) (fun _ i _ => n - (intOf i).toNat)
      case atStart => exact ⟨0, Nat.zero_le _, rfl, rfl, fun j r hj => absurd hj (Nat.not_lt_zero _), H4.out⟩
      case round =>
        obtain ⟨k, hkn, rfl, rfl, hno, hS⟩ := hrel
        rw [HN.out] at hkn
        clear H4
        have hS5 := hS
        rw [HLL.out] at hS5
        have x0 := hS5.r2.blk.cell 0
        by_cases hlt : k < n
        · obtain ⟨r, hr⟩ : ∃ r, R[k]? = some r := ⟨_, List.getElem?_eq_getElem (by rw [HN.out]; exact hlt)⟩
          obtain ⟨D, hD⟩ : ∃ D, Ds[k]? = some D := ⟨_, List.getElem?_eq_getElem (by omega)⟩
          have hnm := (HK.out k D r hD hr).name
          have g0 := defsC_get Ds k 0 D hD (by decide)
          have g1 := defsC_get Ds k 1 D hD (by decide)
          rw [Nat.add_zero] at g0
          obtain ⟨g, hA, _, _⟩ := hS5.r3.rowCell (by intro e; rw [e] at g0; simp [defC] at g0)
          subst hA
          have c0 := (hS5.r3.rowAt (j := k * 2) (v := .string D.name) g0).1
          have c1 := (hS5.r3.rowAt (j := k * 2 + 1) (v := .slice D.A D.steps.length D.c) g1).1
          have HVT := Lib.hid (fun s => verN_take hr s)
          have HGA := Lib.hid (grown_at HG.out k r hr)
          have HCC := Lib.hid (C29.out D r k _ _ hD hr hS5.r4)
          have HM : Hid (r ∈ R) := List.mem_of_getElem? hr
          have HNMk := Lib.hid hnm
          have HRk := Lib.hid hr
          have HNOk := Lib.hid hno
          have HS := Lib.hid hS
          obtain ⟨mv, hmv⟩ : ∃ v, verN (R.take k) nm = v := ⟨_, rfl⟩
          have hmv16 : mv ≤ k := by rw [← hmv]; exact Nat.le_trans (verN_le _ _) (by simp; omega)
          rw [hmv]
          have HMV := Lib.hid hmv
          clear hS hS5 hD hr hnm g0 g1 hmv hno
          by_cases he : D.name = nm
          · have t0 : (D.name.toList == nm.toList) = true := str_yes he
            have HE := Lib.hid he
            have HRV : Hid (r.v = (mv : Int) + 1) := by
              have h2 := HGA.out
              rw [← HNMk.out, HE.out, HMV.out] at h2
              exact h2
            by_cases hv : (mv : Int) + 1 = ver
            · have t3 : ((mv : Int) + 1 == ver) = true := by simpa using hv
              have HPE : Hid (pv = ver) := HV1.out (by omega)
              have HVE := Lib.hid hv
              clear he hv HS HNO HPV
              go_wp2_with fail
              refine HCC.out.mono ?_
              rintro e w5 ⟨C, rfl, hC, h5⟩
              have z0 := h5.r6.blk.cell 0
              have z1 := h5.r6.blk.cell 1
              have zf0 := h5.r6.blk.free 0
              have zf1 := h5.r6.blk.free 1
              have HX := Lib.hid ((h5.r6.set 0 (.string C.name)).set 1 (.slice C.A C.steps.length C.c))
              have HCL := Lib.hid hC
              clear h5 hC HCC x0 c0 c1
              go_wp2_with fail
              refine bodyPost_ret (res27 (by rfl) HX.out (by rfl)) rfl ?_
              refine HYES.out r C _ _ HM.out ?_ ?_ HCL.out HX.out.tail.r3.tail.r2.b4
              · show (r.d.name, r.v) = _
                rw [← HNMk.out, HE.out, HRV.out, HPE.out, HVE.out]
              · rw [HPE.out, ← HVE.out]; rfl
            · have t3 : ((mv : Int) + 1 == ver) = false := by simpa using hv
              have h1 := HVT.out nm
              rw [HMV.out, if_pos (HNMk.out.symm.trans HE.out)] at h1
              have HH1 := Lib.hid h1
              have HNV2 : Hid (r.v ≠ ver) := by rw [HRV.out]; exact hv
              clear he hv h1 HCC c1
              go_wp2_with fail
              refine ⟨⟨k + 1, by rw [HN.out]; omega, by go_num, by rw [HH1.out]; go_num, fun j r2 hj hr2 hnm2 => ?_, HS.out⟩, by simp [intOf]; omega⟩
              by_cases hjk : j = k
              · subst hjk
                obtain rfl : r = r2 := by rw [HRk.out] at hr2; injection hr2
                exact HNV2.out
              · exact HNOk.out j r2 (by omega) hr2 hnm2
          · have t0 : (D.name.toList == nm.toList) = false := str_no he
            have HE := Lib.hid he
            have h1 := HVT.out nm
            rw [HMV.out, if_neg (fun e => HE.out (HNMk.out.trans e))] at h1
            simp only [Nat.add_zero] at h1
            have HH1 := Lib.hid h1
            clear he h1 HCC c1
            go_wp2_with fail
            refine ⟨⟨k + 1, by rw [HN.out]; omega, by go_num, by rw [HH1.out], fun j r2 hj hr2 hnm2 => ?_, HS.out⟩, by simp [intOf]; omega⟩
            by_cases hjk : j = k
            · subst hjk
              obtain rfl : r = r2 := by rw [HRk.out] at hr2; injection hr2
              exact absurd (HNMk.out.trans hnm2) HE.out
            · exact HNOk.out j r2 (by omega) hr2 hnm2
        · obtain rfl : k = n := by omega
          have z0 := hS5.r5.blk.cell 0
          have z1 := hS5.r5.blk.cell 1
          have zf0 := hS5.r5.blk.free 0
          have zf1 := hS5.r5.blk.free 1
          have HX := Lib.hid ((hS5.r5.set 0 (.string ⟨#[]⟩)).set 1 (.slice none 0 0))
          have HNOk := Lib.hid hno
          clear hS hS5 hno
          go_wp2_with fail
          refine bodyPost_ret (res27 (by rfl) HX.out (by rfl)) rfl ?_
          refine HNO.out (fun r hr e => ?_) _ _ rfl HX.out.tail.tail
          have e1 : r.d.name = nm := congrArg Prod.fst e
          have e2 : r.v = pv := congrArg Prod.snd e
          obtain ⟨j, hj, hjr⟩ := List.getElem_of_mem hr
          exact HNOk.out j r (by rw [← HN.out]; exact hj) (by rw [List.getElem?_eq_getElem hj, hjr]) e1 (HPV.out r hr e1 e2)
    · rw [if_neg (by omega)] at t1
      have t2 : (ver == 0) = false := by simpa using h1
      go_wp2_with fail
      rw [← HW3.out]
      clear HW3 hbx h0 h1 t1 t2
      go_loopw [11, 12] (DFindRel w0 LL R nm ver) (fun _ i _ => n - (intOf i).toNat)
      case atStart => exact ⟨0, Nat.zero_le _, rfl, rfl, fun j r hj => absurd hj (Nat.not_lt_zero _), H4.out⟩
      case round =>
        obtain ⟨k, hkn, rfl, rfl, hno, hS⟩ := hrel
        rw [HN.out] at hkn
        clear H4
        have hS5 := hS
        rw [HLL.out] at hS5
        have x0 := hS5.r2.blk.cell 0
        by_cases hlt : k < n
        · obtain ⟨r, hr⟩ : ∃ r, R[k]? = some r := ⟨_, List.getElem?_eq_getElem (by rw [HN.out]; exact hlt)⟩
          obtain ⟨D, hD⟩ : ∃ D, Ds[k]? = some D := ⟨_, List.getElem?_eq_getElem (by omega)⟩
          have hnm := (HK.out k D r hD hr).name
          have g0 := defsC_get Ds k 0 D hD (by decide)
          have g1 := defsC_get Ds k 1 D hD (by decide)
          rw [Nat.add_zero] at g0
          obtain ⟨g, hA, _, _⟩ := hS5.r3.rowCell (by intro e; rw [e] at g0; simp [defC] at g0)
          subst hA
          have c0 := (hS5.r3.rowAt (j := k * 2) (v := .string D.name) g0).1
          have c1 := (hS5.r3.rowAt (j := k * 2 + 1) (v := .slice D.A D.steps.length D.c) g1).1
          have HVT := Lib.hid (fun s => verN_take hr s)
          have HGA := Lib.hid (grown_at HG.out k r hr)
          have HCC := Lib.hid (C29.out D r k _ _ hD hr hS5.r4)
          have HM : Hid (r ∈ R) := List.mem_of_getElem? hr
          have HNMk := Lib.hid hnm
          have HRk := Lib.hid hr
          have HNOk := Lib.hid hno
          have HS := Lib.hid hS
          obtain ⟨mv, hmv⟩ : ∃ v, verN (R.take k) nm = v := ⟨_, rfl⟩
          have hmv16 : mv ≤ k := by rw [← hmv]; exact Nat.le_trans (verN_le _ _) (by simp; omega)
          rw [hmv]
          have HMV := Lib.hid hmv
          clear hS hS5 hD hr hnm g0 g1 hmv hno
          by_cases he : D.name = nm
          · have t0 : (D.name.toList == nm.toList) = true := str_yes he
            have HE := Lib.hid he
            have HRV : Hid (r.v = (mv : Int) + 1) := by
              have h2 := HGA.out
              rw [← HNMk.out, HE.out, HMV.out] at h2
              exact h2
            by_cases hv : (mv : Int) + 1 = ver
            · have t3 : ((mv : Int) + 1 == ver) = true := by simpa using hv
              have HPE : Hid (pv = ver) := HV1.out (by omega)
              have HVE := Lib.hid hv
              clear he hv HS HNO HPV
              go_wp2_with fail
              refine HCC.out.mono ?_
              rintro e w5 ⟨C, rfl, hC, h5⟩
              have z0 := h5.r6.blk.cell 0
              have z1 := h5.r6.blk.cell 1
              have zf0 := h5.r6.blk.free 0
              have zf1 := h5.r6.blk.free 1
              have HX := Lib.hid ((h5.r6.set 0 (.string C.name)).set 1 (.slice C.A C.steps.length C.c))
              have HCL := Lib.hid hC
              clear h5 hC HCC x0 c0 c1
              go_wp2_with fail
              refine bodyPost_ret (res27 (by rfl) HX.out (by rfl)) rfl ?_
              refine HYES.out r C _ _ HM.out ?_ ?_ HCL.out HX.out.tail.r3.tail.r2.b4
              · show (r.d.name, r.v) = _
                rw [← HNMk.out, HE.out, HRV.out, HPE.out, HVE.out]
              · rw [HPE.out, ← HVE.out]; rfl
            · have t3 : ((mv : Int) + 1 == ver) = false := by simpa using hv
              have h1 := HVT.out nm
              rw [HMV.out, if_pos (HNMk.out.symm.trans HE.out)] at h1
              have HH1 := Lib.hid h1
              have HNV2 : Hid (r.v ≠ ver) := by rw [HRV.out]; exact hv
              clear he hv h1 HCC c1
              go_wp2_with fail
              refine ⟨⟨k + 1, by rw [HN.out]; omega, by go_num, by rw [HH1.out]; go_num, fun j r2 hj hr2 hnm2 => ?_, HS.out⟩, by simp [intOf]; omega⟩
              by_cases hjk : j = k
              · subst hjk
                obtain rfl : r = r2 := by rw [HRk.out] at hr2; injection hr2
                exact HNV2.out
              · exact HNOk.out j r2 (by omega) hr2 hnm2
          · have t0 : (D.name.toList == nm.toList) = false := str_no he
            have HE := Lib.hid he
            have h1 := HVT.out nm
            rw [HMV.out, if_neg (fun e => HE.out (HNMk.out.trans e))] at h1
            simp only [Nat.add_zero] at h1
            have HH1 := Lib.hid h1
            clear he h1 HCC c1
            go_wp2_with fail
            refine ⟨⟨k + 1, by rw [HN.out]; omega, by go_num, by rw [HH1.out], fun j r2 hj hr2 hnm2 => ?_, HS.out⟩, by simp [intOf]; omega⟩
            by_cases hjk : j = k
            · subst hjk
              obtain rfl : r = r2 := by rw [HRk.out] at hr2; injection hr2
              exact absurd (HNMk.out.trans hnm2) HE.out
            · exact HNOk.out j r2 (by omega) hr2 hnm2
        · obtain rfl : k = n := by omega
          have z0 := hS5.r5.blk.cell 0
          have z1 := hS5.r5.blk.cell 1
          have zf0 := hS5.r5.blk.free 0
          have zf1 := hS5.r5.blk.free 1
          have HX := Lib.hid ((hS5.r5.set 0 (.string ⟨#[]⟩)).set 1 (.slice none 0 0))
          have HNOk := Lib.hid hno
          clear hS hS5 hno
          go_wp2_with fail
          refine bodyPost_ret (res27 (by rfl) HX.out (by rfl)) rfl ?_
          refine HNO.out (fun r hr e => ?_) _ _ rfl HX.out.tail.tail
          have e1 : r.d.name = nm := congrArg Prod.fst e
          have e2 : r.v = pv := congrArg Prod.snd e
          obtain ⟨j, hj, hjr⟩ := List.getElem_of_mem hr
          exact HNOk.out j r (by rw [← HN.out]; exact hj) (by rw [List.getElem?_eq_getElem hj, hjr]) e1 (HPV.out r hr e1 e2)
end Go.Proofs.YtpmoanjeoaeabaaDoor
