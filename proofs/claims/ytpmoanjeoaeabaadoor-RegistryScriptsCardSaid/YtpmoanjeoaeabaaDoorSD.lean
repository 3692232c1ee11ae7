/- The document's registry: Add. -/
import Derived.Test.YtpmoanjeoaeabaaDoorSC
import Derived.StillTailTactics
set_option linter.unusedVariables false
set_option linter.unusedSimpArgs false
set_option linter.unnecessarySimpa false
set_option maxRecDepth 100000
namespace Go.Proofs.YtpmoanjeoaeabaaDoor
open Go.RowKit Go.ChangeShapes Go.WideShapes Go.ChangeAt
theorem step_bs47 {w : World} {ops : Array Oper} {o : Oper} {a : Act} {K : Act → World → Prop} {Q : Exit → Act → World → Prop} {E : Prop} (hgd : o.guard = none) (t : Tmp) (ho : o.op = .buildSlice 47 1 #[(0, .tmp t)]) (v0 v1 : Value)
    (hv : a.eval (.tmp t) = .agg #[v0, v1]) (h : K (a.put o.dst (.slice (some ⟨w.heap.size, 0, none⟩) 1 1)) (w.alloc (.cells #[v0, v1] 24))) : if Region.wanted o (yielded ops a.tmps) = true then Oper.wp Tryd.prog o a w K Q else E := by
  have hw : Region.wanted o (yielded ops a.tmps) = true := by simp [Region.wanted, hgd]
  rw [if_pos hw]
  exact wp_bs47 t ho v0 v1 hv h
def DocGrow (w0 : World) (F : List HP) (xb : Nat) (R : List Ver) (d : Df) (e : Ending) (w' : World) : Prop :=
  (16 ≤ R.length ∧ e = .returned (.tuple #[.int .i64 0, .int .i64 141]) ∧ Sat w0 w' (DocP xb R :: F)) ∨
  (R.length < 16 ∧ e = .returned (.tuple #[.int .i64 ((verN R d.name : Int) + 1), .int .i64 0]) ∧ ∀ (D : Df) (v : Int), Like D d → Sat w0 w' (DocP xb (R ++ [⟨D, v⟩]) :: F))
def DocAdd (w0 : World) (F : List HP) (xb : Nat) (R : List Ver) (d : Df) (e : Ending) (w' : World) : Prop :=
  ((checkN d).2 ≠ 0 ∧ e = .returned (.tuple #[.int .i64 0, .int .i64 1]) ∧ Sat w0 w' (DocP xb R :: F)) ∨
  ((checkN d).2 = 0 ∧ ∃ r, findV R (d.name, (verN R d.name : Int)) = some r ∧ Like r.d d ∧ e = .returned (.tuple #[.int .i64 (verN R d.name : Int), .int .i64 0]) ∧ Sat w0 w' (DocP xb R :: F)) ∨
  ((checkN d).2 = 0 ∧ (∀ r, findV R (d.name, (verN R d.name : Int)) = some r → ¬ Like r.d d) ∧ DocGrow w0 F xb R d e w')
theorem likes_more {L : List Df} {R : List Ver} {C D : Df} {v : Int} {n : Nat} (h : Likes L R) (hn : R.length = n) (hl : L.length = R.length) (hC : Like C D) : Likes (L ++ [C]) (R ++ [⟨D, v⟩]) := by
  intro j E r h1 h2
  by_cases hj : j < L.length
  · rw [List.getElem?_append_left hj] at h1
    rw [List.getElem?_append_left (by omega)] at h2
    exact h j E r h1 h2
  · by_cases e : j = L.length
    · subst e
      rw [List.getElem?_append_right (Nat.le_refl _), Nat.sub_self] at h1
      rw [hl, List.getElem?_append_right (Nat.le_refl _), Nat.sub_self] at h2
      obtain rfl : C = E := by simpa using h1
      obtain rfl : (⟨D, v⟩ : Ver) = r := by simpa using h2
      exact hC
    · rw [List.getElem?_eq_none (by simp; omega)] at h1
      cases h1
theorem docGrown {w0 W : World} {F : List HP} {R : List Ver} {Ds : List Df} {C D : Df} {v : Int} {n xb c3 : Nat} {A3 : Option Addr} (hn : R.length = n) (hl : Ds.length = R.length) (hk : Likes Ds R) (hC : Like C D)
    (h : Sat w0 W (Blk xb 85 [.slice A3 (n + 1) c3] :: Row 24 2 A3 (n + 1) c3 (defsC Ds ++ [.string C.name, .slice C.A C.steps.length C.c]) :: OwnP C :: sep (Ds.map OwnP) :: F)) : Sat w0 W (DocP xb (R ++ [⟨D, v⟩]) :: F) := by
  subst hn
  have e : (R ++ [(⟨D, v⟩ : Ver)]).length = R.length + 1 := by simp
  refine Sat.docClose (A := A3) (c := c3) (Ds := Ds ++ [C]) (by simp [hl]) (likes_more hk rfl hl hC) ?_
  rw [e, defsC_snoc, List.map_append]
  exact h.r3.r4.snocP.b3
set_option maxHeartbeats 6400000 in
theorem docAdd_any {w w0 : World} {F : List HP} {xb : Nat} {R : List Ver} (d : Df) (hw : Wf d) (hR : ∀ r ∈ R, Wf r.d) (hg : Grown R) (hlen : R.length ≤ 16) (hDF : ∀ W L, Sat w0 W (L ++ F) → DefAt W d) (hS : Sat w0 w (DocP xb R :: F)) :
    Calls Tryd.prog 31 #[.pointer (some ⟨xb, 0, none⟩), d.v] w (DocAdd w0 F xb R d) := by
  obtain ⟨A, c, Ds, hl, hk, h0⟩ := hS.docOpen
  have h1 := h0.new #[.string d.name, .slice d.A d.steps.length d.c] 24
  obtain ⟨b, hb⟩ : ∃ b, w.heap.size = b := ⟨_, rfl⟩
  rw [hb] at h1
  have C13 : Hid (∀ W L, Sat w0 W (L ++ F) → Calls Tryd.prog 13 #[d.v] W fun e w' => e = .returned (.tuple #[.int .i64 (checkN d).1, .int .i64 (checkN d).2]) ∧ Below W.heap.size W w') := fun W L h => rcheck_any d (hDF W L h) hw.fits.sized
  have C59 : Hid (∀ W L', Sat w0 W (Blk xb 85 [.slice A R.length c] :: Row 24 2 A R.length c (defsC Ds) :: L') → Calls Tryd.prog 59 #[.pointer (some ⟨xb, 0, none⟩), .string d.name] W fun e w' => ∃ a b : Value, e = .returned (.tuple #[.int .i64 (verN R d.name : Int), .agg #[a, b]]) ∧ NewAt Ds R d.name R.length a b ∧ Sat w0 w' (Blk xb 85 [.slice A R.length c] :: Row 24 2 A R.length c (defsC Ds) :: L')) := fun W L' h => newest_any d.name hg hlen hl hk h
  have HMID : Hid ((checkN d).2 = 0 → ∀ r, r ∈ R → r.p = (d.name, (verN R d.name : Int)) → Like r.d d → ∀ e w', e = Ending.returned (.tuple #[.int .i64 (verN R d.name : Int), .int .i64 0]) → Sat w0 w' (DocP xb R :: F) → DocAdd w0 F xb R d e w') := fun h r hm hr hl e w' he hs =>
    .inr (.inl ⟨h, r, by rw [← hr]; exact grown_find hg r hm, hl, he, hs⟩)
  have HBAD : Hid ((checkN d).2 ≠ 0 → ∀ e w', e = Ending.returned (.tuple #[.int .i64 0, .int .i64 1]) → Sat w0 w' (DocP xb R :: F) → DocAdd w0 F xb R d e w') := fun h e w' he hs => .inl ⟨h, he, hs⟩
  have HGR : Hid ((checkN d).2 = 0 → (∀ r, findV R (d.name, (verN R d.name : Int)) = some r → ¬ Like r.d d) → ∀ e w', DocGrow w0 F xb R d e w' → DocAdd w0 F xb R d e w') := fun h hr e w' hg => .inr (.inr ⟨h, hr, hg⟩)
  have C29 : Hid (∀ W L, DefAt W d → Sat w0 W L → Calls Tryd.prog 29 #[.agg #[.string d.name, .slice d.A d.steps.length d.c]] W fun e w' => ∃ C : Df, e = .returned (.agg #[.string C.name, .slice C.A C.steps.length C.c]) ∧ Like C d ∧ Sat w0 w' (OwnP C :: L)) := fun W L hd h => by
    refine (copy10_own hd hw.fits h).mono ?_
    rintro e w' ⟨D, rfl, hl, hs⟩
    exact ⟨D, by rw [← like_v hl]; rfl, hl, hs⟩
  have C28 : Hid (∀ (D : Df) (r : Ver) (j : Nat) W L', Ds[j]? = some D → R[j]? = some r → DefAt W d → Sat w0 W (sep (Ds.map OwnP) :: L') → Calls Tryd.prog 28 #[.agg #[.string D.name, .slice D.A D.steps.length D.c], .agg #[.string d.name, .slice d.A d.steps.length d.c]] W fun e w' => e = .returned (.bool (likeB D d)) ∧ Below W.heap.size W w') := fun D r j W L' hD hr hd h => by
    have hkD := hk j D r hD hr
    have hDw : Wf D := hkD.wf (hR r (List.mem_of_getElem? hr))
    obtain ⟨F', hF⟩ := h.pickP (List.mem_map.2 ⟨D, List.mem_of_getElem? hD, rfl⟩)
    exact same10_any (hF.wfDef hDw) hd hDw.fits hw.fits
  have HDF := Lib.hid hDF
  have HK := Lib.hid hk
  have HL := Lib.hid hl
  have HG := Lib.hid hg
  have hvn16 := Nat.le_trans (verN_le R d.name) hlen
  obtain ⟨FO, hFO⟩ : ∃ X, DocAdd w0 F xb R d = X := ⟨_, rfl⟩
  obtain ⟨CN, hCN⟩ : ∃ X, checkN d = X := ⟨_, rfl⟩
  obtain ⟨x, y⟩ := CN
  rw [hCN] at HBAD HMID HGR C13
  rw [hFO] at HBAD HMID HGR ⊢
  have HCL : Hid (∀ W F', Sat w0 W (Blk xb 85 [.slice A R.length c] :: Row 24 2 A R.length c (defsC Ds) :: sep (Ds.map OwnP) :: F') → Sat w0 W (DocP xb R :: F')) := fun W F' h => Sat.docClose hl hk h
  unfold Df.v at C13 ⊢
  obtain ⟨vn, hvn⟩ : ∃ v, verN R d.name = v := ⟨_, rfl⟩
  have HNV := Lib.hid hvn
  obtain ⟨nn, hNN⟩ : ∃ n, R.length = n := ⟨_, rfl⟩
  have HNN := Lib.hid hNN
  rw [hNN] at C59 h1 hlen HCL
  rw [hvn] at C59 HMID HGR hvn16
  have H1 := Lib.hid h1
  clear hDF hS h0 h1 hCN hFO hvn hNN hk hl hg hR hw
  go_enter Tryd.func31, Tryd.ntmps31
  go_wp2_with fail
  try simp only [hb]
  refine (C13.out _ [_, _, _, _] H1.out).mono ?_
  rintro e w1 ⟨rfl, hb1⟩
  have H2 := Lib.hid (H1.out.below hb1)
  clear hb1 H1 C13
  by_cases hy : y = 0
  · subst hy
    have p0 := H2.out.blk.cell 0
    have HGR2 := Lib.hid (HGR.out (by first | rfl | trivial))
    have HMD2 := Lib.hid (HMID.out (by first | rfl | trivial))
    clear HBAD HGR HMID
    go_wp2_with fail
    refine (C59.out _ _ H2.out.b4).mono ?_
    rintro e w3 ⟨va, vb, rfl, hat, h3⟩
    rcases hat with ⟨h0, rfl, rfl⟩ | ⟨j, D, r, hD, hr, hrn, hrv, rfl, rfl⟩
    · have HGO : Hid (∀ e w', DocGrow w0 F xb R d e w' → FO e w') := HGR2.out fun r hr _ => by
        have h1 := grown_range HG.out r (findV_mem hr).1
        have h2 := (ver_name hr).2
        rw [← HNN.out, List.take_length, HNV.out] at h0
        omega
      have hv0 : vn = 0 := by rw [← HNN.out, List.take_length, HNV.out] at h0; exact h0
      have t1 : decide ((0 : Int) < (vn : Int)) = false := decide_eq_false (by omega)
      have HV0 := Lib.hid hv0
      have h4 := h3.new #[.string ⟨#[]⟩, .slice none 0 0] 24
      obtain ⟨bx, hbx⟩ : ∃ q, w3.heap.size = q := ⟨_, rfl⟩
      obtain ⟨w9, hw9⟩ : ∃ x, x = w3.alloc (.cells #[.string ⟨#[]⟩, .slice none 0 0] 24) := ⟨_, rfl⟩
      rw [hbx, ← hw9] at h4
      have H5 := Lib.hid h4.tail
      clear h0 h3 h4 HGR2 HMD2 C28 C59 H2 p0
      go_upto_region 7 with fail
      rw [← hw9]
      clear hw9 hbx t1 hv0
      by_cases hfull : 16 ≤ nn
      · have tf : decide ((16 : Int) ≤ (nn : Int)) = true := decide_eq_true (by omega)
        have k0 := H5.out.blk.cell 0
        go_wp2_with fail
        exact HGO.out _ _ (.inl ⟨by rw [HNN.out]; exact hfull, rfl, (HCL.out _ _ H5.out).r2.tail⟩)
      · have tf : decide ((16 : Int) ≤ (nn : Int)) = false := decide_eq_false (by omega)
        have k0 := H5.out.blk.cell 0
        go_wp2_with fail
        go_cut [46] (fun s wx => ∃ A3 c3 C, Like C d ∧ Sat w0 wx (Blk xb 85 [.slice A3 (nn + 1) c3] :: Row 24 2 A3 (nn + 1) c3 (defsC Ds ++ [.string C.name, .slice C.A C.steps.length C.c]) :: OwnP C :: sep (Ds.map OwnP) :: F))
        case first =>
          as_aux_lemma =>
            have p0 := H5.out.r4.blk.cell 0
            have p1 := H5.out.r4.blk.cell 1
            have HC := Lib.hid (C29.out w9.drew _ (HDF.out _ [_, _, _, _] H5.out.drew) H5.out.drew)
            obtain ⟨i24, hi24, hz24, hs24, hb24⟩ := info_parts infoD
            have HI24 := Lib.hid hi24
            have hbk : nn + 1 ≤ maxLen ∧ (nn + 1) * 40 ≤ 140737488355328 := by unfold maxLen; omega
            have HZC : Hid ((Value.agg #[.string ⟨#[]⟩, .slice none 0 0]).cells.size = 2) := rfl
            clear C29 HDF H5 hi24 HGO HCL
            go_region_law (first
              | (refine step_bs47 rfl 44 rfl (.string C.name) (.slice C.A C.steps.length C.c) rfl ?_)
              | (refine step_app1 rfl (.tmp 42) (.tmp 45) 47 rfl 24 i24 _ 2 40 Tryd.underlying47 HI24.out hz24 hs24 hb24 HZC.out (by decide) rfl HB8.out rfl HLEN.out HONE.out hbk.1 hbk.2 ?_; intro A3 c3 W8 hS8; have q1 : W8.cell? ⟨xb, 0, none⟩ = some (.slice A nn c) := hS8.r3.blk.cell 0; have qf := hS8.r3.blk.free 0)
              | (go_simp; go_at_call 29; refine HC.out.mono ?_; rintro e w5 ⟨C, rfl, hC, h5⟩; have k1 := h5.r2.blk.cell 0; have e0 := cell_alloc (.cells #[.string C.name, .slice C.A C.steps.length C.c] 24) k1; have HB8 := Lib.hid (h5.r3.new #[.string C.name, .slice C.A C.steps.length C.c] 24); have HLEN : Hid ((#[.string C.name, .slice C.A C.steps.length C.c] : Array Value).toList.length = 2) := rfl; have HONE := Lib.hid (def_one C)))
            all_goals
              have HX := Lib.hid (hS8.r3.set 0 (.slice A3 (nn + 1) c3))
              have HLC := Lib.hid hC
              clear hS8 HB8 hC HC
              go_wp2_with fail
              go_meet
              exact ⟨A3, c3, C, HLC.out, HX.out.r5.tail⟩
        case rest =>
          as_aux_lemma =>
            obtain ⟨A3, c3, C, hC, hS9⟩ := hcut
            have H9 := Lib.hid hS9
            have HLC := Lib.hid hC
            clear hS9 hC H5
            go_wp2_with fail
            refine HGO.out _ _ (.inr ⟨by rw [HNN.out]; omega, by rw [HNV.out]; first | rfl | (rw [HV0.out]; rfl), fun D v hD => ?_⟩)
            exact docGrown HNN.out HL.out HK.out (HLC.out.trans hD.symm) H9.out
    · have hvp : 0 < vn := by
        have h1 := (grown_range HG.out r (List.mem_of_getElem? hr)).1
        rw [← HNN.out, List.take_length, HNV.out] at hrv
        omega
      have t1 : decide ((0 : Int) < (vn : Int)) = true := decide_eq_true (by omega)
      have HRP : Hid (r.p = (d.name, (vn : Int))) := by
        rw [← HNN.out, List.take_length, HNV.out] at hrv
        show (r.d.name, r.v) = _
        rw [hrn, hrv]
      have HRM : Hid (r ∈ R) := List.mem_of_getElem? hr
      have HKD := Lib.hid (HK.out j D r hD hr)
      have h4 := h3.new #[.string D.name, .slice D.A D.steps.length D.c] 24
      obtain ⟨bx, hbx⟩ : ∃ q, w3.heap.size = q := ⟨_, rfl⟩
      rw [hbx] at h4
      have H4 := Lib.hid h4
      have HC28 := Lib.hid (C28.out D r j _ _ hD hr (HDF.out _ [_, _, _, _, _] h4) h4.r4)
      obtain ⟨b0, b1⟩ : (w3.alloc (.cells #[.string D.name, .slice D.A D.steps.length D.c] 24)).cell? ⟨b, 0, none⟩ = some (.string d.name) ∧ (w3.alloc (.cells #[.string D.name, .slice D.A D.steps.length D.c] 24)).cell? ⟨b, 1, none⟩ = some (.slice d.A d.steps.length d.c) := ⟨h4.r5.blk.cell 0, h4.r5.blk.cell 1⟩
      clear h3 h4 C28 C59 H2 p0 hD hr hrn hrv
      by_cases hlk : Like D d
      · rw [like_yes hlk] at HC28
        have HLK := Lib.hid hlk
        clear hlk HGR2
        go_wp2_with fail
        refine HC28.out.mono ?_
        rintro e w5 ⟨rfl, h5⟩
        have H5 := Lib.hid (H4.out.below h5)
        clear h5 H4 HC28
        go_wp2_with fail
        exact HMD2.out r HRM.out HRP.out (HKD.out.symm.trans HLK.out) _ _ rfl (HCL.out _ _ H5.out.tail.r4.tail.r3.r3.r3)
      · rw [like_no hlk] at HC28
        have HGO : Hid (∀ e w', DocGrow w0 F xb R d e w' → FO e w') := HGR2.out fun r2 hr2 hl2 => by
          have h1 : findV R (d.name, (vn : Int)) = some r := by rw [← HRP.out]; exact grown_find HG.out r HRM.out
          rw [h1] at hr2
          injection hr2 with hr2
          subst hr2
          exact hlk (HKD.out.trans hl2)
        clear hlk HMD2 HGR2
        go_wp2_with fail
        refine HC28.out.mono ?_
        rintro e w9 ⟨rfl, h5⟩
        have H5 := Lib.hid (H4.out.below h5).tail
        clear h5 H4 HC28 b0 b1
        go_upto_region 7 with fail
        clear t1 hvp
        by_cases hfull : 16 ≤ nn
        · have tf : decide ((16 : Int) ≤ (nn : Int)) = true := decide_eq_true (by omega)
          have k0 := H5.out.blk.cell 0
          go_wp2_with fail
          exact HGO.out _ _ (.inl ⟨by rw [HNN.out]; exact hfull, rfl, (HCL.out _ _ H5.out).r2.tail⟩)
        · have tf : decide ((16 : Int) ≤ (nn : Int)) = false := decide_eq_false (by omega)
          have k0 := H5.out.blk.cell 0
          go_wp2_with fail
          go_cut [46] (fun s wx => ∃ A3 c3 C, Like C d ∧ Sat w0 wx (Blk xb 85 [.slice A3 (nn + 1) c3] :: Row 24 2 A3 (nn + 1) c3 (defsC Ds ++ [.string C.name, .slice C.A C.steps.length C.c]) :: OwnP C :: sep (Ds.map OwnP) :: F))
          case first =>
            as_aux_lemma =>
              have p0 := H5.out.r4.blk.cell 0
              have p1 := H5.out.r4.blk.cell 1
              have HC := Lib.hid (C29.out w9.drew _ (HDF.out _ [_, _, _, _] H5.out.drew) H5.out.drew)
              obtain ⟨i24, hi24, hz24, hs24, hb24⟩ := info_parts infoD
              have HI24 := Lib.hid hi24
              have hbk : nn + 1 ≤ maxLen ∧ (nn + 1) * 40 ≤ 140737488355328 := by unfold maxLen; omega
              have HZC : Hid ((Value.agg #[.string ⟨#[]⟩, .slice none 0 0]).cells.size = 2) := rfl
              clear C29 HDF H5 hi24 HGO HCL
              go_region_law (first
                | (refine step_bs47 rfl 44 rfl (.string C.name) (.slice C.A C.steps.length C.c) rfl ?_)
                | (refine step_app1 rfl (.tmp 42) (.tmp 45) 47 rfl 24 i24 _ 2 40 Tryd.underlying47 HI24.out hz24 hs24 hb24 HZC.out (by decide) rfl HB8.out rfl HLEN.out HONE.out hbk.1 hbk.2 ?_; intro A3 c3 W8 hS8; have q1 : W8.cell? ⟨xb, 0, none⟩ = some (.slice A nn c) := hS8.r3.blk.cell 0; have qf := hS8.r3.blk.free 0)
                | (go_simp; go_at_call 29; refine HC.out.mono ?_; rintro e w5 ⟨C, rfl, hC, h5⟩; have k1 := h5.r2.blk.cell 0; have e0 := cell_alloc (.cells #[.string C.name, .slice C.A C.steps.length C.c] 24) k1; have HB8 := Lib.hid (h5.r3.new #[.string C.name, .slice C.A C.steps.length C.c] 24); have HLEN : Hid ((#[.string C.name, .slice C.A C.steps.length C.c] : Array Value).toList.length = 2) := rfl; have HONE := Lib.hid (def_one C)))
              all_goals
                have HX := Lib.hid (hS8.r3.set 0 (.slice A3 (nn + 1) c3))
                have HLC := Lib.hid hC
                clear hS8 HB8 hC HC
                go_wp2_with fail
                go_meet
                exact ⟨A3, c3, C, HLC.out, HX.out.r5.tail⟩
          case rest =>
            as_aux_lemma =>
              obtain ⟨A3, c3, C, hC, hS9⟩ := hcut
              have H9 := Lib.hid hS9
              have HLC := Lib.hid hC
              clear hS9 hC H5
              go_wp2_with fail
              refine HGO.out _ _ (.inr ⟨by rw [HNN.out]; omega, by rw [HNV.out]; first | rfl | (rw [HV0.out]; rfl), fun D v hD => ?_⟩)
              exact docGrown HNN.out HL.out HK.out (HLC.out.trans hD.symm) H9.out
  · have t0 : (y != 0) = true := by simp [hy]
    have HBAD2 := Lib.hid (HBAD.out hy)
    clear hy
    go_wp2_with fail
    exact HBAD2.out _ _ rfl (HCL.out _ _ H2.out.tail)
end Go.Proofs.YtpmoanjeoaeabaaDoor
