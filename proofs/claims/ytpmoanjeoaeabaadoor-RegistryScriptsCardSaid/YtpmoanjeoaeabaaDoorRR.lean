/- The walk of RegistryForEver. -/
import Derived.Test.YtpmoanjeoaeabaaDoorRQ
set_option linter.unusedVariables false
set_option linter.unusedSimpArgs false
set_option linter.unnecessarySimpa false
set_option maxRecDepth 100000
namespace Go.Proofs.YtpmoanjeoaeabaaDoor
open Go.RowKit Go.ChangeShapes Go.WideShapes Go.ChangeAt
/-- what was put in is found under its number -/
def Kept (R : List Ver) (K : List Df) (V : List Int) : Prop :=
  V.length = K.length ∧ ∀ (t : Nat) (D : Df) (v : Int), K[t]? = some D → V[t]? = some v → Wf D ∧ 1 ≤ v ∧ v ≤ 1000000 ∧ ∃ r, findV R (D.name, v) = some r ∧ Like r.d D
theorem kept_nil (R : List Ver) : Kept R [] [] := ⟨rfl, fun t D v h => by simp at h⟩
theorem Kept.snoc {R R' : List Ver} {K : List Df} {V : List Int} {d C : Df} (h : Kept R K V) (hp : PutIn R d R') (hC : Like C d) (hw : Wf d) : Kept R' (K ++ [C]) (V ++ [(verN R' d.name : Int)]) := by
  refine ⟨by simp [h.1], fun t D v hD hv => ?_⟩
  by_cases ht : t < K.length
  · rw [List.getElem?_append_left ht] at hD
    rw [List.getElem?_append_left (by rw [h.1]; exact ht)] at hv
    obtain ⟨h1, h2, h3, r, h4, h5⟩ := h.2 t D v hD hv
    exact ⟨h1, h2, h3, r, hp.keep _ _ h4, h5⟩
  · by_cases e : t = K.length
    · subst e
      rw [List.getElem?_append_right (Nat.le_refl _), Nat.sub_self] at hD
      rw [List.getElem?_append_right (by rw [h.1]; exact Nat.le_refl _), h.1, Nat.sub_self] at hv
      obtain rfl : C = D := by simpa using hD
      obtain rfl : (verN R' d.name : Int) = v := by simpa using hv
      obtain ⟨r, hr, hl⟩ := hp.got
      have h1 := hp.pos
      have h2 := verN_le R' d.name
      have h3 := hp.ok.len
      exact ⟨hC.wf hw, by omega, by omega, r, by rw [hC.name]; exact hr, hl.trans hC.symm⟩
    · rw [List.getElem?_eq_none (by simp; omega)] at hD
      cases hD
def EverRel (w : World) (rb n : Nat) (kept at_ i : Value) (wr : World) : Prop :=
  ∃ (j k : Nat) (R : List Ver) (K : List Df) (V : List Int) (KA : Option Addr) (kc : Nat) (TA : Option Addr) (tc : Nat), j ≤ n ∧ i = .int .i64 j ∧ kept = .slice KA k kc ∧ at_ = .slice TA k tc ∧ K.length = k ∧ RegOk R ∧ Kept R K V ∧ k ≤ j ∧
    Sat w wr (RegP rb R :: Row 24 2 KA k kc (defsC K) :: sep (K.map OwnP) :: Row 3 1 TA k tc (intV V) :: [Old w])
def EverRel2 (w : World) (L0 : List HP) (bx n : Nat) (i : Value) (wr : World) : Prop := ∃ (t : Nat) (x y : Value), t ≤ n ∧ i = .int .i64 t ∧ Sat w wr (Blk bx 24 [x, y] :: L0)
theorem defsC_get (K : List Df) (t j : Nat) (D : Df) (h : K[t]? = some D) (hj : j < 2) : (defsC K)[t * 2 + j]? = (defC D)[j]? := by
  obtain ⟨ht, e⟩ := List.getElem?_eq_some_iff.1 h
  have e2 : defsC K = (K.map defC).flatten := by unfold defsC; rw [List.flatMap_def]
  rw [e2, flat_get (K.map defC) t j (fun x hx => by obtain ⟨s, _, rfl⟩ := List.mem_map.1 hx; rfl) (by simpa using ht) hj]
  simp [List.getD, ht, e]
set_option maxHeartbeats 6400000 in
theorem forEver_any {w : World} {A : Option Addr} {c : Nat} {L : List Df} (n : Nat) (hn : n = L.length) (hL : DefsAt w A c L) (hT : Lib.Utf8Tabs 0 1 w) :
    Calls Tryd.prog 9 #[.slice A n c] w fun e w' => e = .returned (.bool true) ∧ Below w.heap.size w w' := by
  have HL := Lib.hid hL
  have HN := Lib.hid hn
  have HT := Lib.hid hT
  have HB := Lib.hid (begun_any (w := w) hT (by simp) (Sat.start w))
  have hb := hL.bytes
  rw [← hn] at hb
  clear hL hT hn
  go_enter Tryd.func9, Tryd.ntmps9
  go_wp2_with fail
  refine HB.out.mono ?_
  rintro e w1 ⟨rb, D0, rfl, hD0, h1⟩
  have H1 := Lib.hid h1
  have HR1 : Hid (RegOk [⟨D0, 1⟩]) := by
    show RegOk _
    have h := RegOk.snoc (R := []) (D := D0) ⟨(fun r hr => by cases hr), .nil, Nat.zero_le _⟩ (hD0.wf (one_wf 0)) (by decide)
    exact h
  clear h1 hD0 HB
  go_wp2_with fail
  go_loopw [4, 5, 6] (EverRel w rb n) (fun _ _ i _ => n - (intOf i).toNat)
  case atStart => exact ⟨0, 0, [⟨D0, 1⟩], [], [], none, 0, none, 0, Nat.zero_le _, rfl, rfl, rfl, rfl, HR1.out, kept_nil _, Nat.le_refl _, ((Sat.close (M := []) (H1.out.nilRow 3 1)).nilRow 24 2).r4⟩
  case round =>
    obtain ⟨j, k, R, K, V, KA, kc, TA, tc, hj, rfl, rfl, rfl, hkl, hR, hK, hkj, hS⟩ := hrel
    clear H1 HR1
    by_cases hlt : j < n
    · have hjL : j < L.length := by rw [← HN.out]; exact hlt
      obtain ⟨_, _, hat⟩ := HL.out.elems.at_
      obtain ⟨b, o, rfl, hcell⟩ := hat (by rw [List.length_map]; omega)
      obtain ⟨d, hd⟩ : ∃ d, L[j] = d := ⟨_, rfl⟩
      have hmem : d ∈ L := by rw [← hd]; exact List.getElem_mem hjL
      have hg : (L.map Df.vs).getD j [] = d.vs := by
        rw [← List.getElem_eq_getD (h := by rw [List.length_map]; exact hjL), List.getElem_map, hd]
      have CELL : Hid (∀ W L', Sat w W (L' ++ [Old w]) → W.cell? ⟨b, o + j * 2, none⟩ = some (.string d.name) ∧ W.cell? ⟨b, o + j * 2 + 1, none⟩ = some (.slice d.A d.steps.length d.c)) := fun W L' h => by
        have hB := h.old (List.mem_append_right _ List.mem_cons_self)
        have h0 := hcell j (by rw [List.length_map]; exact hjL) 0 (by decide)
        have h1 := hcell j (by rw [List.length_map]; exact hjL) 1 (by decide)
        rw [hg] at h0 h1
        exact ⟨old_cell hB h0, old_cell hB h1⟩
      have HDF : Hid (∀ W L', Sat w W (L' ++ [Old w]) → DefAt W d) := fun W L' h => (HL.out.each d hmem).keep (h.old (List.mem_append_right _ List.mem_cons_self))
      have HW := Lib.hid (HL.out.wf d hmem)
      have CADD := Lib.hid (add_two (F := Row 24 2 KA k kc (defsC K) :: sep (K.map OwnP) :: Row 3 1 TA k tc (intV V) :: [Old w]) d HW.out hR (fun W L' h => HDF.out W (L' ++ [_, _, _]) (by simpa using h)) HT.out (by simp) hS)
      obtain ⟨x0, x1⟩ := CELL.out wr [_, _, _, _] hS
      have HS := Lib.hid hS
      have HK := Lib.hid hK
      have HR := Lib.hid hR
      clear hcell hg hmem hd hjL hS hK hR
      go_wp2_with fail
      refine CADD.out.mono ?_
      rintro e w2 (⟨E, hE, rfl, h2⟩ | ⟨R', hP, rfl, h2⟩)
      · have H2 := Lib.hid h2
        clear h2 CADD HDF CELL x0 x1 HS
        rcases hE with rfl | rfl
        all_goals
          go_wp2_with fail
          go_roundw
          case rel => exact ⟨j + 1, k, R, K, V, KA, kc, TA, tc, by omega, by go_num, rfl, rfl, hkl, HR.out, HK.out, by omega, H2.out⟩
          case measure => simp [intOf]; omega
      · have H2 := Lib.hid h2
        obtain ⟨r, hr, hlr⟩ := hP.got
        have CAGN : Hid (∀ W, Sat w W (RegP rb R' :: Row 24 2 KA k kc (defsC K) :: sep (K.map OwnP) :: Row 3 1 TA k tc (intV V) :: [Old w]) → Calls Tryd.prog 25 #[.pointer (some ⟨rb, 0, none⟩), .agg #[.string d.name, .slice d.A d.steps.length d.c]] W fun e w' =>
            e = .returned (.tuple #[.int .i64 (verN R' d.name : Int), .int .i64 0]) ∧ Sat w w' (RegP rb R' :: Row 24 2 KA k kc (defsC K) :: sep (K.map OwnP) :: Row 3 1 TA k tc (intV V) :: [Old w])) := fun W h =>
          add_again (F := Row 24 2 KA k kc (defsC K) :: sep (K.map OwnP) :: Row 3 1 TA k tc (intV V) :: [Old w]) d HW.out hP.ok hP.check hr hlr (fun W L' h => HDF.out W (L' ++ [_, _, _]) (by simpa using h)) HT.out (by simp) h
        have CALL : Hid (∀ W F', Sat w W (RegP rb R' :: F') → Calls Tryd.prog 26 #[.pointer (some ⟨rb, 0, none⟩)] W fun e w' => ∃ ob : Nat, e = .returned (.slice (some ⟨ob, 0, none⟩) R'.length R'.length) ∧ Sat w w' (RegP rb R' :: F')) := fun W F' h => by
          refine (all_any hP.ok.wf hP.ok.grown hP.ok.len h).mono ?_
          rintro e w' ⟨ob, Ds, rfl, _, _, hs⟩
          exact ⟨ob, rfl, hs.tail.tail⟩
        have CFND : Hid (∀ W F', Sat w W (RegP rb R' :: F') → Calls Tryd.prog 27 #[.pointer (some ⟨rb, 0, none⟩), .string d.name, .int .i64 0] W fun e w' =>
            ∃ D : Df, e = .returned (.tuple #[.agg #[.string D.name, .slice D.A D.steps.length D.c], .int .i64 (verN R' d.name : Int), .int .i64 0]) ∧ Like D d ∧ Wf D ∧ Sat w w' (OwnP D :: RegP rb R' :: F')) := fun W F' h => by
          refine (find_got (r := r) d.name 0 (by have := HW.out.fits.name; unfold maxLen; omega) (by unfold wf64; decide) hP.ok (by unfold verOf; rw [if_pos rfl]; exact hr) h).mono ?_
          rintro e w' ⟨D, rfl, hl, hw, hs⟩
          exact ⟨D, by unfold verOf; rw [if_pos rfl], hl.trans hlr, hw, hs⟩
        have CSAM : Hid (∀ (D : Df) W, Like D d → Wf D → DefAt W D → DefAt W d → Calls Tryd.prog 28 #[.agg #[.string D.name, .slice D.A D.steps.length D.c], .agg #[.string d.name, .slice d.A d.steps.length d.c]] W fun e w' => e = .returned (.bool true) ∧ Below W.heap.size W w') := fun D W hl hw h1 h2 => by
          have h := same10_any h1 h2 hw.fits HW.out.fits
          rw [like_yes hl] at h
          exact h
        have CCPY : Hid (∀ W F', DefAt W d → Sat w W F' → Calls Tryd.prog 29 #[.agg #[.string d.name, .slice d.A d.steps.length d.c]] W fun e w' => ∃ C : Df, e = .returned (.agg #[.string C.name, .slice C.A C.steps.length C.c]) ∧ Like C d ∧ Sat w w' (OwnP C :: F')) := fun W F' hd h => by
          refine (copy10_own hd HW.out.fits h).mono ?_
          rintro e w' ⟨C, rfl, hl, hs⟩
          exact ⟨C, by rw [← like_v hl]; rfl, hl, hs⟩
        have HP := Lib.hid hP
        have HV : Hid (1 ≤ verN R' d.name ∧ verN R' d.name ≤ 16) := ⟨hP.pos, Nat.le_trans (verN_le R' d.name) hP.ok.len⟩
        have HKS : Hid (∀ C, Like C d → Kept R' (K ++ [C]) (V ++ [(verN R' d.name : Int)])) := fun C hC => HK.out.snoc hP hC HW.out
        obtain ⟨vn, hvn⟩ : ∃ v, verN R' d.name = v := ⟨_, rfl⟩
        obtain ⟨m, hm⟩ : ∃ m, R'.length = m := ⟨_, rfl⟩
        rw [hvn] at CAGN CFND HV HKS ⊢
        rw [hm] at CALL
        clear h2 CADD hr hlr hP HS x0 x1 hvn hm HR HK
        go_wp2_with fail
        refine (CALL.out w2 _ H2.out).mono ?_
        rintro e w3 ⟨ob, rfl, h3⟩
        have H3 := Lib.hid h3
        obtain ⟨x0, x1⟩ := CELL.out w3 [_, _, _, _] h3
        clear h3 H2
        go_wp2_with fail
        refine (CAGN.out w3 H3.out).mono ?_
        rintro e w4 ⟨rfl, h4⟩
        have H4 := Lib.hid h4
        obtain ⟨x0, x1⟩ := CELL.out w4 [_, _, _, _] h4
        clear h4 H3 CAGN
        go_wp2_with fail
        refine (CFND.out w4 _ H4.out).mono ?_
        rintro e w5 ⟨D, rfl, hD, hDw, h5⟩
        have h6 := h5.new #[.string D.name, .slice D.A D.steps.length D.c] 24
        obtain ⟨bx, hbx⟩ : ∃ q, w5.heap.size = q := ⟨_, rfl⟩
        rw [hbx] at h6
        have H6 := Lib.hid h6
        have HD := Lib.hid hD
        have HDw := Lib.hid hDw
        clear h5 h6 hD hDw H4 CFND x0 x1
        go_wp2_with fail
        obtain ⟨W5, hW5⟩ : ∃ x, x = w5.alloc (.cells #[.string D.name, .slice D.A D.steps.length D.c] 24) := ⟨_, rfl⟩
        rw [← hW5] at H6 ⊢
        clear hW5
        have p0 := H6.out.blk.cell 0
        have p1 := H6.out.blk.cell 1
        obtain ⟨p2, p3⟩ := CELL.out W5 [_, _, _, _, _, _] H6.out
        have HCS := Lib.hid (CSAM.out D W5.drew HD.out HDw.out (H6.out.drew.r2.wfDef HDw.out) (HDF.out _ [_, _, _, _, _, _] H6.out.drew))
        clear CSAM
        go_region_held3 (fun w' => w'.cell? ⟨bx, 0, none⟩ = some (.string D.name) ∧ w'.cell? ⟨bx, 1, none⟩ = some (.slice D.A D.steps.length D.c) ∧ w'.cell? ⟨b, o + j * 2, none⟩ = some (.string d.name) ∧ w'.cell? ⟨b, o + j * 2 + 1, none⟩ = some (.slice d.A d.steps.length d.c))
          (first | exact ⟨p0, p1, p2, p3⟩ | exact ⟨y0, y1, y2, y3⟩ | exact ⟨z0, z1, z2, z3⟩)
          (first
            | (go_at_call 28; refine HCS.out.mono ?_; rintro e w7 ⟨rfl, h7⟩; have H7 := Lib.hid (H6.out.drew.below h7); have y0 := H7.out.blk.cell 0; have y1 := H7.out.blk.cell 1; obtain ⟨y2, y3⟩ := CELL.out w7 [_, _, _, _, _, _] H7.out)
            | (go_at_call 26; refine (CALL.out w7 _ H7.out.r3).mono ?_; rintro e w8 ⟨ob2, rfl, h8⟩; have H8 := Lib.hid h8; have z0 := h8.r2.blk.cell 0; have z1 := h8.r2.blk.cell 1; obtain ⟨z2, z3⟩ := CELL.out w8 [_, _, _, _, _, _] h8))
        all_goals
          clear p0 p1 p2 p3 y0 y1 y2 y3 z0 z1 h7 h8 H7 H6 HCS CALL
          go_wp2_with fail
          refine (CCPY.out w8 _ (HDF.out _ [_, _, _, _, _, _] H8.out) H8.out).mono ?_
          rintro e w9 ⟨C, rfl, hC, h9⟩
          have HB10 := Lib.hid (h9.r5.new #[.string C.name, .slice C.A C.steps.length C.c] 24)
          have HKC := Lib.hid (HKS.out C hC)
          obtain ⟨i24, hi24, hz24, hs24, hb24⟩ := info_parts infoD
          obtain ⟨i3, hi3, hz3, hs3, hb3⟩ := info_parts infoI
          have HI24 := Lib.hid hi24
          have HI3 := Lib.hid hi3
          have hbk : k + 1 ≤ maxLen ∧ (k + 1) * 40 ≤ 140737488355328 := by unfold maxLen; omega
          have hbk3 : k + 1 ≤ maxLen ∧ (k + 1) * 8 ≤ 140737488355328 := by unfold maxLen; omega
          have HONE : Hid (∀ u ∈ (#[.string C.name, .slice C.A C.steps.length C.c] : Array Value).toList, u.oneCell' = true) := by
            show ∀ u ∈ _, _
            intro u hu
            simp at hu
            rcases hu with rfl | rfl <;> rfl
          have HONE3 : Hid (∀ u ∈ (#[.int .i64 (vn : Int)] : Array Value).toList, u.oneCell' = true) := by
            show ∀ u ∈ _, _
            intro u hu
            simp at hu
            subst hu; rfl
          have HLEN : Hid ((#[.string C.name, .slice C.A C.steps.length C.c] : Array Value).toList.length = 2) := rfl
          have HZC : Hid ((Value.agg #[.string ⟨#[]⟩, .slice none 0 0]).cells.size = 2) := rfl
          clear hC h9 H8 CCPY HDF CELL HKS hi24 hi3
          go_wp2_with (first
            | (refine wpList_bs47 rfl 106 rfl (.string C.name) (.slice C.A C.steps.length C.c) rfl ?_)
            | (at_builtin; refine wpList_app1 rfl (.tmp 101) (.tmp 107) 47 rfl 24 i24 _ 2 40 Tryd.underlying47 HI24.out hz24 hs24 hb24 HZC.out (by decide) rfl HB10.out rfl HLEN.out HONE.out hbk.1 hbk.2 ?_; intro KA2 kc2 W10 hS10; have HB11 := Lib.hid (hS10.r7.new #[.int .i64 (vn : Int)] 3); clear hS10)
            | (at_builtin; refine wpList_app1 rfl (.tmp 109) (.tmp 111) 33 rfl 3 i3 _ 1 8 Tryd.underlying33 HI3.out hz3 hs3 hb3 rfl (by decide) rfl HB11.out rfl rfl HONE3.out hbk3.1 hbk3.2 ?_; intro TA2 tc2 W11 hS11; have H11 := Lib.hid hS11; clear hS11))
          have h12 : Sat w W11 (Blk bx 24 [.string D.name, .slice D.A D.steps.length D.c] :: RegP rb R' :: Row 24 2 KA2 (k + 1) kc2 (defsC (K ++ [C])) :: sep ((K ++ [C]).map OwnP) :: Row 3 1 TA2 (k + 1) tc2 (intV (V ++ [(vn : Int)])) :: [Old w]) := by
            have e1 : defsC (K ++ [C]) = defsC K ++ [.string C.name, .slice C.A C.steps.length C.c] := by unfold defsC; rw [List.flatMap_append]; rfl
            have e2 : intV (V ++ [(vn : Int)]) = intV V ++ [.int .i64 (vn : Int)] := by unfold intV; rw [List.map_append]; rfl
            have e3 : (K ++ [C]).map OwnP = K.map OwnP ++ [OwnP C] := by rw [List.map_append]; rfl
            rw [e1, e2, e3]
            exact H11.out.r6.tail.r3.r6.snocP.r3.r4.r5
          obtain ⟨K2, hK2⟩ : ∃ x, K ++ [C] = x := ⟨_, rfl⟩
          obtain ⟨V2, hV2⟩ : ∃ x, V ++ [(vn : Int)] = x := ⟨_, rfl⟩
          have hKl : K2.length = k + 1 := by rw [← hK2, List.length_append, hkl]; rfl
          rw [hK2, hV2] at h12 HKC
          have hVl : V2.length = k + 1 := by rw [HKC.out.1, hKl]
          obtain ⟨kg, rfl, _, _⟩ := h12.r3.rowCell (by intro e; have := defsC_len K2; rw [e, hKl] at this; simp at this)
          obtain ⟨tg, rfl, _, _⟩ := h12.r5.rowCell (by intro e; have : (intV V2).length = k + 1 := by rw [← hVl]; simp [intV]
                                                       rw [e] at this; simp at this)
          obtain ⟨L0, hL0⟩ : ∃ x, x = RegP rb R' :: Row 24 2 (some ⟨kg, 0, none⟩) (k + 1) kc2 (defsC K2) :: sep (K2.map OwnP) :: Row 3 1 (some ⟨tg, 0, none⟩) (k + 1) tc2 (intV V2) :: [Old w] := ⟨_, rfl⟩
          rw [← hL0] at h12
          have HL0 := Lib.hid hL0
          have H12 := Lib.hid h12
          have HPO := Lib.hid HP.out.ok
          clear h12 hL0 hK2 hV2 H11 HB10 HB11 HLEN HZC HONE HONE3 HI3 HI24 hz24 hs24 hb24 hz3 hs3 hb3 HP HV HD HDw HW HL hat z2 z3 x0 x1
          as_aux_lemma =>
            go_loopw [15] (EverRel2 w L0 bx (k + 1)) (fun i _ => k + 1 - (intOf i).toNat)
            case atStart => exact ⟨0, _, _, Nat.zero_le _, rfl, H12.out⟩
            case round =>
              obtain ⟨t, x, y, ht, rfl, hS⟩ := hrel
              clear H12
              by_cases hlt2 : t < k + 1
              · obtain ⟨E, hE⟩ : ∃ E, K2[t]? = some E := ⟨_, List.getElem?_eq_getElem (by omega)⟩
                obtain ⟨v, hv⟩ : ∃ v, V2[t]? = some v := ⟨_, List.getElem?_eq_getElem (by omega)⟩
                obtain ⟨hEw, hv1, hv2, r2, hr2, hl2⟩ := HKC.out.2 t E v hE hv
                have hmE : E ∈ K2 := List.mem_of_getElem? hE
                have g0 := defsC_get K2 t 0 E hE (by decide)
                have g1 := defsC_get K2 t 1 E hE (by decide)
                rw [Nat.add_zero] at g0
                have g2 : (intV V2)[t]? = some (.int .i64 v) := by unfold intV; rw [List.getElem?_map, hv]; rfl
                have CELL : Hid (∀ W x y, Sat w W (Blk bx 24 [x, y] :: L0) → W.cell? ⟨kg, t * 2, none⟩ = some (.string E.name) ∧ W.cell? ⟨kg, t * 2 + 1, none⟩ = some (.slice E.A E.steps.length E.c) ∧ W.cell? ⟨tg, t, none⟩ = some (.int .i64 v)) := fun W x y h => by
                  rw [HL0.out] at h
                  exact ⟨(h.r3.rowAt (j := t * 2) g0).1, (h.r3.rowAt (j := t * 2 + 1) g1).1, (h.r5.rowAt (j := t) g2).1⟩
                have CDEF : Hid (∀ W x y, Sat w W (Blk bx 24 [x, y] :: L0) → DefAt W E) := fun W x y h => by
                  rw [HL0.out] at h
                  obtain ⟨F', hF⟩ := h.r4.pickP (List.mem_map.2 ⟨E, hmE, rfl⟩)
                  exact hF.wfDef hEw
                have CFND : Hid (∀ W, Sat w W (Blk bx 24 [x, y] :: L0) → Calls Tryd.prog 27 #[.pointer (some ⟨rb, 0, none⟩), .string E.name, .int .i64 v] W fun e w' =>
                    ∃ D : Df, e = .returned (.tuple #[.agg #[.string D.name, .slice D.A D.steps.length D.c], .int .i64 v, .int .i64 0]) ∧ Like D E ∧ Wf D ∧ Sat w w' (Blk bx 24 [x, y] :: OwnP D :: L0)) := fun W h => by
                  rw [HL0.out] at h ⊢
                  have hvo : verOf R' E.name v = v := by unfold verOf; rw [if_neg (by omega)]
                  refine (find_got (r := r2) E.name v (by have := hEw.fits.name; unfold maxLen; omega) (by unfold wf64; omega) HPO.out (by rw [hvo]; exact hr2) h.r2).mono ?_
                  rintro e w' ⟨D, rfl, hl, hw, hs⟩
                  exact ⟨D, by rw [hvo], hl.trans hl2, hw, hs.r3⟩
                have CSAM : Hid (∀ (D : Df) W, Like D E → Wf D → DefAt W D → DefAt W E → Calls Tryd.prog 28 #[.agg #[.string D.name, .slice D.A D.steps.length D.c], .agg #[.string E.name, .slice E.A E.steps.length E.c]] W fun e w' => e = .returned (.bool true) ∧ Below W.heap.size W w') := fun D W hl hw h1 h2 => by
                  have h := same10_any h1 h2 hw.fits hEw.fits
                  rw [like_yes hl] at h
                  exact h
                obtain ⟨c0, c1, c2⟩ := CELL.out wr x y hS
                have HC27 := Lib.hid (CFND.out wr.drew hS.drew)
                clear hE hv hEw hv1 hv2 hr2 hl2 hmE g0 g1 g2 CFND hS HKC
                go_wp2_with fail
                go_region_held3 (fun w' => w'.cell? ⟨kg, t * 2, none⟩ = some (.string E.name) ∧ w'.cell? ⟨tg, t, none⟩ = some (.int .i64 v))
                  (first | exact ⟨c0, c2⟩ | exact ⟨y0, y2⟩ | exact ⟨z0, z2⟩)
                  (first
                    | (go_at_call 27; refine HC27.out.mono ?_; rintro e w5 ⟨D, rfl, hD, hDw, h5⟩; obtain ⟨y0, y1, y2⟩ := CELL.out w5 x y h5.r2.tail; have q0 := h5.blk.cell 0; have q1 := h5.blk.cell 1; have qf0 := h5.blk.free 0; have qf1 := h5.blk.free 1; have hX : Sat w ((w5.setCell ⟨bx, 0, none⟩ (.string D.name)).setCell ⟨bx, 1, none⟩ (.slice D.A D.steps.length D.c)) (Blk bx 24 [.string D.name, .slice D.A D.steps.length D.c] :: OwnP D :: L0) := (h5.set 0 (.string D.name)).set 1 (.slice D.A D.steps.length D.c); obtain ⟨z0, z1, z2⟩ := CELL.out _ _ _ hX.r2.tail; have HX := Lib.hid hX; clear hX h5))
                all_goals
                  obtain ⟨W6, hW6⟩ : ∃ x, x = (w5.setCell ⟨bx, 0, none⟩ (.string D.name)).setCell ⟨bx, 1, none⟩ (.slice D.A D.steps.length D.c) := ⟨_, rfl⟩
                  rw [← hW6] at HX z0 z1 z2 ⊢
                  have b0 := HX.out.blk.cell 0
                  have b1 := HX.out.blk.cell 1
                  have HCS := Lib.hid (CSAM.out D W6.drew hD hDw (HX.out.drew.r2.wfDef hDw) (CDEF.out _ _ _ HX.out.drew.r2.tail))
                  clear hW6 c0 c1 c2 y0 y1 y2 q0 q1 qf0 qf1 HC27 CSAM CDEF hD hDw
                  go_wp2_with fail
                  go_region_held3 (fun w' => w'.cell? ⟨kg, t * 2, none⟩ = some (.string E.name) ∧ w'.cell? ⟨kg, t * 2 + 1, none⟩ = some (.slice E.A E.steps.length E.c) ∧ w'.cell? ⟨tg, t, none⟩ = some (.int .i64 v) ∧ w'.cell? ⟨bx, 0, none⟩ = some (.string D.name) ∧ w'.cell? ⟨bx, 1, none⟩ = some (.slice D.A D.steps.length D.c))
                    (first | exact ⟨z0, z1, z2, b0, b1⟩ | exact ⟨y0, y1, y2, y3, y4⟩)
                    (first
                      | (go_at_call 28; refine HCS.out.mono ?_; rintro e w7 ⟨rfl, h7⟩; have H7 := Lib.hid (HX.out.drew.below h7); obtain ⟨y0, y1, y2⟩ := CELL.out w7 _ _ H7.out.r2.tail; have y3 := H7.out.blk.cell 0; have y4 := H7.out.blk.cell 1))
                  all_goals
                    clear z0 z1 z2 b0 b1 y0 y1 y2 y3 y4 HX HCS CELL h7
                    go_wp2_with fail
                    go_roundw
                    case rel => exact ⟨t + 1, _, _, by omega, by go_num, H7.out.r2.tail⟩
                    case measure => simp [intOf]; omega
              · obtain rfl : t = k + 1 := by omega
                have HS := Lib.hid hS
                clear hS
                go_wp2_with fail
                go_roundw
                case rel =>
                  have h := HS.out.tail
                  rw [HL0.out] at h
                  exact ⟨j + 1, k + 1, R', K2, V2, _, kc2, _, tc2, by omega, by go_num, rfl, rfl, hKl, HPO.out, HKC.out, by omega, h⟩
                case measure => simp [intOf]; omega
    · obtain rfl : j = n := by omega
      have HS := Lib.hid hS
      clear hS hK
      go_wp2_with fail
      go_ret
      exact ⟨rfl, HS.out.old (by simp)⟩
end Go.Proofs.YtpmoanjeoaeabaaDoor
