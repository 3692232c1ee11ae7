/- copied: a definition in memory of its own, by the library's Clone. -/
import Derived.Test.YtpmoanjeoaeabaaDoorRC
set_option linter.unusedVariables false
set_option linter.unusedSimpArgs false
set_option linter.unnecessarySimpa false
set_option maxRecDepth 100000
namespace Go.Proofs.YtpmoanjeoaeabaaDoor
open Go.RowKit Go.ChangeShapes Go.WideShapes Go.ChangeAt
def lays85_ren : Go.Shelf.Ren := ⟨fun | 41 => 85 | n => n, fun | 22 => 22 | 23 => 35 | 4 => 4 | n => n, fun | n => n⟩
theorem lays85 : Go.Proofs.SlLaysE0.n41 Tryd.prog lays85_ren := {
  mixed := by kernel_rfl
  f41 := ⟨Tryd.f85.name, by decide, Tryd.func85.trans (congrArg some (by kernel_rfl))⟩
  t4 := Tryd.underlying4
  a4 := Tryd.isAgg4
  z4 := Tryd.sizeOf4
  v4 := Tryd.zeroValue4
  t22 := Tryd.underlying22
  a22 := Tryd.isAgg22
  z22 := Tryd.sizeOf22
  v22 := Tryd.zeroValue22 }
theorem sizeOf35' (w : World) : (Go.sizeOf 35).run Tryd.prog w = .ok 5 w := by kernel_rfl
theorem stepsC_get (L : List St) : ∀ (i j : Nat), i < L.length → j < 5 → (stepsC L)[i * 5 + j]? = ((L.map St.vs).getD i [])[j]? := fun i j hi hj => by
  have e : stepsC L = (L.map St.vs).flatten := by unfold stepsC; rw [List.flatMap_def]
  rw [e]
  exact flat_get (L.map St.vs) i j (fun x hx => by obtain ⟨s, _, rfl⟩ := List.mem_map.1 hx; rfl) (by simpa using hi) hj
theorem stepsC_one (L : List St) : ∀ u ∈ stepsC L, u.oneCell' = true := by
  intro u hu
  unfold stepsC at hu
  obtain ⟨s, _, h⟩ := List.mem_flatMap.1 hu
  exact vs_one s u h
theorem cloneT_zero {w w0 : World} {F : List HP} (a : Addr) (c : Nat) (hS : Sat w0 w F) :
    Calls Tryd.prog 85 #[.slice (some a) 0 c] w fun e w' => ∃ (B : Option Addr) (d : Nat), e = .returned (.slice B 0 d) ∧ Sat w0 w' (Row 35 5 B 0 d [] :: F) := by
  obtain ⟨i35, hi35, hz35, hs35, hb35⟩ := info_parts infoSt
  have hN := hS.new #[] 35
  have hR : Sat w0 (w.alloc (.cells #[] 35)) (Row 35 5 (some ⟨w.heap.size, 0, none⟩) 0 0 [] :: F) := Sat.rowOf (cur := #[]) hN rfl (Nat.le_refl _) (Nat.zero_le _) rfl rfl
  have HRd : Hid (Rd (w.alloc (.cells #[] 35)) (some a) 0 5 []) := ⟨rfl, fun j u hu => by simp at hu⟩
  have HR := Lib.hid hR
  have HZC : Hid ((Value.agg #[.string ⟨#[]⟩, .int .i64 0, .int .i64 0, .slice none 0 0, .slice none 0 0]).cells.size = 5) := rfl
  have q22 : ∀ (w : World) (a : Option Addr) (n c n' c' : Nat), (binOp .eql 22 (.slice a n c) (.slice none n' c')).run Tryd.prog w = .ok (.bool a.isNone) w := fun w a n c n' c' => Lib.run_eql_slice_nil w _ _ a n c n' c' Tryd.underlying22
  clear hN hR hS
  go_enter Tryd.func85, Tryd.ntmps85
  go_wp2_with (at_builtin; refine wpList_appS rfl (.tmp 5) (.tmp 6) 22 rfl 35 i35 _ 5 80 Tryd.underlying22 hi35 hz35 hs35 hb35 HZC.out (by decide) rfl HR.out rfl HRd.out (fun u hu => by cases hu) (by unfold maxLen; omega) (by omega) ?_; intro B d w' hS2)
  go_ret
  exact ⟨B, d, rfl, hS2⟩
theorem cloneT_any {w w0 : World} {F : List HP} {d : Df} (h : DefAt w d) (hb : d.steps.length * 80 ≤ 140737488351232) (hS : Sat w0 w F) :
    Calls Tryd.prog 85 #[.slice d.A d.steps.length d.c] w fun e w' => ∃ (B : Option Addr) (c : Nat), e = .returned (.slice B d.steps.length c) ∧ Sat w0 w' (Row 35 5 B d.steps.length c (stepsC d.steps) :: F) := by
  obtain ⟨nm, L, A, c⟩ := d
  have hE : Elems w (.slice A L.length c) 5 (L.map St.vs) := h.steps
  show Calls Tryd.prog 85 #[.slice A L.length c] w fun e w' => ∃ (B : Option Addr) (c : Nat), e = .returned (.slice B L.length c) ∧ Sat w0 w' (Row 35 5 B L.length c (stepsC L) :: F)
  have hb' : L.length * 80 ≤ 140737488351232 := hb
  obtain ⟨i35, hi35, hz35, hs35, hb35⟩ := info_parts infoSt
  cases A with
  | none =>
    have h0 : L = [] := by
      obtain ⟨A', c', e, _, _, _, hx⟩ := hE
      injection e with e1 e2 e3
      rcases hx with hx | ⟨b, o, e4, _⟩
      · exact List.map_eq_nil_iff.1 hx
      · rw [e4] at e1; cases e1
    subst h0
    refine (AnyE.slices_Clone_nil lays85 0 c w).mono ?_
    rintro e w' ⟨rfl, rfl⟩
    exact ⟨none, 0, rfl, hS.nilRow 35 5⟩
  | some a =>
    by_cases h0 : L.length = 0
    · obtain rfl := List.eq_nil_of_length_eq_zero h0
      exact cloneT_zero a c hS
    · obtain ⟨b1, o1, hab, hc1⟩ := hE.at_.2.2 (by rw [List.length_map]; omega)
      obtain rfl : a = ⟨b1, o1, none⟩ := Option.some.inj hab
      have hlen := stepsC_len L
      refine (AnyE.slices_Clone lays85 i35 _ 5 80 hi35 hz35 hs35 hb35 (by rfl) (by decide) sizeOf35' b1 o1 L.length c (stepsC L) w hlen (by unfold maxLen; omega) (by omega) (fun j u hu => ?_) (stepsC_one L)).mono ?_
      · have hj : j < L.length * 5 := by rw [← hlen]; exact (List.getElem?_eq_some_iff.1 hu).1
        have hd : j = j / 5 * 5 + j % 5 := by omega
        have h1 := hc1 (j / 5) (by rw [List.length_map]; omega) (j % 5) (by omega)
        rw [hd, stepsC_get L (j / 5) (j % 5) (by omega) (by omega)] at hu
        rw [hd, ← Nat.add_assoc, h1, hu]
      · rintro e w' ⟨v, rfl, ho, _, hbw⟩
        obtain ⟨B, d, rfl⟩ := own_form ho
        exact ⟨B, d, rfl, hS.rowNew hbw ho⟩
theorem stepsC_put (L R : List St) (s : St) (A1 A2 : Option Addr) (c1 c2 : Nat) :
    ((stepsC (L ++ s :: R)).set (L.length * 5 + 3) (.slice A1 s.keys.length c1)).set (L.length * 5 + 4) (.slice A2 s.needs.length c2) = stepsC ((L ++ [⟨s.name, s.kind, s.part, s.keys, s.needs, A1, c1, A2, c2⟩]) ++ R) := by
  have hl := stepsC_len L
  have e : ∀ X : List St, stepsC (L ++ X) = stepsC L ++ stepsC X := fun X => by unfold stepsC; rw [List.flatMap_append]
  rw [List.append_assoc, e, e, List.set_append_right (h := by omega), List.set_append_right (h := by omega), hl]
  congr 1
  rw [show L.length * 5 + 3 - L.length * 5 = 3 by omega, show L.length * 5 + 4 - L.length * 5 = 4 by omega]
  unfold stepsC
  rw [List.flatMap_cons, List.singleton_append, List.flatMap_cons]
  rfl
theorem Sat.rowAt {w0 w : World} {L : List HP} {E sz n c g : Nat} {xs : List Value} (h : Sat w0 w (Row E sz (some ⟨g, 0, none⟩) n c xs :: L)) {j : Nat} {v : Value} (hv : xs[j]? = some v) : w.cell? ⟨g, j, none⟩ = some v ∧ w.frozen? ⟨g, j, none⟩ = false := by
  obtain ⟨g', e, hc, hf⟩ := h.rowCell (by rintro rfl; simp at hv)
  cases e
  exact ⟨by rw [hc j (List.getElem?_eq_some_iff.1 hv).1, hv], hf j⟩
theorem step_put {L R : List St} {s : St} {j : Nat} (hj : j < 5) : (stepsC (L ++ s :: R))[L.length * 5 + j]? = s.vs[j]? := by
  rw [stepsC_get _ _ _ (by simp) hj]
  have e : ((L ++ s :: R).map St.vs).getD L.length [] = s.vs := by
    rw [List.getD_eq_getElem?_getD, List.getElem?_map, List.getElem?_append_right (Nat.le_refl _), Nat.sub_self]
    rfl
  rw [e]
def CdRel (W : World) (b rb : Nat) (Z : List Value) (d : Df) (B : Option Addr) (n c : Nat) (x : Value) (wr : World) : Prop :=
  ∃ L : List St, L.length ≤ n ∧ x = .int .i64 (L.length : Nat) ∧ L.map St.core = (d.steps.take L.length).map St.core ∧
    Sat W wr [Row 35 5 B n c (stepsC (L ++ d.steps.drop L.length)), sep (L.map stP), Blk rb 24 Z, Blk b 24 [.string d.name, .slice B n c], Old W]
set_option maxHeartbeats 6400000 in
theorem rcopied_any {w : World} (d : Df) (hD : DefAt w d) (hz : Fits d) :
    Calls Tryd.prog 56 #[d.v] w fun e w' => ∃ D : Df, e = .returned D.v ∧ Like D d ∧ Sat w w' [OwnP D, Old w] := by
  have h1 := (Sat.start w).new #[.string d.name, .slice d.A d.steps.length d.c] 24
  have hs1 : (w.alloc (.cells #[.string d.name, .slice d.A d.steps.length d.c] 24)).heap.size = w.heap.size + 1 := by simp
  have h2 := h1.new #[.string ⟨#[]⟩, .slice none 0 0] 24
  obtain ⟨b, hb⟩ : ∃ b, w.heap.size = b := ⟨_, rfl⟩
  rw [hs1, hb] at h2
  have C85 : Hid (∀ w1 F, Below w.heap.size w w1 → Sat w w1 F → Calls Tryd.prog 85 #[.slice d.A d.steps.length d.c] w1 fun e w' => ∃ (B : Option Addr) (c : Nat), e = .returned (.slice B d.steps.length c) ∧ Sat w w' (Row 35 5 B d.steps.length c (stepsC d.steps) :: F)) := fun w1 F hb hS => cloneT_any (hD.keep hb) hz.steps hS
  have HD := Lib.hid hD
  have HZ := Lib.hid hz
  have H2 := Lib.hid h2
  obtain ⟨n, hN⟩ : ∃ n, d.steps.length = n := ⟨_, rfl⟩
  have HN := Lib.hid hN
  have hn : n * 80 ≤ 140737488351232 := by have := hz.steps; omega
  unfold Df.v
  rw [hN] at H2 C85 ⊢
  have a1 := H2.out.r2.blk.cell 1
  have g1 := H2.out.r2.blk.free 1
  clear h1 h2 hs1 hD hz hN
  go_enter Tryd.func56, Tryd.ntmps56
  go_wp2_with fail
  try simp only [hb]
  refine (C85.out _ _ (H2.out.old (by simp)) H2.out).mono ?_
  rintro e w1 ⟨B, c, rfl, h3⟩
  have a1 := h3.r3.blk.cell 1
  have g1 := h3.r3.blk.free 1
  have h4 := h3.r3.set 1 (.slice B n c)
  have H4 := Lib.hid h4
  have k1 := h4.blk.cell 1
  clear h3 h4 H2
  go_wp2_with fail
  have HST : Hid (Sat w (w1.setCell ⟨b, 1, none⟩ (.slice B n c)) [Row 35 5 B n c (stepsC ([] ++ d.steps.drop 0)), sep (([] : List St).map stP), Blk (b + 1) 24 [.string ⟨#[]⟩, .slice none 0 0], Blk b 24 [.string d.name, .slice B n c], Old w]) := by
    have h := H4.out.b3
    exact (Sat.close (M := []) h).b2
  clear H4 k1
  go_loopw [12] (CdRel w b (b + 1) [.string ⟨#[]⟩, .slice none 0 0] d B n c) (fun x _ => n - (intOf x).toNat)
  case atStart => exact ⟨[], Nat.zero_le _, rfl, rfl, HST.out⟩
  case round =>
    obtain ⟨L, hl, rfl, hL, hS⟩ := hrel
    clear HST
    have b1 : wr.cell? ⟨b, 1, none⟩ = some (.slice B n c) := hS.r4.blk.cell 1
    by_cases hlt : L.length < n
    · have hi : L.length < d.steps.length := by rw [HN.out]; exact hlt
      have hdr : d.steps.drop L.length = d.steps[L.length] :: d.steps.drop (L.length + 1) := List.drop_eq_getElem_cons hi
      have HTK : Hid ((d.steps.take (L.length + 1)).map St.core = (d.steps.take L.length).map St.core ++ [d.steps[L.length].core]) := by show _ = _; rw [List.take_succ_eq_append_getElem hi, List.map_append]; rfl
      have CK : Hid (∀ w1 F, Old w ∈ F → Sat w w1 F → Calls Tryd.prog 86 #[.slice d.steps[L.length].kA d.steps[L.length].keys.length d.steps[L.length].kc] w1 fun e w' => ∃ (B : Option Addr) (c : Nat), e = .returned (.slice B d.steps[L.length].keys.length c) ∧ Sat w w' (Row 9 1 B d.steps[L.length].keys.length c (strV d.steps[L.length].keys) :: F)) := fun w1 F hm hS =>
        cloneS_any _ ((HD.out.each _ (List.getElem_mem hi)).keep (hS.old hm)).keys (by have := HZ.out.keyn _ (List.getElem_mem hi); omega) hS
      have CN : Hid (∀ w1 F, Old w ∈ F → Sat w w1 F → Calls Tryd.prog 87 #[.slice d.steps[L.length].nA d.steps[L.length].needs.length d.steps[L.length].nc] w1 fun e w' => ∃ (B : Option Addr) (c : Nat), e = .returned (.slice B d.steps[L.length].needs.length c) ∧ Sat w w' (Row 3 1 B d.steps[L.length].needs.length c (intV d.steps[L.length].needs) :: F)) := fun w1 F hm hS =>
        cloneI_any _ ((HD.out.each _ (List.getElem_mem hi)).keep (hS.old hm)).needs (by have := HZ.out.needs _ (List.getElem_mem hi); omega) hS
      obtain ⟨s, hs⟩ : ∃ s, d.steps[L.length] = s := ⟨_, rfl⟩
      obtain ⟨R, hR⟩ : ∃ R, d.steps.drop (L.length + 1) = R := ⟨_, rfl⟩
      rw [hs] at hdr HTK CK CN
      rw [hR] at hdr
      rw [hdr] at hS
      have hx3 := step_put (L := L) (R := R) (s := s) (j := 3) (by decide)
      have hx4 := step_put (L := L) (R := R) (s := s) (j := 4) (by decide)
      obtain ⟨g, rfl, hq1, hq2⟩ := hS.rowCell (by intro e; rw [e] at hx3; simp [St.vs] at hx3)
      clear hq1 hq2
      have HPUT := Lib.hid (fun A1 c1 A2 c2 => stepsC_put L R s A1 A2 c1 c2)
      have HR := Lib.hid hR
      have HL := Lib.hid hL
      obtain ⟨xs, hxs⟩ : ∃ xs, stepsC (L ++ s :: R) = xs := ⟨_, rfl⟩
      rw [hxs] at hS hx3 hx4 HPUT
      obtain ⟨i, hii⟩ : ∃ i, L.length = i := ⟨_, rfl⟩
      have HI := Lib.hid hii
      rw [hii] at hx3 hx4 HPUT hlt HTK HL HR ⊢
      have hy3 : xs[i * 5 + 3]? = some (.slice s.kA s.keys.length s.kc) := hx3
      have hy4 : xs[i * 5 + 4]? = some (.slice s.nA s.needs.length s.nc) := hx4
      have HY3 := Lib.hid hy3
      have HY4 := Lib.hid hy4
      have HS := Lib.hid hS
      have c3 := (hS.rowAt hy3).1
      have c4 := (hS.rowAt hy4).1
      have hi5 : (i : Int) < n := by omega
      clear hS hL hs hR hxs hii hx3 hx4 hy3 hy4 hdr hi hl
      go_wp2_with fail
      go_region_with (first
        | (go_at_call 86; refine (CK.out _ _ (by simp) HS.out.drew).mono ?_; rintro e w5 ⟨B1, d1, rfl, h5⟩; have x3 := (h5.r2.rowAt HY3.out).1; have x4 := (h5.r2.rowAt HY4.out).1)
        | (go_at_call 87; refine (CN.out _ _ (by simp) h5).mono ?_; rintro e w6 ⟨B2, d2, rfl, h6⟩; have y3 := (h6.r3.rowAt HY3.out).1; have y4 := (h6.r3.rowAt HY4.out).1; have z3 := (h6.r3.rowAt HY3.out).2; have z4 := (h6.r3.rowAt HY4.out).2))
      all_goals
        have h7 := (h6.r3.rowSet (i * 5 + 3) (.slice B1 s.keys.length d1)).rowSet (i * 5 + 4) (.slice B2 s.needs.length d2)
        rw [HPUT.out] at h7
        have HF := Lib.hid h7.b3.r2.close2.r3.snocP.r2
        have HLN : Hid ((L ++ [(⟨s.name, s.kind, s.part, s.keys, s.needs, B1, d1, B2, d2⟩ : St)]).length = i + 1) := by show _ = _; rw [List.length_append, HI.out]; rfl
        clear h5 h6 h7 x3 x4 y3 y4 z3 z4 c3 c4
        go_wp2_with fail
        go_roundw
        case rel =>
          refine ⟨L ++ [⟨s.name, s.kind, s.part, s.keys, s.needs, B1, d1, B2, d2⟩], by rw [HLN.out]; omega, by rw [HLN.out]; rfl, ?_, ?_⟩
          · rw [HLN.out, List.map_append, HL.out, HTK.out]
            rfl
          · rw [HLN.out, HR.out, List.map_append]
            exact HF.out
        case measure => simp [intOf]; omega
    · have hln : L.length = n := by omega
      have hdr : d.steps.drop L.length = [] := List.drop_eq_nil_of_le (by rw [HN.out]; omega)
      rw [hdr, List.append_nil] at hS
      have o0 : wr.cell? ⟨b, 0, none⟩ = some (.string d.name) := hS.r4.blk.cell 0
      have z0 : wr.cell? ⟨b + 1, 0, none⟩ = some (.string ⟨#[]⟩) := hS.r3.blk.cell 0
      have z1 : wr.cell? ⟨b + 1, 1, none⟩ = some (.slice none 0 0) := hS.r3.blk.cell 1
      have f0 := hS.r3.blk.free 0
      have f1 := hS.r3.blk.free 1
      have hx := (hS.r3.set 0 (.string d.name)).set 1 (.slice B n c)
      have HX : Hid (Sat w _ [Blk (b + 1) 24 [.string d.name, .slice B n c], Row 35 5 B n c (stepsC L), sep (L.map stP), Blk b 24 [.string d.name, .slice B n c], Old w]) := hx
      have HL := Lib.hid hL
      have HLL := Lib.hid hln
      have hni : ¬ ((L.length : Nat) : Int) < (n : Int) := by omega
      clear hS hL hx hdr hln hl
      go_wp2_with fail
      refine bodyPost_ret (res24 (by rfl) HX.out (by rfl)) rfl ?_
      refine ⟨⟨d.name, L, B, c⟩, by rw [HLL.out], ⟨rfl, ?_⟩, ?_⟩
      · show L.map St.core = _
        rw [HL.out, List.take_of_length_le (by rw [HN.out, HLL.out]; omega)]
      · have h3 := HX.out.tail.r3.tail
        show Sat w _ (OwnP ⟨d.name, L, B, c⟩ :: [Old w])
        refine Sat.close2 ?_
        rw [HLL.out]
        exact h3
theorem rcopied_own {w0 w : World} {d : Df} {F : List HP} (hD : DefAt w d) (hz : Fits d) (hS : Sat w0 w F) : Calls Tryd.prog 56 #[d.v] w fun e w' => ∃ D : Df, e = .returned (likeV d D) ∧ Like D d ∧ Sat w0 w' (OwnP D :: F) :=
  (rcopied_any d hD hz).mono fun e w' ⟨D, he, hl, h⟩ => ⟨D, by rw [he, like_v hl], hl, hS.frame (X := [OwnP D]) h⟩
end Go.Proofs.YtpmoanjeoaeabaaDoor
