/- The walk of CheckSound. -/
import Derived.Test.YtpmoanjeoaeabaaDoorDD
set_option linter.unusedVariables false
set_option linter.unusedSimpArgs false
set_option linter.unnecessarySimpa false
set_option maxRecDepth 100000
namespace Go.Proofs.YtpmoanjeoaeabaaDoor
open Go.RowKit Go.ChangeShapes Go.WideShapes Go.ChangeAt
set_option maxHeartbeats 12800000 in
theorem checkSound_any {w : World} (d : Df) (hD : DefAt w d) (hz : Sized d) (hT : Lib.Utf8Tabs 0 1 w) :
    Calls Tryd.prog 5 #[d.v] w fun e w' => e = .returned (.bool true) ∧ Below w.heap.size w w' := by
  have C12 : Hid (∀ w1, Below w.heap.size w w1 → Calls Tryd.prog 12 #[d.v] w1 fun e w' => e = .returned (.tuple #[.int .i64 (checkN d).1, .int .i64 (checkN d).2]) ∧ Below w1.heap.size w1 w') := fun w1 hb => check_any d (hD.keep hb) hz (tabs_keep hT hb)
  have C15 : Hid (∀ w1, Below w.heap.size w w1 → Calls Tryd.prog 15 #[] w1 fun e w' => e = .returned (.bool true) ∧ Below w1.heap.size w1 w') := fun w1 hb => live_any w1 (tabs_keep hT hb)
  have HCL : Hid ((checkN d).2 = 0 → Clean d) := fun h => (clean_of h).1
  have HLEN : Hid (∀ k, (needN d k).length ≤ 17592186043904) := fun k => by rw [needN_len]; exact needsAt_len hz k
  have HD := Lib.hid hD
  have h1 := (Sat.start w).new #[.string d.name, .slice d.A d.steps.length d.c] 24
  obtain ⟨b, hb⟩ : ∃ b, w.heap.size = b := ⟨_, rfl⟩
  rw [hb] at h1
  have H1 : Hid (Sat w _ [Blk b 24 (boxV d), Old w]) := h1
  have HVV : Hid (∀ (w' : World) (L : List HP), Sat w w' L → Old w ∈ L → Below w.heap.size w w') := fun w' L h m => h.old m
  have HBX : Hid (∀ (w1 : World) (L : List HP), Sat w w1 (Blk b 24 (boxV d) :: L) → w1.cell? ⟨b, 0, none⟩ = some (.string d.name) ∧ w1.cell? ⟨b, 1, none⟩ = some (.slice d.A d.steps.length d.c)) := fun w1 L h => ⟨h.blk.cell 0, h.blk.cell 1⟩
  have a0 := h1.blk.cell 0
  have a1 := h1.blk.cell 1
  unfold Df.v at C12 ⊢
  obtain ⟨n, hN⟩ : ∃ n, d.steps.length = n := ⟨_, rfl⟩
  have HNN := Lib.hid hN
  simp only [hN] at C12 HBX a0 a1 H1 ⊢
  obtain ⟨x, hx⟩ : ∃ x, (checkN d).1 = x := ⟨_, rfl⟩
  obtain ⟨y, hy⟩ : ∃ x, (checkN d).2 = x := ⟨_, rfl⟩
  rw [hx, hy] at C12
  rw [hy] at HCL
  clear h1 hD hz hN hT hx hy
  go_enter Tryd.func5, Tryd.ntmps5
  go_wp2_with fail
  try simp only [hb]
  refine (C12.out _ (HVV.out _ _ H1.out (by simp))).mono ?_
  rintro e w1 ⟨rfl, hb1⟩
  have H2 := Lib.hid (H1.out.below hb1)
  clear hb1 H1 a0 a1 C12
  by_cases hy : y = 0
  case neg =>
    have t0 : (y != 0) = true := by rw [bne_iff_ne]; exact hy
    clear hy
    go_wp2_with fail
    refine (C15.out _ (HVV.out _ _ H2.out (by simp))).mono ?_
    rintro e w2 ⟨rfl, hb2⟩
    have H3 := Lib.hid (HVV.out _ _ (H2.out.below hb2) (by simp))
    clear hb2 H2
    go_wp2_with fail
    go_ret
    exact ⟨rfl, by have h9 := H3.out; first | exact h9 | (rw [hb] at h9; exact h9)⟩
  have t0 : (y != 0) = false := by rw [hy]; rfl
  have HC := Lib.hid (HCL.out hy)
  have hn8 := HC.out.most
  rw [HNN.out] at hn8
  obtain ⟨g, o, hA, _⟩ := step_cells HD.out (by have := HC.out.pos; omega)
  have HAA := Lib.hid hA
  rw [hA] at HBX ⊢
  clear hy HCL hA
  go_wp2_with fail
  go_loopw [5, 6] (So1 w b d) (fun _ x _ => n - (intOf x).toNat)
  case atStart => exact ⟨0, Nat.zero_le _, rfl, rfl, H2.out⟩
  case round =>
    as_aux_lemma =>
      obtain ⟨i, hi, rfl, rfl, hT⟩ := hrel
      rw [HNN.out] at hi
      clear H2
      obtain ⟨a0, a1⟩ := HBX.out _ _ hT
      have h9 := HVV.out _ _ hT (by simp)
      by_cases hlt : i < n
      · have hlt' : i < d.steps.length := by rw [HNN.out]; exact hlt
        obtain ⟨g', o', hA', s0, s1, s2, s3, s4⟩ := step_at d (HD.out.keep h9) i hlt'
        rw [HAA.out] at hA'
        cases hA'
        rw [kind_at d i hlt'] at s1
        rw [name_at d i hlt'] at s0
        rw [(nA_at d i hlt').1, (nA_at d i hlt').2, needs_at d i hlt', ← needN_len] at s4
        obtain ⟨s, hs⟩ : ∃ x, d.steps[i] = x := ⟨_, rfl⟩
        rw [hs] at s2 s3
        have hB := hT.new #[.string (nameAt d i), .int .i64 (kindAt d i), .int .i64 s.part, .slice s.kA s.keys.length s.kc, .slice (nAat d i) (needN d i).length (ncat d i)] 35
        obtain ⟨sb, hsb⟩ : ∃ x, wr.heap.size = x := ⟨_, rfl⟩
        rw [hsb] at hB
        obtain ⟨kd, hkd⟩ : ∃ x, kindAt d i = x := ⟨_, rfl⟩
        have HKD := Lib.hid hkd
        rw [hkd] at s1 hB
        have e1 : (wr.alloc (.cells #[.string (nameAt d i), .int .i64 kd, .int .i64 s.part, .slice s.kA s.keys.length s.kc, .slice (nAat d i) (needN d i).length (ncat d i)] 35)).cell? ⟨sb, 1, none⟩ = some (.int .i64 kd) := hB.blk.cell 1
        have HPS : Hid (pivTo d (i + 1) = pivTo d i + if kd = 2 then 1 else 0) := by show _ = _; rw [← hkd]; rfl
        have hp1 := HC.out.pivs i (by omega)
        obtain ⟨P, hP⟩ : ∃ x, pivTo d i = x := ⟨_, rfl⟩
        rw [hP] at HPS hp1 ⊢
        obtain ⟨L, hL⟩ : ∃ L, L = Blk sb 35 [.string (nameAt d i), .int .i64 kd, .int .i64 s.part, .slice s.kA s.keys.length s.kc, .slice (nAat d i) (needN d i).length (ncat d i)] :: [Blk b 24 (boxV d), Old w] := ⟨_, rfl⟩
        have HL := Lib.hid hL
        have HB : Hid (Sat w (wr.alloc (.cells #[.string (nameAt d i), .int .i64 kd, .int .i64 s.part, .slice s.kA s.keys.length s.kc, .slice (nAat d i) (needN d i).length (ncat d i)] 35)) L) := by rw [hL]; exact hB
        have HOP : Hid (∀ w', Sat w w' L → Sat w w' (Blk sb 35 [.string (nameAt d i), .int .i64 kd, .int .i64 s.part, .slice s.kA s.keys.length s.kc, .slice (nAat d i) (needN d i).length (ncat d i)] :: [Blk b 24 (boxV d), Old w])) := fun w' h => by rw [hL] at h; exact h
        clear hT h9 hs hB hkd hP hL
        by_cases h2 : kd = 2
        · have t2 : (kd == 2) = true := by rw [beq_iff_eq]; exact h2
          rw [if_pos h2] at HPS
          have sw : IntKind.i64.wrap ((P : Int) + 1) = (P : Int) + 1 := IntWalk.i64_in _ (by omega)
          have H2 := Lib.hid h2
          clear h2
          go_upto_region 11 with fail
          clear s0 s1 s2 s3 s4 e1 sw t2
          try simp only [hsb]
          as_aux_lemma =>
            obtain ⟨W1, hW1⟩ : ∃ x, x = (wr.alloc (.cells #[.string (nameAt d i), .int .i64 kd, .int .i64 s.part, .slice s.kA s.keys.length s.kc, .slice (nAat d i) (needN d i).length (ncat d i)] 35)) := ⟨_, rfl⟩
            rw [← hW1] at HB ⊢
            clear hW1
            go_wp2_with fail
            go_loopw [8] (So2 w L i) (fun x _ => i - (intOf x).toNat)
            case atStart => exact ⟨0, Nat.zero_le _, rfl, HB.out⟩
            case round =>
              as_aux_lemma =>
                obtain ⟨k, hk, rfl, hU⟩ := hrel
                clear HB
                have hU3 := HOP.out _ hU
                have h9 := HVV.out _ _ hU3 (by simp)
                by_cases hki : k < i
                · have hk' : k < d.steps.length := by rw [HNN.out]; omega
                  obtain ⟨g', o', hA', x0, x1, x2, x3, x4⟩ := step_at d (HD.out.keep h9) k hk'
                  clear x1 x2 x3 x4
                  rw [HAA.out] at hA'
                  cases hA'
                  rw [name_at d k hk'] at x0
                  have hne := HC.out.names (by rw [HNN.out]; exact hlt) hki
                  have ts := str_no hne
                  have a1 := (HBX.out _ _ hU3.r2).2
                  have z0 : wr.cell? ⟨sb, 0, none⟩ = some (.string (nameAt d i)) := hU3.blk.cell 0
                  obtain ⟨nk, hnk⟩ : ∃ x, nameAt d k = x := ⟨_, rfl⟩
                  obtain ⟨ni, hni⟩ : ∃ x, nameAt d i = x := ⟨_, rfl⟩
                  rw [hnk] at x0 ts
                  rw [hni] at z0 ts
                  have hkn : k < n := by omega
                  have HU := Lib.hid hU
                  clear hU hU3 h9 hne hnk hni hk'
                  go_wp2_with fail
                  go_quiet (fail)
                  go_wp2_with fail
                  go_roundw
                  case rel => exact ⟨k + 1, by omega, by go_num, HU.out.drewN _⟩
                  case measure => simp [intOf]; omega
                · have HU := Lib.hid hU
                  have z4 : wr.cell? ⟨sb, 4, none⟩ = some (.slice (nAat d i) (needN d i).length (ncat d i)) := hU3.blk.cell 4
                  have hln : (needN d i).length ≤ 17592186043904 := by have := HLEN.out i; omega
                  clear hU hU3 h9 hk
                  go_wp2_with fail
                  go_loopw [9] (So2 w L (needN d i).length) (fun x _ => (needN d i).length - (intOf x).toNat)
                  case atStart => exact ⟨0, Nat.zero_le _, rfl, HU.out⟩
                  case round =>
                    as_aux_lemma =>
                      obtain ⟨j, hj, rfl, hU⟩ := hrel
                      clear HU z4
                      have hU3 := HOP.out _ hU
                      have h9 := HVV.out _ _ hU3 (by simp)
                      have z4 : wr.cell? ⟨sb, 4, none⟩ = some (.slice (nAat d i) (needN d i).length (ncat d i)) := hU3.blk.cell 4
                      by_cases hjl : j < (needN d i).length
                      · have hi' : i < d.steps.length := by rw [HNN.out]; exact hlt
                        have hj' : j < (needsAt d i).length := by rw [← needN_len]; exact hjl
                        obtain ⟨nb, no, hnA, x0⟩ := need_cell d (HD.out.keep h9) i hi' j hj'
                        obtain ⟨e1, e2⟩ := need_nat HC.out.need hi' hj'
                        have hmem : (needsAt d i).getD j 0 ∈ needsAt d i := by rw [← List.getElem_eq_getD (h := hj')]; exact List.getElem_mem hj'
                        have hkk := fun h3 => HC.out.kinds hi' hmem h3
                        rw [e1] at x0 hkk
                        rw [hnA] at z4
                        clear hnA
                        obtain ⟨m, hm⟩ : ∃ x, (needN d i).getD j 0 = x := ⟨_, rfl⟩
                        rw [hm] at x0 hkk e2
                        rw [HKD.out] at hkk
                        obtain ⟨g', o', hA', y0, y1, y2, y3, y4⟩ := step_at d (HD.out.keep h9) m e2
                        clear y0 y2 y3 y4
                        rw [HAA.out] at hA'
                        cases hA'
                        rw [kind_at d m e2] at y1
                        have a1 := (HBX.out _ _ hU3.r2).2
                        have z1 : wr.cell? ⟨sb, 1, none⟩ = some (.int .i64 kd) := hU3.blk.cell 1
                        have HU := Lib.hid hU
                        have hmn : m < n := by rw [← HNN.out]; exact e2
                        have i0 : (0 : Int) ≤ (m : Int) := by omega
                        have i1 : (m : Int) < (n : Int) := by omega
                        have u0 : decide ((m : Int) < 0) = false := decide_eq_false (by omega)
                        have u1 : decide ((n : Int) ≤ (m : Int)) = false := decide_eq_false (by omega)
                        clear hU hU3 h9 hmem hi' hj' e1 hm e2
                        by_cases h3 : kd = 3
                        · have t3 : (kd != 3) = false := by rw [h3]; rfl
                          clear h3 hkk
                          go_wp2_with fail
                          go_roundw
                          case rel => exact ⟨j + 1, by omega, by go_num, HU.out⟩
                          case measure => simp [intOf]; omega
                        · have t3 : (kd != 3) = true := by rw [bne_iff_ne]; exact h3
                          have hk1 : kindAt d m = 1 := hkk h3
                          rw [hk1] at y1
                          clear h3 hkk hk1
                          go_wp2_with fail
                          go_roundw
                          case rel => exact ⟨j + 1, by omega, by go_num, HU.out⟩
                          case measure => simp [intOf]; omega
                      · have HU := Lib.hid hU3.tail
                        clear hU hU3 h9 hj
                        go_wp2_with fail
                        go_roundw
                        case rel => exact ⟨i + 1, by rw [HNN.out]; omega, by go_num, by rw [HPS.out]; first | done | rfl, HU.out⟩
                        case measure => simp [intOf]; omega
        · have t2 : (kd == 2) = false := by rw [beq_eq_false_iff_ne]; exact h2
          rw [if_neg h2, Nat.add_zero] at HPS
          have H2 := Lib.hid h2
          clear h2
          go_upto_region 11 with fail
          clear s0 s1 s2 s3 s4 e1 t2
          try simp only [hsb]
          as_aux_lemma =>
            obtain ⟨W1, hW1⟩ : ∃ x, x = (wr.alloc (.cells #[.string (nameAt d i), .int .i64 kd, .int .i64 s.part, .slice s.kA s.keys.length s.kc, .slice (nAat d i) (needN d i).length (ncat d i)] 35)) := ⟨_, rfl⟩
            rw [← hW1] at HB ⊢
            clear hW1
            go_wp2_with fail
            go_loopw [8] (So2 w L i) (fun x _ => i - (intOf x).toNat)
            case atStart => exact ⟨0, Nat.zero_le _, rfl, HB.out⟩
            case round =>
              as_aux_lemma =>
                obtain ⟨k, hk, rfl, hU⟩ := hrel
                clear HB
                have hU3 := HOP.out _ hU
                have h9 := HVV.out _ _ hU3 (by simp)
                by_cases hki : k < i
                · have hk' : k < d.steps.length := by rw [HNN.out]; omega
                  obtain ⟨g', o', hA', x0, x1, x2, x3, x4⟩ := step_at d (HD.out.keep h9) k hk'
                  clear x1 x2 x3 x4
                  rw [HAA.out] at hA'
                  cases hA'
                  rw [name_at d k hk'] at x0
                  have hne := HC.out.names (by rw [HNN.out]; exact hlt) hki
                  have ts := str_no hne
                  have a1 := (HBX.out _ _ hU3.r2).2
                  have z0 : wr.cell? ⟨sb, 0, none⟩ = some (.string (nameAt d i)) := hU3.blk.cell 0
                  obtain ⟨nk, hnk⟩ : ∃ x, nameAt d k = x := ⟨_, rfl⟩
                  obtain ⟨ni, hni⟩ : ∃ x, nameAt d i = x := ⟨_, rfl⟩
                  rw [hnk] at x0 ts
                  rw [hni] at z0 ts
                  have hkn : k < n := by omega
                  have HU := Lib.hid hU
                  clear hU hU3 h9 hne hnk hni hk'
                  go_wp2_with fail
                  go_quiet (fail)
                  go_wp2_with fail
                  go_roundw
                  case rel => exact ⟨k + 1, by omega, by go_num, HU.out.drewN _⟩
                  case measure => simp [intOf]; omega
                · have HU := Lib.hid hU
                  have z4 : wr.cell? ⟨sb, 4, none⟩ = some (.slice (nAat d i) (needN d i).length (ncat d i)) := hU3.blk.cell 4
                  have hln : (needN d i).length ≤ 17592186043904 := by have := HLEN.out i; omega
                  clear hU hU3 h9 hk
                  go_wp2_with fail
                  go_loopw [9] (So2 w L (needN d i).length) (fun x _ => (needN d i).length - (intOf x).toNat)
                  case atStart => exact ⟨0, Nat.zero_le _, rfl, HU.out⟩
                  case round =>
                    as_aux_lemma =>
                      obtain ⟨j, hj, rfl, hU⟩ := hrel
                      clear HU z4
                      have hU3 := HOP.out _ hU
                      have h9 := HVV.out _ _ hU3 (by simp)
                      have z4 : wr.cell? ⟨sb, 4, none⟩ = some (.slice (nAat d i) (needN d i).length (ncat d i)) := hU3.blk.cell 4
                      by_cases hjl : j < (needN d i).length
                      · have hi' : i < d.steps.length := by rw [HNN.out]; exact hlt
                        have hj' : j < (needsAt d i).length := by rw [← needN_len]; exact hjl
                        obtain ⟨nb, no, hnA, x0⟩ := need_cell d (HD.out.keep h9) i hi' j hj'
                        obtain ⟨e1, e2⟩ := need_nat HC.out.need hi' hj'
                        have hmem : (needsAt d i).getD j 0 ∈ needsAt d i := by rw [← List.getElem_eq_getD (h := hj')]; exact List.getElem_mem hj'
                        have hkk := fun h3 => HC.out.kinds hi' hmem h3
                        rw [e1] at x0 hkk
                        rw [hnA] at z4
                        clear hnA
                        obtain ⟨m, hm⟩ : ∃ x, (needN d i).getD j 0 = x := ⟨_, rfl⟩
                        rw [hm] at x0 hkk e2
                        rw [HKD.out] at hkk
                        obtain ⟨g', o', hA', y0, y1, y2, y3, y4⟩ := step_at d (HD.out.keep h9) m e2
                        clear y0 y2 y3 y4
                        rw [HAA.out] at hA'
                        cases hA'
                        rw [kind_at d m e2] at y1
                        have a1 := (HBX.out _ _ hU3.r2).2
                        have z1 : wr.cell? ⟨sb, 1, none⟩ = some (.int .i64 kd) := hU3.blk.cell 1
                        have HU := Lib.hid hU
                        have hmn : m < n := by rw [← HNN.out]; exact e2
                        have i0 : (0 : Int) ≤ (m : Int) := by omega
                        have i1 : (m : Int) < (n : Int) := by omega
                        have u0 : decide ((m : Int) < 0) = false := decide_eq_false (by omega)
                        have u1 : decide ((n : Int) ≤ (m : Int)) = false := decide_eq_false (by omega)
                        clear hU hU3 h9 hmem hi' hj' e1 hm e2
                        by_cases h3 : kd = 3
                        · have t3 : (kd != 3) = false := by rw [h3]; rfl
                          clear h3 hkk
                          go_wp2_with fail
                          go_roundw
                          case rel => exact ⟨j + 1, by omega, by go_num, HU.out⟩
                          case measure => simp [intOf]; omega
                        · have t3 : (kd != 3) = true := by rw [bne_iff_ne]; exact h3
                          have hk1 : kindAt d m = 1 := hkk h3
                          rw [hk1] at y1
                          clear h3 hkk hk1
                          go_wp2_with fail
                          go_roundw
                          case rel => exact ⟨j + 1, by omega, by go_num, HU.out⟩
                          case measure => simp [intOf]; omega
                      · have HU := Lib.hid hU3.tail
                        clear hU hU3 h9 hj
                        go_wp2_with fail
                        go_roundw
                        case rel => exact ⟨i + 1, by rw [HNN.out]; omega, by go_num, by rw [HPS.out]; first | done | rfl, HU.out⟩
                        case measure => simp [intOf]; omega
      · have hin : i = n := by omega
        have hpn := HC.out.pivs n (by rw [HNN.out]; exact Nat.le_refl n)
        rw [hin]
        have HT := Lib.hid hT
        obtain ⟨P, hP⟩ : ∃ x, pivTo d n = x := ⟨_, rfl⟩
        rw [hP] at hpn ⊢
        have hmk := make4 n (by omega)
        have hM := hT.new (madeCells #[.bool false] n) 4
        rw [made_bv] at hM
        obtain ⟨mb, hmb⟩ : ∃ x, wr.heap.size = x := ⟨_, rfl⟩
        rw [hmb] at hM
        have HM : Hid (Sat w (wr.alloc (.cells (madeCells #[.bool false] n) 4)) (Blk mb 4 (bv (goRounds (needN d) n (List.replicate n false) 0)) :: [Blk b 24 (boxV d), Old w])) := hM
        have m1 : (wr.alloc (.cells (madeCells #[.bool false] n) 4)).cell? ⟨b, 1, none⟩ = some (.slice (some ⟨g, o, none⟩) n d.c) := (HBX.out _ _ hM.r2).2
        have HGL : Hid (∀ r, (goRounds (needN d) n (List.replicate n false) r).length = n) := fun r => by rw [goRounds_len, List.length_replicate]
        have HGN : Hid (∀ x, x < n → metB (goRounds (needN d) n (List.replicate n false) n) x = true) := by show ∀ x, _; have := HC.out.gone; rw [HNN.out] at this; exact this
        clear hT h9 hP hM hlt hi hin
        go_wp2_with fail
        try simp only [hmb]
        have HLEN2 := Lib.hid HLEN.out
        as_aux_lemma =>
          go_loopw [12] (So4 w [Blk b 24 (boxV d), Old w] mb (needN d) n) (fun x _ => n - (intOf x).toNat)
          case atStart => exact ⟨0, Nat.zero_le _, rfl, HM.out⟩
          case round =>
            as_aux_lemma =>
              obtain ⟨r, hr, rfl, hU⟩ := hrel
              clear HM m1
              have a1 := (HBX.out _ _ hU.r2).2
              by_cases hrn : r < n
              · have HU := Lib.hid hU
                have HSL := Lib.hid (HGL.out r)
                have HNX : Hid (goRounds (needN d) n (List.replicate n false) (r + 1) = goTo (needN d) (goRounds (needN d) n (List.replicate n false) r) n) := rfl
                obtain ⟨S, hS⟩ : ∃ S, goRounds (needN d) n (List.replicate n false) r = S := ⟨_, rfl⟩
                rw [hS] at HU HSL HNX
                clear hU hS
                go_wp2_with fail
                go_loopw [13] (So5 w [Blk b 24 (boxV d), Old w] mb (needN d) n S) (fun x _ => n - (intOf x).toNat)
                case atStart => exact ⟨0, Nat.zero_le _, rfl, HU.out⟩
                case round =>
                  as_aux_lemma =>
                    obtain ⟨k, hk, rfl, hU⟩ := hrel
                    clear HU a1
                    have a1 := (HBX.out _ _ hU.r2).2
                    by_cases hkn : k < n
                    · have HU := Lib.hid hU
                      have HML : Hid ((goTo (needN d) S k).length = n) := by show _ = _; rw [goTo_len]; exact HSL.out
                      have HNY : Hid (goTo (needN d) S (k + 1) = (goTo (needN d) S k).set k (metB (goTo (needN d) S k) k || goneB (goTo (needN d) S k) (needN d k))) := rfl
                      obtain ⟨M, hM⟩ : ∃ M, goTo (needN d) S k = M := ⟨_, rfl⟩
                      rw [hM] at HU HML HNY
                      clear hU hM
                      go_wp2_with fail
                      go_loopw [14, 15] (So6 w [Blk b 24 (boxV d), Old w] mb M (needN d k)) (fun _ x _ => (needN d k).length - (intOf x).toNat)
                      case atStart => exact ⟨0, Nat.zero_le _, rfl, rfl, HU.out⟩
                      case round =>
                        as_aux_lemma =>
                          obtain ⟨j, hj, rfl, rfl, hU⟩ := hrel
                          clear HU a1
                          have a1 := (HBX.out _ _ hU.r2).2
                          have h9 := HVV.out _ _ hU (by simp)
                          have hk' : k < d.steps.length := by rw [HNN.out]; exact hkn
                          obtain ⟨g', o', hA', s0, s1, s2, s3, s4⟩ := step_at d (HD.out.keep h9) k hk'
                          rw [HAA.out] at hA'
                          cases hA'
                          clear s0 s1 s2 s3
                          rw [(nA_at d k hk').1, (nA_at d k hk').2, needs_at d k hk', ← needN_len] at s4
                          have hln : (needN d k).length ≤ 17592186043904 := by have := HLEN2.out k; omega
                          have i0 : (0 : Int) ≤ (k : Int) := by omega
                          have i1 : (k : Int) < (n : Int) := by omega
                          by_cases hjl : j < (needN d k).length
                          · have hj' : j < (needsAt d k).length := by rw [← needN_len]; exact hjl
                            obtain ⟨nb, no, hnA, x0⟩ := need_cell d (HD.out.keep h9) k hk' j hj'
                            obtain ⟨e1, e2⟩ := need_nat HC.out.need hk' hj'
                            rw [e1] at x0
                            rw [hnA] at s4
                            clear hnA
                            have hgt := goneB_take M (needN d k) j hjl
                            obtain ⟨m, hm⟩ : ∃ x, (needN d k).getD j 0 = x := ⟨_, rfl⟩
                            rw [hm] at x0 e2 hgt
                            have hmn : m < n := by rw [← HNN.out]; exact e2
                            have m0 := hU.blk.cell m
                            rw [bv_get _ _ (by rw [HML.out]; exact hmn)] at m0
                            have i2 : (0 : Int) ≤ (m : Int) := by omega
                            have i3 : (m : Int) < (n : Int) := by omega
                            have HU := Lib.hid hU
                            have HGT := Lib.hid hgt
                            obtain ⟨mv, hmv⟩ : ∃ x, metB M m = x := ⟨_, rfl⟩
                            rw [hmv] at m0 HGT
                            obtain ⟨fv, hfv⟩ : ∃ x, goneB M ((needN d k).take j) = x := ⟨_, rfl⟩
                            rw [hfv] at HGT ⊢
                            clear hU h9 hk' hj' e1 hm e2 hgt hmv hfv
                            cases fv with
                            | true =>
                              go_wp2_with fail
                              go_roundw
                              case rel => exact ⟨j + 1, by omega, by go_num, by rw [HGT.out]; first | done | rfl | simp, HU.out⟩
                              case measure => simp [intOf]; omega
                            | false =>
                              go_wp2_with fail
                              go_roundw
                              case rel => exact ⟨j + 1, by omega, by go_num, by rw [HGT.out]; first | done | rfl | simp, HU.out⟩
                              case measure => simp [intOf]; omega
                          · have hjl2 : j = (needN d k).length := by omega
                            have m0 := hU.blk.cell k
                            rw [bv_get _ _ (by rw [HML.out]; exact hkn)] at m0
                            have mf := hU.blk.free k
                            rw [hjl2, List.take_length]
                            have hX := hU.set k (.bool (metB M k || goneB M (needN d k)))
                            rw [bv_setB, ← HNY.out] at hX
                            have HX := Lib.hid hX
                            obtain ⟨mv, hmv⟩ : ∃ x, metB M k = x := ⟨_, rfl⟩
                            obtain ⟨fv, hfv⟩ : ∃ x, goneB M (needN d k) = x := ⟨_, rfl⟩
                            rw [hmv] at m0 HX
                            rw [hfv] at HX ⊢
                            clear hU h9 hk' hmv hfv hX hjl2 hj hjl
                            cases mv with
                            | true =>
                              rw [Bool.true_or] at HX
                              go_wp2_with fail
                              go_roundw
                              case rel => exact ⟨k + 1, by omega, by go_num, HX.out⟩
                              case measure => simp [intOf]; omega
                            | false =>
                              rw [Bool.false_or] at HX
                              go_wp2_with fail
                              go_roundw
                              case rel => exact ⟨k + 1, by omega, by go_num, HX.out⟩
                              case measure => simp [intOf]; omega
                    · have hkn2 : k = n := by omega
                      rw [hkn2, ← HNX.out] at hU
                      have HU := Lib.hid hU
                      clear hU hkn2 hk
                      go_wp2_with fail
                      go_roundw
                      case rel => exact ⟨r + 1, by omega, by go_num, HU.out⟩
                      case measure => simp [intOf]; omega
              · have hrn2 : r = n := by omega
                rw [hrn2] at hU
                have HU := Lib.hid hU
                have HGS := Lib.hid (HGL.out n)
                obtain ⟨S, hS⟩ : ∃ S, goRounds (needN d) n (List.replicate n false) n = S := ⟨_, rfl⟩
                rw [hS] at HU HGN HGS
                clear hU hrn2 hr hS
                go_wp2_with fail
                go_loopw [16] (So2 w (Blk mb 4 (bv S) :: [Blk b 24 (boxV d), Old w]) n) (fun x _ => n - (intOf x).toNat)
                case atStart => exact ⟨0, Nat.zero_le _, rfl, HU.out⟩
                case round =>
                  as_aux_lemma =>
                    obtain ⟨k, hk, rfl, hU⟩ := hrel
                    clear HU a1
                    have a1 := (HBX.out _ _ hU.r2).2
                    by_cases hkn : k < n
                    · have m0 := hU.blk.cell k
                      rw [bv_get _ _ (by rw [HGS.out]; exact hkn), HGN.out k hkn] at m0
                      have HU := Lib.hid hU
                      clear hU
                      go_wp2_with fail
                      go_roundw
                      case rel => exact ⟨k + 1, by omega, by go_num, HU.out⟩
                      case measure => simp [intOf]; omega
                    · have HU := Lib.hid hU
                      have tp : decide ((P : Int) ≤ 1) = true := decide_eq_true (by omega)
                      clear hU hk
                      go_wp2_with fail
                      refine (C15.out _ (HVV.out _ _ HU.out (by simp))).mono ?_
                      rintro e w2 ⟨rfl, hb2⟩
                      have H3 := Lib.hid (HVV.out _ _ (HU.out.below hb2) (by simp))
                      clear hb2 HU
                      go_wp2_with fail
                      go_ret
                      exact ⟨rfl, by have h9 := H3.out; first | exact h9 | (rw [hb] at h9; exact h9)⟩
end Go.Proofs.YtpmoanjeoaeabaaDoor
