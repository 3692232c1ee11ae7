/- The walk of the law QuotaSums. -/
import Derived.Test.YtmkbehdfchjeoaaQL
import Derived.Deep.CutBlock
set_option linter.unusedVariables false
set_option linter.unusedSimpArgs false
set_option linter.unnecessarySimpa false
namespace Go.Proofs.Ytmkbehdfchjeoaa
open Go.RowKit Go.ChangeShapes Go.WideShapes Go.ChangeAt
attribute [local go_sem] eqArr9
set_option maxRecDepth 100000
set_option maxHeartbeats 6400000
theorem quotaSums_walk (l o p0 p1 p2 p3 : Int) (A : Option Addr) (n c : Nat) (M : List QOp) (w : World) (w0 : Elems w (.slice A n c) 6 (M.map QOp.vs)) :
    Calls Try.prog 6 #[.agg #[.int .i64 l, .int .i64 o, .int .i64 p0, .int .i64 p1, .int .i64 p2, .int .i64 p3, .slice A n c]] w fun e w' => e = .returned (.bool true) ∧ Below w.heap.size w w' := by
  have HE := Lib.hid w0
  obtain ⟨hn, hml, hcells⟩ := w0.at_
  rw [List.length_map] at hn hml
  subst hn
  unfold maxLen at hml
  clear w0 hcells
  obtain ⟨pb, hpb⟩ : ∃ pb, pb = w.heap.size + 1 := ⟨_, rfl⟩
  obtain ⟨W1, hW1⟩ : ∃ W1, W1 = ((w.alloc (.cells #[.int .i64 l, .int .i64 o, .int .i64 p0, .int .i64 p1, .int .i64 p2, .int .i64 p3, .slice A M.length c] 48)).alloc (.cells #[.int .i64 p0, .int .i64 p1, .int .i64 p2, .int .i64 p3] 34)).drew := ⟨_, rfl⟩
  have hS : Sat w W1 [Blk pb 34 (partsV p0 p1 p2 p3), Old w] := by
    rw [hW1, hpb]
    have := (((Sat.start w).new #[.int .i64 l, .int .i64 o, .int .i64 p0, .int .i64 p1, .int .i64 p2, .int .i64 p3, .slice A M.length c] 48).tail.new #[.int .i64 p0, .int .i64 p1, .int .i64 p2, .int .i64 p3] 34).drew
    rw [show (w.alloc (.cells #[.int .i64 l, .int .i64 o, .int .i64 p0, .int .i64 p1, .int .i64 p2, .int .i64 p3, .slice A M.length c] 48)).heap.size = w.heap.size + 1 by simp] at this
    exact this
  have hcell : ∀ i, W1.cell? ⟨pb, i, none⟩ = (partsV p0 p1 p2 p3)[i]? := hS.blk.cell
  have HW := Lib.hid hW1
  have HPB := Lib.hid hpb
  clear hW1 hpb
  go_enter Try.func6, Try.ntmps6
  go_wp2_with fail
  go_region
  go_wp2_with fail
  rw [← HW.out, ← HPB.out]
  clear HW HPB hcell
  refine (new_any l o p0 p1 p2 p3 _).mono ?_
  rintro e w1 ⟨hb1, hpost⟩
  have hS1 := hS.below hb1
  rcases hpost with ⟨hok, g1, rfl, hg1, hat1⟩ | ⟨hok, rfl⟩
  · rw [cells_beg] at hat1
    have hS2 := hS.blkNew hb1 hg1 hat1
    have HOK := Lib.hid hok
    clear hok hat1 hb1 hg1 hS hS1
    go_wp2_with fail
    have hS3 := (hS2.new #[.int .i64 0, .int .i64 0, .int .i64 0, .int .i64 0, .int .i64 0] 42).r2
    rw [show (#[.int .i64 0, .int .i64 0, .int .i64 0, .int .i64 0, .int .i64 0] : Array Value).toList = usedV o p0 p1 p2 p3 (begQ l o p0 p1 p2 p3) by simp [usedV, begQ]] at hS3
    obtain ⟨ub, hub⟩ : ∃ ub, ub = w1.heap.size := ⟨_, rfl⟩
    rw [← hub] at hS3 ⊢
    clear hub hS2
    go_loopw [10, 11] (SumsRel w l o p0 p1 p2 p3 g1 ub pb M.length) (fun _ i _ => M.length - (intOf i).toNat)
    case atStart => exact ⟨0, _, Nat.zero_le _, rfl, rfl, inv_beg HOK.out, hS3⟩
    case round =>
      obtain ⟨k, q, hk, rfl, rfl, hinv, hU⟩ := hrel
      have HI := Lib.hid hinv
      clear hinv hS3 HOK
      by_cases hlt : k < M.length
      · obtain ⟨b, of, rfl, hc⟩ := (HE.out.keep (hU.old (by simp))).at_.2.2 (by rw [List.length_map]; omega)
        have hc' := hc k (by rw [List.length_map]; exact hlt)
        have hx : (M.map QOp.vs).getD k [] = (M[k]).vs := by simp [List.getD, hlt]
        rw [hx] at hc'
        obtain ⟨⟨op, co, c0, c1, c2, c3⟩, hM⟩ : ∃ x, M[k] = x := ⟨_, rfl⟩
        rw [hM] at hc'
        have e0 := hc' 0 (by decide)
        have e1 := hc' 1 (by decide)
        have e2 := hc' 2 (by decide)
        have e3 := hc' 3 (by decide)
        have e4 := hc' 4 (by decide)
        have e5 := hc' 5 (by decide)
        simp only [QOp.vs] at e0 e1 e2 e3 e4 e5
        rw [Nat.add_zero] at e0
        clear hc hc' hx hM
        go_wp2_with fail
        clear e0 e1 e2 e3 e4 e5
        have hU1 : Sat w _ (Blk wr.heap.size 50 (opV op co c0 c1 c2 c3) :: _) := hU.new #[.int .i64 op, .int .i64 co, .int .i64 c0, .int .i64 c1, .int .i64 c2, .int .i64 c3] 50
        obtain ⟨ob, hob⟩ : ∃ ob, ob = wr.heap.size := ⟨_, rfl⟩
        rw [← hob] at hU1 ⊢
        clear hob
        refine (left_any g1 q _ hU1.r2.blk).mono ?_
        rintro e wb ⟨rfl, hbb⟩
        have hU2 := hU1.below hbb
        clear hU1 hbb hU
        have hQO : QOk q := HI.out.1
        have HQO := Lib.hid hQO
        have hlive : q.live ≤ 12 ∧ 0 ≤ q.live := by unfold QOk at hQO; omega
        obtain ⟨hlv1, hlv2⟩ := hlive
        have e0 := hU2.blk.cell 0
        have hol := hU2.blk.lt
        unfold opV at e0
        clear hQO
        go_upto_if 59 with fail
        clear e0 hol
        have hU3 : Sat w _ (Blk wb.heap.size 42 (leftV q) :: _) := hU2.new #[.int .i64 q.orch, .int .i64 q.p0, .int .i64 q.p1, .int .i64 q.p2, .int .i64 q.p3] 42
        clear hU2
        generalize wb.alloc (.cells #[.int .i64 q.orch, .int .i64 q.p0, .int .i64 q.p1, .int .i64 q.p2, .int .i64 q.p3] 42) = wc at *
        obtain ⟨fb, hfb⟩ : ∃ fb, fb = wb.heap.size := ⟨_, rfl⟩
        rw [← hfb] at hU3 ⊢
        clear hfb
        go_cut [8, 10] (MidRel w l o p0 p1 p2 p3 g1 ub pb fb q)
        case first =>
          as_aux_lemma =>
            clear HE
            by_cases hop : op = 0
            · have t0 : (op == 0) = true := by rw [beq_iff_eq]; exact hop
              clear hop
              have e1 := hU3.r2.blk.cell 1
              have e2 := hU3.r2.blk.cell 2
              have e3 := hU3.r2.blk.cell 3
              have e4 := hU3.r2.blk.cell 4
              have e5 := hU3.r2.blk.cell 5
              unfold opV at e1 e2 e3 e4 e5
              go_wp2_with fail
              clear t0 e1 e2 e3 e4 e5
              refine (admit_any g1 q ⟨co, c0, c1, c2, c3⟩ _ hU3.r3.blk HQO.out).mono ?_
              rintro e w3 ⟨rfl, hat, hch⟩
              have hU4 := hU3.r3.chg hch hat
              have HI2 : Hid (Inv l o p0 p1 p2 p3 (nextA q ⟨co, c0, c1, c2, c3⟩)) := inv_next _ HI.out
              clear hat hch hU3
              by_cases hcode : codeA q ⟨co, c0, c1, c2, c3⟩ = 0
              · have HN : Hid (nextA q ⟨co, c0, c1, c2, c3⟩ = less q ⟨co, c0, c1, c2, c3⟩) := by show _ = _; unfold nextA; rw [if_pos hcode]
                have HCO := Lib.hid hcode
                obtain ⟨so1, so2, so3⟩ := add_orch HI.out hcode
                rw [hcode]
                rw [HN.out] at hU4 HI2
                clear hcode HN
                have sw : IntKind.i64.wrap (o - q.orch + co) = o - (q.orch - co) := by rw [IntWalk.i64_in _ (by omega)]; exact so1
                have u0 := hU4.r4.blk.cell 0
                have uf := hU4.r4.blk.free 0
                have v1 := hU4.r3.blk.cell 1
                unfold usedV at u0
                unfold opV at v1
                have swl : IntKind.i64.wrap (q.live + 1) = q.live + 1 := IntWalk.i64_in _ (by omega)
                go_wp2_with fail
                clear u0 uf v1
                have hU5 := hU4.r4.set 0 (.int .i64 (o - (q.orch - co)))
                rw [mix_zero o p0 p1 p2 p3 q _ (four (p0 - (q.p0 - c0)) (p1 - (q.p1 - c1)) (p2 - (q.p2 - c2)) (p3 - (q.p3 - c3)))] at hU5
                have hU6 := hU5.r4.r2
                clear hU4 hU5
                go_loopw [15] (AddRel w p0 p1 p2 p3 g1 ub pb (o - (q.orch - co)) (four (p0 - q.p0) (p1 - q.p1) (p2 - q.p2) (p3 - q.p3)) (four (p0 - (q.p0 - c0)) (p1 - (q.p1 - c1)) (p2 - (q.p2 - c2)) (p3 - (q.p3 - c3))) (less q ⟨co, c0, c1, c2, c3⟩) fb ob (leftV q) (opV op co c0 c1 c2 c3)) (fun i _ => 4 - (intOf i).toNat)
                case atStart => exact ⟨0, by omega, rfl, hU6⟩
                case round =>
                  obtain ⟨z, hz, rfl, hT⟩ := hrel
                  clear hU6
                  by_cases hz4 : z < 4
                  · have u := hT.blk.cell (1 + z)
                    rw [mix_get _ _ _ z hz4] at u
                    have uf := hT.blk.free (1 + z)
                    have v := hT.r2.blk.cell (2 + z)
                    rw [op_get _ _ _ _ _ _ z hz4] at v
                    obtain ⟨a1, a2, a3⟩ := add_four HI.out HCO.out z hz4
                    have hT2 := hT.set (1 + z) (.int .i64 (four (p0 - (q.p0 - c0)) (p1 - (q.p1 - c1)) (p2 - (q.p2 - c2)) (p3 - (q.p3 - c3)) z))
                    rw [mix_set _ _ _ z hz4] at hT2
                    obtain ⟨x, hx⟩ : ∃ x, four (p0 - q.p0) (p1 - q.p1) (p2 - q.p2) (p3 - q.p3) z = x := ⟨_, rfl⟩
                    obtain ⟨y, hy⟩ : ∃ x, four c0 c1 c2 c3 z = x := ⟨_, rfl⟩
                    obtain ⟨r, hr⟩ : ∃ x, four (p0 - (q.p0 - c0)) (p1 - (q.p1 - c1)) (p2 - (q.p2 - c2)) (p3 - (q.p3 - c3)) z = x := ⟨_, rfl⟩
                    rw [hx] at u a1
                    rw [hy] at v a1
                    rw [hr] at a1 a2 a3 hT2
                    have sw : IntKind.i64.wrap (x + y) = r := by rw [IntWalk.i64_in _ (by omega)]; exact a1
                    clear hx hy hr hT
                    go_wp2_with fail
                    go_region
                    all_goals
                      go_wp2_with fail
                      go_roundw
                      case rel => exact ⟨z + 1, by omega, by go_num, by first | exact hT2.drew | exact hT2.drewN _ | exact hT2⟩
                      case measure => simp [intOf]; omega
                  · have hz5 : z = 4 := by omega
                    subst hz5
                    rw [mix_four] at hT
                    have HLV : Hid ((less q ⟨co, c0, c1, c2, c3⟩).live = q.live + 1) := rfl
                    have hT2 := hT.r3.r3.tail
                    clear hT hz hz4
                    go_wp2_with fail
                    go_meet
                    exact ⟨0, less q ⟨co, c0, c1, c2, c3⟩, rfl, by first | rfl | exact sint_eq HLV.out.symm, .inl rfl, HI2.out, by first | exact hT2 | exact hT2.r2⟩
              · have HN : Hid (nextA q ⟨co, c0, c1, c2, c3⟩ = q) := by show _ = _; unfold nextA; rw [if_neg hcode]
                rw [HN.out] at hU4 HI2
                have hU5 := hU4.r3.tail.r3.r2
                obtain ⟨kk, hkk⟩ : ∃ kk, codeA q ⟨co, c0, c1, c2, c3⟩ = kk := ⟨_, rfl⟩
                rw [hkk] at hcode ⊢
                have t1 : (kk == 0) = false := by rw [beq_eq_false_iff_ne]; exact hcode
                clear hkk hcode hU4
                go_wp2_with fail
                go_meet
                exact ⟨_, q, rfl, rfl, .inr rfl, HI2.out, hU5⟩
            · have t0 : (op == 0) = false := by rw [beq_eq_false_iff_ne]; exact hop
              clear hop
              have e0 := hU3.r2.blk.cell 0
              unfold opV at e0
              go_wp2_with fail
              clear t0 e0
              refine (close_any g1 q _ hU3.r3.blk HQO.out).mono ?_
              rintro e w3 ⟨rfl, hat, hch⟩
              have hU4 := hU3.r3.chg hch hat
              have HI2 : Hid (Inv l o p0 p1 p2 p3 (nextC q)) := inv_close HI.out
              have hU5 := hU4.r3.tail.r3.r2
              clear hat hch hU3 hU4
              by_cases hcode : q.live = 0
              · have HN : Hid (nextC q = q ∧ codeC q = 1) := by show _ ∧ _; simp [nextC, codeC, hcode]
                rw [HN.out.2]
                rw [HN.out.1] at hU5 HI2
                clear hcode
                go_wp2_with fail
                go_meet
                exact ⟨1, q, rfl, rfl, .inr rfl, HI2.out, hU5⟩
              · have HN : Hid (nextC q = { q with live := q.live - 1 } ∧ codeC q = 0) := by show _ ∧ _; simp [nextC, codeC, hcode]
                rw [HN.out.2]
                rw [HN.out.1] at hU5 HI2
                have HLV : Hid (({ q with live := q.live - 1 } : QS).live = q.live - 1) := rfl
                have swl : IntKind.i64.wrap (q.live - 1) = q.live - 1 := IntWalk.i64_in _ (by omega)
                clear HN hcode
                go_wp2_with fail
                go_meet
                exact ⟨0, { q with live := q.live - 1 }, rfl, by first | rfl | exact sint_eq HLV.out.symm, .inl rfl, HI2.out, hU5⟩
        case rest =>
          as_aux_lemma =>
            obtain ⟨kk, q2, rfl, rfl, hkk, hr1, hR⟩ := hcut
            have HI2 := Lib.hid hr1
            have HKK := Lib.hid hkk
            clear hr1 hkk hU3 HE HQO
            go_wp2_with fail
            refine (left_any g1 q2 _ hR.blk).mono ?_
            rintro e w4 ⟨rfl, hb4⟩
            have hR2 := hR.below hb4
            clear hb4 hR
            go_upto_region 25 with fail
            have hR3 : Sat w _ (Blk w4.heap.size 42 (leftV q2) :: _) := hR2.new #[.int .i64 q2.orch, .int .i64 q2.p0, .int .i64 q2.p1, .int .i64 q2.p2, .int .i64 q2.p3] 42
            clear hR2
            generalize w4.alloc (.cells #[.int .i64 q2.orch, .int .i64 q2.p0, .int .i64 q2.p1, .int .i64 q2.p2, .int .i64 q2.p3] 42) = w5 at *
            obtain ⟨xb, hxb⟩ : ∃ xb, xb = w4.heap.size := ⟨_, rfl⟩
            rw [← hxb] at hR3 ⊢
            clear hxb
            have hq2 := HI2.out
            unfold Inv QOk at hq2
            obtain ⟨⟨m1, m2, l1, l2, o1, o2, a0, a1, b0, b1, c0', c1', d0', d1'⟩, hml3, oo, x0, x1, x2, x3, y0, y1, y2, y3, y4⟩ := hq2
            go_cut [128] (fun x wx => x = Value.bool false ∧ wx = w5)
            case first =>
              have hml2 : q2.live ≤ l := by omega
              have nl1 : decide (q2.live < 0) = false := decide_eq_false (by omega)
              have nl2 : decide (l < q2.live) = false := decide_eq_false (by omega)
              clear hml2
              by_cases hk0 : kk = 0
              · have tk : (kk != 0) = false := by rw [bne_eq_false_iff_eq]; exact hk0
                clear hk0
                go_wp2_with fail
                go_meet
                first | exact ⟨rfl, rfl⟩ | (simp [nl1, nl2])
              · have tk : (kk != 0) = true := by rw [bne_iff_ne]; exact hk0
                have hq0 : q2 = q := HKK.out.resolve_left hk0
                clear hk0 HKK
                subst hq0
                have d0 := hR3.r4.blk.cell 0
                have d1 := hR3.r4.blk.cell 1
                have d2 := hR3.r4.blk.cell 2
                have d3 := hR3.r4.blk.cell 3
                have d4 := hR3.r4.blk.cell 4
                have f0 := hR3.blk.cell 0
                have f1 := hR3.blk.cell 1
                have f2 := hR3.blk.cell 2
                have f3 := hR3.blk.cell 3
                have f4 := hR3.blk.cell 4
                unfold leftV at d0 d1 d2 d3 d4 f0 f1 f2 f3 f4
                go_wp2_with fail
                go_meet
                first | exact ⟨rfl, rfl⟩ | (simp [nl1, nl2])
            case rest =>
              obtain ⟨rfl, rfl⟩ := hcut
              have tor : (q2.orch + (o - q2.orch) != o) = false := by rw [bne_eq_false_iff_eq]; omega
              have so : q2.orch + (o - q2.orch) = o := by omega
              have swo : IntKind.i64.wrap (q2.orch + (o - q2.orch)) = o := by rw [so]; exact IntWalk.i64_in _ (by omega)
              have ngo : decide (q2.orch < 0) = false := decide_eq_false (by omega)
              have f0 := hR3.blk.cell 0
              have u0 := hR3.r3.blk.cell 0
              unfold leftV at f0
              unfold usedV at u0
              go_wp2_with fail
              clear f0 u0 tor so
              go_loopw [18] (ChkRel w o p0 p1 p2 p3 g1 ub pb q2 xb fb (leftV q)) (fun i _ => 4 - (intOf i).toNat)
              case atStart => exact ⟨0, by omega, rfl, hR3⟩
              case round =>
                obtain ⟨z, hz, rfl, hT⟩ := hrel
                clear hR3
                by_cases hz4 : z < 4
                · have d := hT.blk.cell (1 + z)
                  rw [left_get _ z hz4] at d
                  have u := hT.r3.blk.cell (1 + z)
                  rw [used_get _ _ _ _ _ _ z hz4] at u
                  have v := hT.r5.blk.cell z
                  rw [parts_get _ _ _ _ z hz4] at v
                  obtain ⟨g1', g2', g3', g4'⟩ := inv_four HI2.out z hz4
                  obtain ⟨x, hx⟩ : ∃ x, four q2.p0 q2.p1 q2.p2 q2.p3 z = x := ⟨_, rfl⟩
                  obtain ⟨y, hy⟩ : ∃ x, four (p0 - q2.p0) (p1 - q2.p1) (p2 - q2.p2) (p3 - q2.p3) z = x := ⟨_, rfl⟩
                  obtain ⟨r, hr⟩ : ∃ x, four p0 p1 p2 p3 z = x := ⟨_, rfl⟩
                  rw [hx] at d g1' g3'
                  rw [hy] at u g3' g4'
                  rw [hr] at v g2' g3'
                  have sw : IntKind.i64.wrap (x + y) = r := by rw [IntWalk.i64_in _ (by omega)]; exact g3'
                  have ng : decide (x < 0) = false := decide_eq_false (by omega)
                  have rr : (r != r) = false := by simp
                  clear hx hy hr
                  go_wp2_with fail
                  go_quiet (fail)
                  go_wp2_with fail
                  go_roundw
                  case rel => exact ⟨z + 1, by omega, by go_num, by first | exact hT.drewN _ | exact hT⟩
                  case measure => simp [intOf]; omega
                · have hT2 := hT.tail.r3.tail
                  clear hz
                  go_wp2_with fail
                  go_roundw
                  case rel => exact ⟨k + 1, q2, by omega, by go_num, rfl, HI2.out, by first | exact hT2 | exact hT2.drewN _⟩
                  case measure => simp [intOf]; omega
      · go_wp2_with fail
        refine (qlive_any _).mono ?_
        rintro e w5 ⟨rfl, hb5⟩
        have hU2 := hU.below hb5
        clear hb5
        go_wp2_with fail
        go_ret
        exact ⟨rfl, hU2.old (by simp)⟩
  · clear hok hb1
    go_wp2_with fail
    refine (qlive_any _).mono ?_
    rintro e w4 ⟨rfl, hb4⟩
    have hS2 := hS1.below hb4
    clear hb4
    go_wp2_with fail
    go_ret
    exact ⟨rfl, hS2.old (by simp)⟩
end Go.Proofs.Ytmkbehdfchjeoaa
