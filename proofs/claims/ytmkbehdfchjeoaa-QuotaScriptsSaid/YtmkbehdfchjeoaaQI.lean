/- The walk of the law QuotaScripts. -/
import Derived.Test.YtmkbehdfchjeoaaQH
namespace Go.Proofs.Ytmkbehdfchjeoaa
open Go.RowKit Go.ChangeShapes Go.WideShapes Go.ChangeAt
attribute [local go_sem] eqArr9
def pv (p0 p1 p2 p3 : Int) : List Value := [.int .i64 p0, .int .i64 p1, .int .i64 p2, .int .i64 p3]
/-- the quotas under trial: q in g1 and (the reference's) in g3, another one in g2; the array of the parts in pb -/
structure QSt (w : World) (pb g1 g2 g3 : Nat) (ps : List Value) (q b : QS) : Prop where
  a1 : At w g1 79 q.vs
  a2 : At w g2 79 b.vs
  a3 : At w g3 81 q.vs
  ap : At w pb 34 ps
theorem QSt.keep {w w' : World} {pb g1 g2 g3 : Nat} {ps : List Value} {q b : QS} (h : QSt w pb g1 g2 g3 ps q b) (hb : Below w.heap.size w w') : QSt w' pb g1 g2 g3 ps q b := ⟨h.a1.keep hb, h.a2.keep hb, h.a3.keep hb, h.ap.keep hb⟩
theorem QSt.alloc {w : World} {pb g1 g2 g3 : Nat} {ps : List Value} {q b : QS} (h : QSt w pb g1 g2 g3 ps q b) (o : Obj) : QSt (w.alloc o) pb g1 g2 g3 ps q b := h.keep ((Below.refl _ _).alloc (Nat.le_refl _) o)
set_option maxRecDepth 100000 in
set_option maxHeartbeats 3200000 in
theorem quotaScripts_walk (l o p0 p1 p2 p3 : Int) (A : Option Addr) (n c : Nat) (M : List QOp) (w : World) (w0 : Elems w (.slice A n c) 6 (M.map QOp.vs)) :
    Calls Try.prog 5 #[.agg #[.int .i64 l, .int .i64 o, .int .i64 p0, .int .i64 p1, .int .i64 p2, .int .i64 p3, .slice A n c]] w fun e w' => e = .returned (.bool true) ∧ Below w.heap.size w w' := by
  have HE := Lib.hid w0
  obtain ⟨hn, hml, hcells⟩ := w0.at_
  rw [List.length_map] at hn hml
  subst hn
  unfold maxLen at hml
  clear w0 hcells
  go_enter Try.func5, Try.ntmps5
  go_wp2_with fail
  obtain ⟨W1, hW1⟩ : ∃ W1, W1 = ((w.alloc (.cells #[.int .i64 l, .int .i64 o, .int .i64 p0, .int .i64 p1, .int .i64 p2, .int .i64 p3, .slice A M.length c] 48)).alloc (.cells #[.int .i64 p0, .int .i64 p1, .int .i64 p2, .int .i64 p3] 34)).drew := ⟨_, rfl⟩
  have HB1 : Hid (Below w.heap.size w W1) := by
    show Below _ _ _
    rw [hW1]; exact (((Below.refl _ w).alloc (Nat.le_refl _) _).alloc (by simp) _).drew
  have HP1 : Hid (At W1 (w.heap.size + 1) 34 [.int .i64 p0, .int .i64 p1, .int .i64 p2, .int .i64 p3]) := by
    show At _ _ _ _
    rw [hW1]
    have := At.new (w.alloc (.cells #[.int .i64 l, .int .i64 o, .int .i64 p0, .int .i64 p1, .int .i64 p2, .int .i64 p3, .slice A M.length c] 48)) 34 #[.int .i64 p0, .int .i64 p1, .int .i64 p2, .int .i64 p3]
    have e : (w.alloc (.cells #[.int .i64 l, .int .i64 o, .int .i64 p0, .int .i64 p1, .int .i64 p2, .int .i64 p3, .slice A M.length c] 48)).heap.size = w.heap.size + 1 := by simp
    rw [e] at this
    exact this
  have HW := Lib.hid hW1
  clear hW1
  go_region
  go_wp2_with fail
  rw [← HW.out]
  clear HW
  refine (new_any l o p0 p1 p2 p3 _).mono ?_
  rintro e w1 ⟨hb1, hpost⟩
  have HB2 : Hid (Below w.heap.size w w1) := below_step HB1.out hb1
  have HP2 := Lib.hid (HP1.out.keep hb1)
  have hpl := HP1.out.lt
  rcases hpost with ⟨hok, g1, rfl, hg1, hat1⟩ | ⟨hok, rfl⟩
  · rw [cells_beg] at hat1
    have HOK := Lib.hid hok
    have HA1 := Lib.hid hat1
    clear hok hat1 hb1
    have d0 := HP2.out.cell 0
    have d1 := HP2.out.cell 1
    have d2 := HP2.out.cell 2
    have d3 := HP2.out.cell 3
    go_wp2_with fail
    clear d0 d1 d2 d3
    refine (new_any l o p0 p1 p2 p3 _).mono ?_
    rintro e w2 ⟨hb2, ⟨_, g2, rfl, hg2, hat2⟩ | ⟨h, _⟩⟩
    · rw [cells_beg] at hat2
      have HB3 : Hid (Below w.heap.size w w2) := below_step HB2.out hb2
      have HP3 := Lib.hid (HP2.out.keep hb2)
      have HA2 := Lib.hid (HA1.out.keep hb2)
      have HO2 := Lib.hid hat2
      have hlt1 := HA1.out.lt
      clear hb2 hat2
      have d0 := HP3.out.cell 0
      have d1 := HP3.out.cell 1
      have d2 := HP3.out.cell 2
      have d3 := HP3.out.cell 3
      go_wp2_with fail
      clear d0 d1 d2 d3
      refine (rnew_any l o p0 p1 p2 p3 _).mono ?_
      rintro e w3 ⟨hb3, ⟨_, g3, rfl, hg3, hat3⟩ | ⟨h, _⟩⟩
      · rw [cells_beg] at hat3
        have hlt2 := HO2.out.lt
        have HB4 : Hid (Below w.heap.size w w3) := below_step HB3.out hb3
        have HS : Hid (QSt w3 (w.heap.size + 1) g1 g2 g3 [.int .i64 p0, .int .i64 p1, .int .i64 p2, .int .i64 p3] (begQ l o p0 p1 p2 p3) (begQ l o p0 p1 p2 p3)) := ⟨HA2.out.keep hb3, HO2.out.keep hb3, hat3, HP3.out.keep hb3⟩
        have hne12 : g1 ≠ g2 := by omega
        have hne13 : g1 ≠ g3 := by omega
        have hne23 : g2 ≠ g3 := by omega
        have hp1 : w.heap.size + 1 < g1 := by omega
        have hp2 : w.heap.size + 1 < g2 := by omega
        have hp3 : w.heap.size + 1 < g3 := by omega
        clear hb3 hat3 hg1 hg2 hg3 hlt1 hlt2 hpl HB1 HP1 HB2 HP2 HB3 HP3 HA1 HA2 HO2
        go_wp2_with fail
        go_loopw [13] (fun i wr => ∃ (k : Nat) (q : QS), k ≤ M.length ∧ i = .int .i64 k ∧ QOk q ∧ QSt wr (w.heap.size + 1) g1 g2 g3 [.int .i64 p0, .int .i64 p1, .int .i64 p2, .int .i64 p3] q (begQ l o p0 p1 p2 p3) ∧ Below w.heap.size w wr) (fun i _ => M.length - (intOf i).toNat)
        case atStart => exact ⟨0, _, Nat.zero_le _, rfl, ok_beg HOK.out, HS.out, HB4.out⟩
        case round =>
          obtain ⟨k, q, hk, rfl, hqok, hst, hbel⟩ := hrel
          have HQOK := Lib.hid hqok
          replace HS := Lib.hid hst
          have HB := Lib.hid hbel
          clear hqok hst hbel
          by_cases hlt : k < M.length
          · obtain ⟨b, of, rfl, hc⟩ := (HE.out.keep HB.out).at_.2.2 (by rw [List.length_map]; omega)
            have hc' := hc k (by rw [List.length_map]; exact hlt)
            have hx : (M.map QOp.vs).getD k [] = (M[k]).vs := by simp [List.getD, hlt]
            rw [hx] at hc'
            obtain ⟨⟨op, co, c0, c1, c2, c3⟩, hM⟩ : ∃ x, M[k] = x := ⟨_, rfl⟩
            rw [hM] at hc'
            have e0 := hc' 0 (by decide)
            have e1 := hc' 1 (by decide)
            have e2 := hc' 2 (by decide)
            have e3 := hc' 3 (by decide)
            have e4 := hc' 4 (by decide)
            have e5 := hc' 5 (by decide)
            simp only [QOp.vs] at e0 e1 e2 e3 e4 e5
            rw [Nat.add_zero] at e0
            clear hc hc' hx hM
            obtain ⟨Wr, hWr⟩ : ∃ Wr, Wr = wr.alloc (.cells #[.int .i64 op, .int .i64 co, .int .i64 c0, .int .i64 c1, .int .i64 c2, .int .i64 c3] 50) := ⟨_, rfl⟩
            have HS1 : Hid (QSt Wr (w.heap.size + 1) g1 g2 g3 [.int .i64 p0, .int .i64 p1, .int .i64 p2, .int .i64 p3] q (begQ l o p0 p1 p2 p3)) := by show QSt _ _ _ _ _ _ _ _; rw [hWr]; exact HS.out.alloc _
            have HBR : Hid (Below w.heap.size w Wr) := by show Below _ _ _; rw [hWr]; exact HB.out.alloc HB.out.size _
            have HO1 : Hid (At Wr wr.heap.size 50 [.int .i64 op, .int .i64 co, .int .i64 c0, .int .i64 c1, .int .i64 c2, .int .i64 c3]) := by show At _ _ _ _; rw [hWr]; exact At.new wr 50 _
            have hl1 := HS.out.a1.lt
            have hl2 := HS.out.a2.lt
            have hl3 := HS.out.a3.lt
            have HWR := Lib.hid hWr
            clear hWr
            by_cases hop : op = 0
            · have t0 : (op == 0) = true := by rw [beq_iff_eq]; exact hop
              clear hop
              go_wp2_with fail
              rw [← HWR.out]
              clear e0 e1 e2 e3 e4 e5 t0
              refine (admit_any g1 q ⟨co, c0, c1, c2, c3⟩ _ HS1.out.a1 HQOK).mono ?_
              rintro e w2 ⟨rfl, hat, hch⟩
              have HA2 := Lib.hid hat
              have HC2 := Lib.hid hch
              have HO2 := Lib.hid (hch.at_ HO1.out (by omega))
              have f1 := HO2.out.cell 1
              have f2 := HO2.out.cell 2
              have f3 := HO2.out.cell 3
              have f4 := HO2.out.cell 4
              have f5 := HO2.out.cell 5
              clear hat hch
              go_wp2_with fail
              clear f1 f2 f3 f4 f5
              refine (radmit_any g3 q ⟨co, c0, c1, c2, c3⟩ _ (HC2.out.at_ HS1.out.a3 (by omega)) HQOK).mono ?_
              rintro e w3 ⟨rfl, hat, hch⟩
              have HSN : Hid (QSt w3 (w.heap.size + 1) g1 g2 g3 [.int .i64 p0, .int .i64 p1, .int .i64 p2, .int .i64 p3] (nextA q ⟨co, c0, c1, c2, c3⟩) (begQ l o p0 p1 p2 p3)) :=
                ⟨hch.at_ HA2.out (by omega), hch.at_ (HC2.out.at_ HS1.out.a2 (by omega)) (by omega), hat, hch.at_ (HC2.out.at_ HS1.out.ap (by omega)) (by omega)⟩
              have HB2' := HC2.out.below (n := w.heap.size) (by omega) HBR.out.size
              have HBN : Hid (Below w.heap.size w w3) := (HBR.out.trans HB2').trans (hch.below (by omega) (HBR.out.trans HB2').size)
              have HQN : Hid (QOk (nextA q ⟨co, c0, c1, c2, c3⟩)) := ok_next _ HQOK.out
              clear hat hch HB2'
              generalize nextA q ⟨co, c0, c1, c2, c3⟩ = q2 at *
              generalize codeA q ⟨co, c0, c1, c2, c3⟩ = kk
              go_wp2_with fail
              refine (left_any g1 (q2) _ HSN.out.a1).mono ?_
              rintro e w4 ⟨rfl, hb4⟩
              have HS4 := Lib.hid (HSN.out.keep hb4)
              have HB4' : Hid (Below w.heap.size w w4) := below_step HBN.out hb4
              clear hb4
              go_wp2_with fail
              refine (rleft_any g3 (q2) _ ?_).mono ?_
              · exact (HS4.out.alloc _).a3
              rintro e w5 ⟨rfl, hb5⟩
              have HS5 := Lib.hid ((HS4.out.alloc _).keep hb5)
              have HB5 : Hid (Below w.heap.size w w5) := below_step (HB4'.out.alloc HB4'.out.size _) hb5
              have HD : Hid (At w5 w4.heap.size 42 [.int .i64 (q2).orch, .int .i64 (q2).p0, .int .i64 (q2).p1, .int .i64 (q2).p2, .int .i64 (q2).p3]) := (At.new w4 42 #[.int .i64 (q2).orch, .int .i64 (q2).p0, .int .i64 (q2).p1, .int .i64 (q2).p2, .int .i64 (q2).p3]).keep hb5
              have hdl := HD.out.lt
              have d0 := HD.out.cell 0
              have d1 := HD.out.cell 1
              have d2 := HD.out.cell 2
              have d3 := HD.out.cell 3
              have d4 := HD.out.cell 4
              clear hb5
              go_wp2_with fail
              clear d0 d1 d2 d3 d4
              go_roundw
              case rel => exact ⟨k + 1, q2, by omega, by go_num, HQN.out, HS5.out.alloc _, HB5.out.alloc HB5.out.size _⟩
              case measure => simp [intOf]; omega
            · have t0 : (op == 0) = false := by rw [beq_eq_false_iff_ne]; exact hop
              clear hop
              go_wp2_with fail
              rw [← HWR.out]
              clear e0 e1 e2 e3 e4 e5 t0
              refine (close_any g1 q _ HS1.out.a1 HQOK).mono ?_
              rintro e w2 ⟨rfl, hat, hch⟩
              have HA2 := Lib.hid hat
              have HC2 := Lib.hid hch
              clear hat hch
              go_wp2_with fail
              refine (rclose_any g3 q _ (HC2.out.at_ HS1.out.a3 (by omega)) HQOK).mono ?_
              rintro e w3 ⟨rfl, hat, hch⟩
              have HSN : Hid (QSt w3 (w.heap.size + 1) g1 g2 g3 [.int .i64 p0, .int .i64 p1, .int .i64 p2, .int .i64 p3] (nextC q) (begQ l o p0 p1 p2 p3)) :=
                ⟨hch.at_ HA2.out (by omega), hch.at_ (HC2.out.at_ HS1.out.a2 (by omega)) (by omega), hat, hch.at_ (HC2.out.at_ HS1.out.ap (by omega)) (by omega)⟩
              have HB2' := HC2.out.below (n := w.heap.size) (by omega) HBR.out.size
              have HBN : Hid (Below w.heap.size w w3) := (HBR.out.trans HB2').trans (hch.below (by omega) (HBR.out.trans HB2').size)
              have HQN : Hid (QOk (nextC q)) := ok_close HQOK.out
              clear hat hch HB2'
              generalize nextC q = q2 at *
              generalize codeC q = kk
              go_wp2_with fail
              refine (left_any g1 (q2) _ HSN.out.a1).mono ?_
              rintro e w4 ⟨rfl, hb4⟩
              have HS4 := Lib.hid (HSN.out.keep hb4)
              have HB4' : Hid (Below w.heap.size w w4) := below_step HBN.out hb4
              clear hb4
              go_wp2_with fail
              refine (rleft_any g3 (q2) _ ?_).mono ?_
              · exact (HS4.out.alloc _).a3
              rintro e w5 ⟨rfl, hb5⟩
              have HS5 := Lib.hid ((HS4.out.alloc _).keep hb5)
              have HB5 : Hid (Below w.heap.size w w5) := below_step (HB4'.out.alloc HB4'.out.size _) hb5
              have HD : Hid (At w5 w4.heap.size 42 [.int .i64 (q2).orch, .int .i64 (q2).p0, .int .i64 (q2).p1, .int .i64 (q2).p2, .int .i64 (q2).p3]) := (At.new w4 42 #[.int .i64 (q2).orch, .int .i64 (q2).p0, .int .i64 (q2).p1, .int .i64 (q2).p2, .int .i64 (q2).p3]).keep hb5
              have hdl := HD.out.lt
              have d0 := HD.out.cell 0
              have d1 := HD.out.cell 1
              have d2 := HD.out.cell 2
              have d3 := HD.out.cell 3
              have d4 := HD.out.cell 4
              clear hb5
              go_wp2_with fail
              clear d0 d1 d2 d3 d4
              go_roundw
              case rel => exact ⟨k + 1, q2, by omega, by go_num, HQN.out, HS5.out.alloc _, HB5.out.alloc HB5.out.size _⟩
              case measure => simp [intOf]; omega
          · go_wp2_with fail
            refine (left_any g2 (begQ l o p0 p1 p2 p3) _ HS.out.a2).mono ?_
            rintro e w4 ⟨rfl, hb4⟩
            have HS4 := Lib.hid (HS.out.keep hb4)
            have HB5 : Hid (Below w.heap.size w w4) := below_step HB.out hb4
            have hpl := HS4.out.ap.lt
            have d0 := HS4.out.ap.cell 0
            have d1 := HS4.out.ap.cell 1
            have d2 := HS4.out.ap.cell 2
            have d3 := HS4.out.ap.cell 3
            clear hb4
            simp only [begQ]
            go_wp2_with fail
            clear d0 d1 d2 d3
            refine (qlive_any _).mono ?_
            rintro e w5 ⟨rfl, hb5⟩
            have HB6 : Hid (Below w.heap.size w w5) := below_step (HB5.out.alloc HB5.out.size _) hb5
            clear hb5
            go_wp2
            go_ret
            exact ⟨rfl, HB6.out⟩
      · rw [HOK.out] at h; cases h
    · rw [HOK.out] at h; cases h
  · have HOK := Lib.hid hok
    clear hok hb1
    have d0 := HP2.out.cell 0
    have d1 := HP2.out.cell 1
    have d2 := HP2.out.cell 2
    have d3 := HP2.out.cell 3
    go_wp2_with fail
    clear d0 d1 d2 d3
    refine (new_any l o p0 p1 p2 p3 _).mono ?_
    rintro e w2 ⟨hb2, ⟨h, _⟩ | ⟨_, rfl⟩⟩
    · rw [HOK.out] at h; cases h
    · have HB3 : Hid (Below w.heap.size w w2) := below_step HB2.out hb2
      have HP3 := Lib.hid (HP2.out.keep hb2)
      clear hb2
      have d0 := HP3.out.cell 0
      have d1 := HP3.out.cell 1
      have d2 := HP3.out.cell 2
      have d3 := HP3.out.cell 3
      go_wp2_with fail
      clear d0 d1 d2 d3
      refine (rnew_any l o p0 p1 p2 p3 _).mono ?_
      rintro e w3 ⟨hb3, ⟨h, _⟩ | ⟨_, rfl⟩⟩
      · rw [HOK.out] at h; cases h
      · have HB4 : Hid (Below w.heap.size w w3) := below_step HB3.out hb3
        clear hb3
        go_wp2_with fail
        refine (qlive_any _).mono ?_
        rintro e w4 ⟨rfl, hb4⟩
        have HB5 : Hid (Below w.heap.size w w4) := below_step HB4.out hb4
        clear hb4
        go_wp2
        go_ret
        exact ⟨rfl, HB5.out⟩
end Go.Proofs.Ytmkbehdfchjeoaa
