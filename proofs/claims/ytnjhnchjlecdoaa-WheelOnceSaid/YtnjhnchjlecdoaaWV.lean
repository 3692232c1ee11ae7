/- The law WheelOnce: the walk. -/
import Derived.Test.YtnjhnchjlecdoaaWU
import Derived.Deep.RegionHeld3
set_option linter.unusedVariables false
set_option linter.unusedSimpArgs false
set_option linter.unnecessarySimpa false
set_option maxRecDepth 100000
namespace Go.Proofs.Ytnjhnchjlecdoaa
open Go.RowKit Go.ChangeShapes Go.WideShapes Go.ChangeAt
/-- the array while it is filled -/
def begT (k : Nat) : List Int := List.replicate k (-1) ++ List.replicate (20 - k) 0
theorem begT_next (k : Nat) (h : k < 20) : (begT k).set k (-1) = begT (k + 1) := by
  have : ∀ k : Fin 20, (begT k.1).set k.1 (-1) = begT (k.1 + 1) := by decide
  exact this ⟨k, h⟩
theorem begT_all : begT 20 = noneT := by decide
theorem nums_set (T : List Int) (k : Nat) (v : Int) : (nums T).set k (.int .i64 v) = nums (T.set k v) := by
  unfold nums
  rw [List.map_set]
theorem time_cell {w0 w : World} {b : Nat} {T : List Int} {F : List HP} (h : Sat w0 w (Blk b 44 (nums T) :: F)) (j : Nat) (hj : j < T.length) : w.cell? ⟨b, j, none⟩ = some (.int .i64 (timeOf T j)) := by
  rw [h.blk.cell j]
  unfold nums timeOf
  rw [List.getElem?_map, List.getD_eq_getElem?_getD, List.getElem?_eq_getElem hj]
  rfl
theorem time_frozen {w0 w : World} {b : Nat} {T : List Int} {F : List HP} (h : Sat w0 w (Blk b 44 (nums T) :: F)) (j : Nat) : w.frozen? ⟨b, j, none⟩ = false := h.blk.free j
theorem Sat.setT {w0 w : World} {b : Nat} {T : List Int} {F : List HP} (h : Sat w0 w (Blk b 44 (nums T) :: F)) (j : Nat) (v : Int) : Sat w0 (w.setCell ⟨b, j, none⟩ (.int .i64 v)) (Blk b 44 (nums (T.set j v)) :: F) := by
  have := h.set j (.int .i64 v)
  rw [nums_set] at this
  exact this
def O1Rel (w0 : World) (b g : Nat) (i : Value) (wr : World) : Prop := ∃ k : Nat, k ≤ 20 ∧ i = .int .i64 k ∧ Sat w0 wr [Blk b 44 (nums (begT k)), WheelC g 48 50 begL, Old w0]
def O2Rel (w0 : World) (b g n : Nat) (i : Value) (wr : World) : Prop := ∃ (k : Nat) (L : List Tm) (T : List Int), k ≤ n ∧ i = .int .i64 k ∧ Once L T ∧ Sat w0 wr [Blk b 44 (nums T), WheelC g 48 50 L, Old w0]
def O3Rel (w0 : World) (b g : Nat) (L : List Tm) (now : Int) (A : Option Addr) (c : Nat) (last i : Value) (wr : World) : Prop :=
  ∃ (k : Nat) (T : List Int) (la : Int), k ≤ dueN L now ∧ i = .int .i64 k ∧ last = .int .i64 la ∧ Mid L now k T la ∧ Sat w0 wr [Blk b 44 (nums T), Row 3 1 A (dueN L now) c (ids (L.take (dueN L now))), WheelC g 48 50 (L.drop (dueN L now)), Old w0]
def O4Rel (w0 : World) (F : List HP) (i : Value) (wr : World) : Prop := ∃ k : Nat, k ≤ 20 ∧ i = .int .i64 k ∧ Sat w0 wr F
set_option maxHeartbeats 6400000 in
theorem wheelOnce_walk (A : Option Addr) (n c : Nat) (l : List TOp) (w : World) (w0 : OpsAt w A n c l) (_ : n * 24 ≤ 140737488351232) :
    Calls Try.prog 6 #[.slice A n c] w fun e w' => e = .returned (.bool true) ∧ Below w.heap.size w w' := by
  obtain ⟨hn, hml, _⟩ := w0.1.at_
  rw [List.length_map] at hn hml
  subst hn
  unfold maxLen at hml
  have HE := Lib.hid w0.1
  have HW := Lib.hid w0.2
  clear w0
  go_enter Try.func6, Try.ntmps6
  go_wp2_with fail
  refine (begun_any (Sat.start w)).mono ?_
  rintro e w1 ⟨g, rfl, h1⟩
  go_wp2_with fail
  have h2 := h1.new (Array.replicate 20 (.int .i64 0)) 44
  obtain ⟨b, hb⟩ : ∃ b, w1.heap.size = b := ⟨_, rfl⟩
  rw [hb] at h2 ⊢
  have H2 : Hid (Sat w (w1.alloc (.cells (Array.replicate 20 (.int .i64 0)) 44)) [Blk b 44 (nums (begT 0)), WheelC g 48 50 begL, Old w]) := by
    have e : (Array.replicate 20 (Value.int .i64 0)).toList = nums (begT 0) := rfl
    rw [e] at h2
    exact h2
  clear hb h1 h2
  go_loopw [5] (O1Rel w b g) (fun i _ => 20 - (intOf i).toNat)
  case atStart => exact ⟨0, by omega, rfl, H2.out⟩
  case round =>
    obtain ⟨k, hk, rfl, hT⟩ := hrel
    clear H2
    by_cases hlt : k < 20
    · have hfr := time_frozen hT k
      have hc := time_cell hT k (by simp [begT]; omega)
      have HT := Lib.hid hT
      clear hT
      go_wp2_with fail
      have h3 := HT.out.setT k (-1)
      rw [begT_next k hlt] at h3
      have H3 := Lib.hid h3
      clear h3 HT
      go_roundw
      case rel => exact ⟨k + 1, by omega, by go_num, H3.out⟩
      case measure => simp [intOf]; omega
    · obtain rfl : k = 20 := by omega
      rw [begT_all] at hT
      have HT := Lib.hid hT
      clear hT
      go_wp2_with fail
      go_loopw [6] (O2Rel w b g l.length) (fun i _ => l.length - (intOf i).toNat)
      case atStart => exact ⟨0, begL, noneT, Nat.zero_le _, rfl, once_beg, HT.out⟩
      case round =>
        obtain ⟨k, L, T, hk, rfl, hO, hT⟩ := hrel
        clear HT
        by_cases hlt : k < l.length
        · obtain ⟨ba, of, rfl⟩ := op_addr HE.out (by omega)
          obtain ⟨e0, e1, e2⟩ := op_cells HE.out (hT.old (by simp)) k hlt
          obtain ⟨hw0, hw1, hw2⟩ := HW.out _ (List.getElem_mem hlt)
          obtain ⟨⟨act, id, at_⟩, hM⟩ : ∃ x, l[k] = x := ⟨_, rfl⟩
          rw [hM] at e0 e1 e2 hw0 hw1 hw2
          simp only at e0 e1 e2 hw0 hw1 hw2
          clear hM
          have HP0 := Lib.hid (fun w1 => pick_any id 20 w1 hw1 (by decide) (by decide))
          have HP1 := Lib.hid (fun w1 => pick_any at_ 1000 w1 hw2 (by decide) (by decide))
          have HP2 := Lib.hid (fun w1 => pick_any act 3 w1 hw0 (by decide) (by decide))
          have hj := pickN_lt id 20 (by decide)
          have ht := pickN_lt at_ 1000 (by decide)
          have hd := pickN_lt act 3 (by decide)
          obtain ⟨j, hjj⟩ : ∃ j, pickN id 20 = j := ⟨_, rfl⟩
          obtain ⟨t, htt⟩ : ∃ j, pickN at_ 1000 = j := ⟨_, rfl⟩
          obtain ⟨d, hdd⟩ : ∃ j, pickN act 3 = j := ⟨_, rfl⟩
          rw [hjj] at HP0 hj
          rw [htt] at HP1 ht
          rw [hdd] at HP2 hd
          have HO := Lib.hid hO
          have HS := Lib.hid hT
          clear hjj htt hdd hw0 hw1 hw2 hO hT
          go_wp2_with fail
          refine (HP0.out _).mono ?_
          rintro e v2 ⟨rfl, rfl⟩
          go_wp2_with fail
          refine (HP1.out _).mono ?_
          rintro e v3 ⟨rfl, rfl⟩
          go_wp2_with fail
          refine (HP2.out _).mono ?_
          rintro e v4 ⟨rfl, rfl⟩
          clear HP0 HP1 HP2 e0 e1 e2
          have hl20 := HO.out.len
          have hd3 : d = 0 ∨ d = 1 ∨ d = 2 := by omega
          clear hd
          rcases hd3 with rfl | rfl | rfl
          · obtain ⟨hc0, hON⟩ := HO.out.put hj ht
            have HA := Lib.hid (wset_any (j : Int) (t : Int) HS.out.r2 HO.out.small.fine.len)
            rw [hc0] at HA
            have HON := Lib.hid hON
            clear hc0 hON
            go_wp2_with fail
            refine HA.out.mono ?_
            rintro e v5 ⟨rfl, h5⟩
            have hc := time_cell h5.r2 j (by omega)
            have hfr := time_frozen h5.r2 j
            have H6 := Lib.hid (h5.r2.setT j (t : Int))
            clear h5 HA
            go_wp2_with fail
            go_roundw
            case rel => first | exact ⟨k + 1, _, _, by omega, by go_num, HON.out, H6.out⟩ | ((repeat apply Exists.intro); refine ⟨?_, rfl⟩; exact ⟨k + 1, _, _, by omega, by go_num, HON.out, H6.out⟩)
            case measure => simp [intOf]; omega
          · obtain ⟨hc0, hON⟩ := HO.out.stop hj
            have HA := Lib.hid (fun (w1 : World) (G : List HP) (h : Sat w w1 (WheelC g 48 50 L :: G)) => wstop_any (j : Int) h (by have := HO.out.small.len; omega))
            rw [hc0] at HA
            have HON := Lib.hid hON
            have x1 := time_cell HS.out j (by omega)
            have HX := Lib.hid (fun (w1 : World) (G : List HP) (h : Sat w w1 (Blk b 44 (nums T) :: G)) => time_cell h j (by omega))
            obtain ⟨tj, htj⟩ : ∃ tj, timeOf T j = tj := ⟨_, rfl⟩
            rw [htj] at HA x1 HX
            clear hc0 hON htj
            have i0 : (0 : Int) ≤ (j : Int) := by omega
            have i1 : (j : Int) < 20 := by omega
            by_cases h0 : 0 ≤ tj
            · have h0' : decide (0 ≤ tj) = true := decide_eq_true h0
              rw [h0'] at HA
              go_wp2_with fail
              go_region_held3 (fun w' => w'.cell? ⟨b, j, none⟩ = some (.int .i64 tj))
                (first | exact x1 | exact y1)
                (first
                  | (go_at_call 17; refine (HA.out _ _ HS.out.drew.r2).mono ?_; rintro e w5 ⟨rfl, h5⟩; have y1 := HX.out _ _ h5.r2))
              all_goals
                have hfr := time_frozen h5.r2 j
                have H6 := Lib.hid (h5.r2.setT j (-1))
                clear h5 HA HX
                go_wp2_with fail
                go_roundw
                case rel => first | exact ⟨k + 1, _, _, by omega, by go_num, HON.out, H6.out⟩ | ((repeat apply Exists.intro); refine ⟨?_, rfl⟩; exact ⟨k + 1, _, _, by omega, by go_num, HON.out, H6.out⟩)
                case measure => simp [intOf]; omega
            · have h0' : decide (0 ≤ tj) = false := decide_eq_false h0
              rw [h0'] at HA
              go_wp2_with fail
              go_region_held3 (fun w' => w'.cell? ⟨b, j, none⟩ = some (.int .i64 tj))
                (first | exact x1 | exact y1)
                (first
                  | (go_at_call 17; refine (HA.out _ _ HS.out.drew.r2).mono ?_; rintro e w5 ⟨rfl, h5⟩; have y1 := HX.out _ _ h5.r2))
              all_goals
                have hfr := time_frozen h5.r2 j
                have H6 := Lib.hid (h5.r2.setT j (-1))
                clear h5 HA HX
                go_wp2_with fail
                go_roundw
                case rel => first | exact ⟨k + 1, _, _, by omega, by go_num, HON.out, H6.out⟩ | ((repeat apply Exists.intro); refine ⟨?_, rfl⟩; exact ⟨k + 1, _, _, by omega, by go_num, HON.out, H6.out⟩)
                case measure => simp [intOf]; omega
          · have HA := Lib.hid (wdue_any (t : Int) HS.out.r2 (by have := HO.out.small.len; omega))
            have hdl : dueN L (t : Int) ≤ L.length := first_le _ _
            have HL : Hid (∀ x ∈ L.drop (dueN L (t : Int)), (t : Int) < x.2) := due_late HO.out.srt
            have hll := HO.out.small.len
            go_wp2_with fail
            refine HA.out.mono ?_
            rintro e v5 ⟨A', c', rfl, h5⟩
            have H5 := Lib.hid h5.r3
            clear h5 HA HS
            go_wp2_with fail
            go_loopw [9, 11] (O3Rel w b g L (t : Int) A' c') (fun _ i _ => dueN L (t : Int) - (intOf i).toNat)
            case atStart => exact ⟨0, T, -1, Nat.zero_le _, rfl, rfl, mid_beg HO.out _, H5.out⟩
            case round =>
              obtain ⟨q, T2, la, hq, rfl, rfl, hM, hS⟩ := hrel
              clear H5
              have hl2 := hM.once.len
              by_cases hqn : q < dueN L (t : Int)
              · obtain ⟨j2, hj2, ei, h0, h1, h2, hM2⟩ := hM.step (by omega) hqn (by omega)
                have hidl : (ids (L.take (dueN L (t : Int)))).length = dueN L (t : Int) := by rw [ids_len, List.length_take]; omega
                obtain ⟨ga, rfl, hcell, _⟩ := hS.r2.rowCell (by intro e; rw [e] at hidl; simp at hidl; omega)
                have c1 : wr.cell? ⟨ga, q, none⟩ = some (.int .i64 j2) := by
                  rw [hcell q (by omega)]
                  unfold ids
                  rw [List.getElem?_map, List.getElem?_take_of_lt hqn, List.getElem?_eq_getElem (by omega)]
                  simp only [Option.map_some]
                  rw [ei]
                have c2 := time_cell hS j2 (by omega)
                have c3 := time_frozen hS j2
                have HT3 := Lib.hid (hS.setT j2 (-1))
                have HM2 := Lib.hid hM2
                obtain ⟨tj, htj⟩ : ∃ tj, timeOf T2 j2 = tj := ⟨_, rfl⟩
                rw [htj] at c2 h0 h1 h2 HM2
                obtain ⟨nd, hnd⟩ : ∃ nd, dueN L (t : Int) = nd := ⟨_, rfl⟩
                have t1 : decide (tj < 0) = false := decide_eq_false (by omega)
                have t2 : decide ((t : Int) < tj) = false := decide_eq_false (by omega)
                have t3 : decide (tj < la) = false := decide_eq_false (by omega)
                have t4 : decide ((j2 : Int) < 0) = false := decide_eq_false (by omega)
                have t5 : decide (20 ≤ (j2 : Int)) = false := decide_eq_false (by omega)
                clear hM hS hM2 hcell ei htj hidl
                clear hnd
                go_wp2_with fail
                go_roundw
                case rel => first | exact ⟨q + 1, _, _, by omega, by go_num, rfl, HM2.out, HT3.out⟩ | ((repeat apply Exists.intro); refine ⟨?_, rfl⟩; exact ⟨q + 1, _, _, by omega, by go_num, rfl, HM2.out, HT3.out⟩)
                case measure => simp [intOf]; omega
              · obtain rfl : q = dueN L (t : Int) := by omega
                have H7 := Lib.hid hS
                have HM := Lib.hid hM.once
                clear hM hS
                go_wp2_with fail
                go_loopw [12] (O4Rel w [Blk b 44 (nums T2), Row 3 1 A' (dueN L (t : Int)) c' (ids (L.take (dueN L (t : Int)))), WheelC g 48 50 (L.drop (dueN L (t : Int))), Old w]) (fun i _ => 20 - (intOf i).toNat)
                case atStart => exact ⟨0, Nat.zero_le _, rfl, H7.out⟩
                case round =>
                  obtain ⟨q2, hq2, rfl, hS⟩ := hrel
                  clear H7
                  by_cases hq3 : q2 < 20
                  · have c2 := time_cell hS q2 (by omega)
                    have ho : 0 ≤ timeOf T2 q2 → (t : Int) < timeOf T2 q2 := fun h => HM.out.over HL.out hq3 h
                    obtain ⟨tj, htj⟩ : ∃ tj, timeOf T2 q2 = tj := ⟨_, rfl⟩
                    rw [htj] at c2 ho
                    have HS2 := Lib.hid hS
                    clear hS htj
                    by_cases h0 : 0 ≤ tj
                    · have t1 : decide (0 ≤ tj) = true := decide_eq_true h0
                      have t2 : decide (tj ≤ (t : Int)) = false := decide_eq_false (by have := ho h0; omega)
                      clear ho
                      go_wp2_with fail
                      go_roundw
                      case rel => first | exact ⟨q2 + 1, by omega, by go_num, HS2.out⟩ | ((repeat apply Exists.intro); refine ⟨?_, rfl⟩; exact ⟨q2 + 1, by omega, by go_num, HS2.out⟩)
                      case measure => simp [intOf]; omega
                    · have t1 : decide (0 ≤ tj) = false := decide_eq_false h0
                      clear ho
                      go_wp2_with fail
                      go_roundw
                      case rel => first | exact ⟨q2 + 1, by omega, by go_num, HS2.out⟩ | ((repeat apply Exists.intro); refine ⟨?_, rfl⟩; exact ⟨q2 + 1, by omega, by go_num, HS2.out⟩)
                      case measure => simp [intOf]; omega
                  · obtain rfl : q2 = 20 := by omega
                    obtain ⟨hn1, hn2⟩ := HM.out.next HL.out
                    have HN := Lib.hid (wnext_any hS.r3 (by have := HM.out.small.len; omega))
                    rw [hn1] at HN
                    obtain ⟨nx, hnx⟩ : ∃ nx, nextN (L.drop (dueN L (t : Int))) = nx := ⟨_, rfl⟩
                    rw [hnx] at HN hn2
                    have t1 : decide (nx ≤ (t : Int)) = false := decide_eq_false (by omega)
                    have HS2 := Lib.hid (Sat.tail hS.r2)
                    clear hS hn1 hn2 hnx
                    go_wp2_with fail
                    refine HN.out.mono ?_
                    rintro e v6 ⟨rfl, rfl⟩
                    go_wp2_with fail
                    go_roundw
                    case rel => first | exact ⟨k + 1, _, _, by omega, by go_num, HM.out, HS2.out⟩ | ((repeat apply Exists.intro); refine ⟨?_, rfl⟩; exact ⟨k + 1, _, _, by omega, by go_num, HM.out, HS2.out⟩)
                    case measure => simp [intOf]; omega
        · go_wp2_with fail
          go_ret
          exact ⟨rfl, hT.old (by simp)⟩
end Go.Proofs.Ytnjhnchjlecdoaa
