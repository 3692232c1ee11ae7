/- The document's Due. -/
import Derived.Test.YtbgbpibfmdkndaaRG
import Derived.Deep.CutBlock
import Derived.Deep.DeepCutAuto
set_option linter.unusedVariables false
set_option linter.unusedSimpArgs false
set_option linter.unnecessarySimpa false
set_option maxRecDepth 100000
namespace Go.Proofs.Ytbgbpibfmdkndaa
open Go.RowKit Go.ChangeShapes Go.WideShapes Go.ChangeAt
theorem Sat.swapA {w0 w : World} {L M : List HP} (h : Sat w0 w (L ++ M)) : Sat w0 w (M ++ L) := h.perm List.perm_append_comm
def isAg (now : Int) (y : Wt) : Bool := y.is && decide (y.again ≤ now)
def isLt (now : Int) (y : Wt) : Bool := y.is && !y.told && decide (y.late ≤ now)
def agW (t : List Int) (now : Int) (y : Wt) : Wt := if isAg now y then { y with tries := y.tries + 1, again := laterV now (delayV t (y.tries + 1)) } else y
def due1 (t : List Int) (now : Int) (y : Wt) : Wt := if isLt now y then { agW t now y with told := true } else agW t now y
def dueK (t : List Int) (now : Int) (W : List Wt) : Nat → List Wt
  | 0 => W
  | k + 1 => (dueK t now W k).set (k + 1) (due1 t now (atW W (k + 1)))
def agK (W : List Wt) (now : Int) : Nat → List Int
  | 0 => []
  | k + 1 => agK W now k ++ if isAg now (atW W (k + 1)) then [((k : Int) + 1)] else []
def ltK (W : List Wt) (now : Int) : Nat → List Int
  | 0 => []
  | k + 1 => ltK W now k ++ if isLt now (atW W (k + 1)) then [((k : Int) + 1)] else []
theorem dueK_len (t : List Int) (now : Int) (W : List Wt) : ∀ k, (dueK t now W k).length = W.length
  | 0 => rfl
  | k + 1 => by show ((dueK t now W k).set _ _).length = _; rw [List.length_set]; exact dueK_len t now W k
theorem dueK_at (t : List Int) (now : Int) (W : List Wt) (j : Nat) : ∀ k, k < j → atW (dueK t now W k) j = atW W j
  | 0, _ => rfl
  | k + 1, h => by
    have ih := dueK_at t now W j k (by omega)
    rw [← ih]
    show ((dueK t now W k).set (k + 1) _).getD j zW = (dueK t now W k).getD j zW
    rw [List.getD_eq_getElem?_getD, List.getD_eq_getElem?_getD, List.getElem?_set_ne (by omega)]
theorem agK_len (W : List Wt) (now : Int) : ∀ k, (agK W now k).length ≤ k
  | 0 => Nat.le_refl _
  | k + 1 => by
    have ih := agK_len W now k
    unfold agK
    rw [List.length_append]
    split <;> simp <;> omega
theorem ltK_len (W : List Wt) (now : Int) : ∀ k, (ltK W now k).length ≤ k
  | 0 => Nat.le_refl _
  | k + 1 => by
    have ih := ltK_len W now k
    unfold ltK
    rw [List.length_append]
    split <;> simp <;> omega
theorem nums_app (a b : List Int) : nums (a ++ b) = nums a ++ nums b := by unfold nums; rw [List.map_append]
def DuRel (w0 : World) (F : List HP) (x : Nat) (t : List Int) (dl now : Int) (W : List Wt) (ag lt i : Value) (wr : World) : Prop :=
  ∃ (k n1 n2 : Nat) (A1 A2 : Option Addr) (c1 c2 : Nat), k ≤ 60 ∧ i = .int .i64 ((k : Int) + 1) ∧ ag = .slice A1 n1 c1 ∧ lt = .slice A2 n2 c2 ∧ (agK W now k).length = n1 ∧ (ltK W now k).length = n2 ∧
    Sat w0 wr (Row 3 1 A1 n1 c1 (nums (agK W now k)) :: Row 3 1 A2 n2 c2 (nums (ltK W now k)) :: RDoc x t dl (dueK t now W k) :: F)
def DuMid (w0 : World) (G : List HP) (wb : Nat) (a : Wt) (L : List Int) (s : Value) (wr : World) : Prop :=
  ∃ (n1 : Nat) (A1 : Option Addr) (c1 : Nat), s = .slice A1 n1 c1 ∧ L.length = n1 ∧ Sat w0 wr (Blk wb 57 (wv a) :: Row 3 1 A1 n1 c1 (nums L) :: G)
section
variable {w w0 : World} {F : List HP} {x : Nat} {t : List Int} {dl now : Int} {W : List Wt}
set_option maxHeartbeats 6400000 in
theorem rdue_any {N : Int} (hW : WOk W N) (hN : N ≤ 4611686018427387904) (hm : mayB t = true) (hS : Sat w0 w (RDoc x t dl W :: F)) (ht : 0 ≤ now ∧ now ≤ 1073741824) :
    Calls Try.prog 24 #[.pointer (some ⟨x, 0, none⟩), .int .i64 now] w fun e w' => ∃ A1 c1 A2 c2, e = .returned (.tuple #[.slice A1 (agK W now 60).length c1, .slice A2 (ltK W now 60).length c2]) ∧
      Sat w0 w' (Row 3 1 A1 (agK W now 60).length c1 (nums (agK W now 60)) :: Row 3 1 A2 (ltK W now 60).length c2 (nums (ltK W now 60)) :: RDoc x t dl (dueK t now W 60) :: F) := by
  have HC := Lib.hid (rtick_any (now := now) (w := w))
  have htk : tickB now = true := decide_eq_true ht
  rw [htk] at HC
  have H1 := Lib.hid ((hS.nilRow 3 1).nilRow 3 1)
  have HWOK := Lib.hid hW
  have HM := Lib.hid hm
  obtain ⟨i3, hi3, hz3, hs3, hb3⟩ := info_parts infoI
  have HI3 := Lib.hid hi3
  obtain ⟨ht1, ht2⟩ := ht
  clear hS htk hW hm hi3
  go_enter Try.func24, Try.ntmps24
  go_wp2_with fail
  refine HC.out.mono ?_
  rintro e w1 ⟨rfl, rfl⟩
  go_wp2_with fail
  go_loopw [6, 7, 8] (DuRel w0 F x t dl now W) (fun _ _ i _ => 61 - (intOf i).toNat)
  case atStart => exact ⟨0, 0, 0, none, none, 0, 0, Nat.zero_le _, rfl, rfl, rfl, rfl, rfl, H1.out⟩
  case round =>
    obtain ⟨k, n1, n2, A1, A2, c1, c2, hk, rfl, rfl, rfl, hn1, hn2, hS⟩ := hrel
    clear H1
    by_cases hlt : k < 60
    · have hl1 := agK_len W now k
      have hl2 := ltK_len W now k
      rw [hn1] at hl1
      rw [hn2] at hl2
      have HN1 := Lib.hid hn1
      have HN2 := Lib.hid hn2
      obtain ⟨A, c, h⟩ := hS.r3.rdOpen
      have hDl : (dueK t now W k).length = 61 := by rw [dueK_len]; exact HWOK.out.len
      obtain ⟨e0, e1, e2, e3, e4⟩ := rd_cells h (i := k + 1) (by omega)
      rw [dueK_at t now W (k + 1) k (by omega)] at e0 e1 e2 e3 e4
      have hmem : atW W (k + 1) ∈ W := by unfold atW; rw [← List.getElem_eq_getD (h := by rw [HWOK.out.len]; omega) zW]; exact List.getElem_mem _
      have hty := HWOK.out.tries _ hmem
      have htm := HWOK.out.times _ hmem
      have HAG : Hid (agK W now (k + 1) = agK W now k ++ if isAg now (atW W (k + 1)) then [((k : Int) + 1)] else []) := rfl
      have HLT : Hid (ltK W now (k + 1) = ltK W now k ++ if isLt now (atW W (k + 1)) then [((k : Int) + 1)] else []) := rfl
      have HDU : Hid (dueK t now W (k + 1) = (dueK t now W k).set (k + 1) (due1 t now (atW W (k + 1)))) := rfl
      obtain ⟨y, hy⟩ : ∃ y, atW W (k + 1) = y := ⟨_, rfl⟩
      obtain ⟨D, hD⟩ : ∃ D, dueK t now W k = D := ⟨_, rfl⟩
      rw [hy] at e0 e1 e2 e3 e4 hty htm HAG HLT HDU
      rw [hD] at h hDl HDU
      have HDL := Lib.hid hDl
      obtain ⟨LA, hLA⟩ : ∃ L, agK W now k = L := ⟨_, rfl⟩
      obtain ⟨LL, hLL⟩ : ∃ L, ltK W now k = L := ⟨_, rfl⟩
      rw [hLA] at h HAG HN1
      rw [hLL] at h HLT HN2
      obtain ⟨wb, hwb⟩ : ∃ b, wr.heap.size = b := ⟨_, rfl⟩
      obtain ⟨yi, yt, ya, yl, yo⟩ := y
      simp only at e0 e1 e2 e3 e4 hty htm
      have hU := h.new #[.bool yi, .int .i64 yt, .int .i64 ya, .int .i64 yl, .bool yo] 57
      rw [hwb] at hU
      obtain ⟨G, hG⟩ : ∃ G, G = Row 3 1 A2 n2 c2 (nums LL) :: Blk x 60 (.slice A t.length c :: .int .i64 dl :: wsC D) :: Row 3 1 A t.length c (nums t) :: F := ⟨_, rfl⟩
      have HG := Lib.hid hG
      have HU : Hid (Sat w0 (wr.alloc (.cells #[.bool yi, .int .i64 yt, .int .i64 ya, .int .i64 yl, .bool yo] 57)) (Blk wb 57 (wv ⟨yi, yt, ya, yl, yo⟩) :: Row 3 1 A1 n1 c1 (nums LA) :: G)) := by
        rw [hG]
        exact hU.perm ((List.Perm.append_right F (List.perm_append_comm (l₁ := [_, _]) (l₂ := [_, _]))).cons _)
      have hge1 : (0 : Int) ≤ (k : Int) + 1 := by omega
      have hge2 : (k : Int) + 1 < 61 := by omega
      clear hS h hU hG hLA hLL hD hy hmem hn1 hn2 hDl
      go_upto_region 9 with fail
      obtain ⟨W1, hW1⟩ : ∃ X, X = wr.alloc (.cells #[.bool yi, .int .i64 yt, .int .i64 ya, .int .i64 yl, .bool yo] 57) := ⟨_, rfl⟩
      rw [← hW1] at HU ⊢
      try rw [hwb]
      clear hW1 e0 e1 e2 e3 e4 hwb
      have b0 : W1.cell? ⟨wb, 0, none⟩ = some (.bool yi) := HU.out.blk.cell 0
      have b2 : W1.cell? ⟨wb, 2, none⟩ = some (.int .i64 ya) := HU.out.blk.cell 2
      go_cut [32] (fun v wx => v = .bool (isAg now ⟨yi, yt, ya, yl, yo⟩) ∧ wx = W1)
      case first =>
        cases yi with
        | false =>
          go_wp2_with fail
          go_meet
          exact ⟨rfl, rfl⟩
        | true =>
          by_cases hya : ya ≤ now
          · have t1 : decide (ya ≤ now) = true := decide_eq_true hya
            have HI : Hid (isAg now ⟨true, yt, ya, yl, yo⟩ = true) := by show _ = _; unfold isAg; rw [t1]; rfl
            go_wp2_with fail
            go_meet
            exact ⟨by rw [HI.out]; try rfl, rfl⟩
          · have t1 : decide (ya ≤ now) = false := decide_eq_false hya
            have HI : Hid (isAg now ⟨true, yt, ya, yl, yo⟩ = false) := by show _ = _; unfold isAg; rw [t1]; rfl
            go_wp2_with fail
            go_meet
            exact ⟨by rw [HI.out]; try rfl, rfl⟩
      case rest =>
        obtain ⟨hv, hw⟩ := hcut
        rw [hv, hw]
        clear hv hw
        obtain ⟨va, hva⟩ : ∃ v, isAg now ⟨yi, yt, ya, yl, yo⟩ = v := ⟨_, rfl⟩
        rw [hva] at HAG ⊢
        have HAW : Hid (agW t now ⟨yi, yt, ya, yl, yo⟩ = if va then ⟨yi, yt + 1, laterV now (delayV t (yt + 1)), yl, yo⟩ else ⟨yi, yt, ya, yl, yo⟩) := by show _ = _; unfold agW; rw [hva]
        have HDU1 : Hid (due1 t now ⟨yi, yt, ya, yl, yo⟩ = if isLt now ⟨yi, yt, ya, yl, yo⟩ then { agW t now ⟨yi, yt, ya, yl, yo⟩ with told := true } else agW t now ⟨yi, yt, ya, yl, yo⟩) := rfl
        obtain ⟨LB, hLB⟩ : ∃ L, agK W now (k + 1) = L := ⟨_, rfl⟩
        have HLB := Lib.hid hLB
        rw [hLB] at HAG
        obtain ⟨at_, aa, hat⟩ : ∃ p q, agW t now ⟨yi, yt, ya, yl, yo⟩ = ⟨yi, p, q, yl, yo⟩ := by
          rw [HAW.out]
          cases va
          · exact ⟨_, _, rfl⟩
          · exact ⟨_, _, rfl⟩
        rw [hat] at HAW HDU1
        have hm2 := HM.out
        have hdin := delay_in hm2 (yt + 1)
        have hNl : yt + 1 ≤ 4611686018427387905 := by omega
        have HC12 : Hid (∀ X, NsAt X A t → Calls Try.prog 12 #[.slice A t.length c, .int .i64 (yt + 1)] X fun e w' => e = .returned (.tuple #[.int .i64 (delayV t (yt + 1)), .int .i64 0]) ∧ ∃ q, w' = X.drewN q) := fun X hX => by
          have h := rdelay_any (c := c) (tries := yt + 1) (by unfold wf64; omega) hX
          have he : delE t (yt + 1) = (delayV t (yt + 1), 0) := by unfold delE; rw [hm2, if_pos rfl, if_neg (by omega)]
          rw [he] at h
          exact h
        obtain ⟨d, hd⟩ : ∃ d, delayV t (yt + 1) = d := ⟨_, rfl⟩
        rw [hd] at HC12 HAW hdin
        have HROW : Hid (∀ X M, Sat w0 X (M ++ G) → X.cell? ⟨x, 0, none⟩ = some (.slice A t.length c) ∧ NsAt X A t) := fun X M hX => by
          rw [HG.out] at hX
          have h1 : Sat w0 X (Row 3 1 A2 n2 c2 (nums LL) :: Blk x 60 (.slice A t.length c :: .int .i64 dl :: wsC D) :: Row 3 1 A t.length c (nums t) :: (F ++ M)) := hX.swapA
          exact ⟨h1.r2.blk.cell 0, h1.r3.rowNs⟩
        obtain ⟨tn, htn⟩ : ∃ n, t.length = n := ⟨_, rfl⟩
        have HTN := Lib.hid htn
        rw [htn] at HC12 HROW
        clear hva hLB hat hm2 hd htn b0 b2
        go_upto_if 32 with fail
        go_cut [6] (DuMid w0 G wb ⟨yi, at_, aa, yl, yo⟩ LB)
        case first =>
          cases va with
          | false =>
            have HU2 := HU.out
            have ha : (⟨yi, at_, aa, yl, yo⟩ : Wt) = ⟨yi, yt, ya, yl, yo⟩ := HAW.out
            have hb : LB = LA := by rw [HAG.out]; simp
            go_wp2_with fail
            go_meet
            rw [ha, hb]
            exact ⟨n1, A1, c1, rfl, HN1.out, HU2⟩
          | true =>
            have HB := Lib.hid (HU.out.r2.new #[.int .i64 ((k : Int) + 1)] 3)
            have hb1 : n1 + 1 ≤ maxLen ∧ (n1 + 1) * 8 ≤ 140737488355328 := by unfold maxLen; omega
            have HO1 : Hid (∀ u ∈ (#[.int .i64 ((k : Int) + 1)] : Array Value).toList, u.oneCell' = true) := nums_one [(k : Int) + 1]
            have HAW2 : Hid ((⟨yi, at_, aa, yl, yo⟩ : Wt) = ⟨yi, yt + 1, laterV now d, yl, yo⟩) := HAW.out
            have HLB2 : Hid (LB = LA ++ [(k : Int) + 1]) := by show _ = _; rw [HAG.out]; rfl
            obtain ⟨hty1, hty2⟩ := hty
            obtain ⟨hd1, hd2⟩ := hdin
            clear HU HAW HAG HDU HDU1
            go_wp2_with (at_builtin; refine wpList_app1 rfl (.tmp 33) (.tmp 35) 22 rfl 3 i3 (.int .i64 0) 1 8 Try.underlying22 HI3.out hz3 hs3 hb3 rfl (by decide) rfl HB.out rfl rfl HO1.out hb1.1 hb1.2 ?_; intro A3 c3 W8 hS8; have H8 := Lib.hid hS8; have y1 : W8.cell? ⟨wb, 1, none⟩ = some (.int .i64 yt) := hS8.r2.blk.cell 1; have y1f := hS8.r2.blk.free 1; have H9 := Lib.hid (hS8.r2.set 1 (.int .i64 (yt + 1))); clear hS8)
            obtain ⟨W9, hW9⟩ : ∃ X, X = W8.setCell ⟨wb, 1, none⟩ (.int .i64 (yt + 1)) := ⟨_, rfl⟩
            rw [← hW9] at H9 ⊢
            clear hW9 y1 y1f H8 HB
            have z1 : W9.cell? ⟨wb, 1, none⟩ = some (.int .i64 (yt + 1)) := H9.out.blk.cell 1
            obtain ⟨z0, zN⟩ := HROW.out W9 [_, _] H9.out
            have HZN : Hid (NsAt W9.drew A t) := zN.drewN 1
            have HMK : Hid (∀ w5 q5, w5 = W9.drew.drewN q5 → Hid (Sat w0 w5 (Blk wb 57 ((wv ⟨yi, yt, ya, yl, yo⟩).set 1 (.int .i64 (yt + 1))) :: Row 3 1 A3 (n1 + 1) c3 (nums LA ++ [.int .i64 ((k : Int) + 1)]) :: G))) := fun w5 q5 h5 => by
              rw [h5]
              exact H9.out.drew.drewN q5
            clear zN
            go_region_held3 (fun w' => w'.cell? ⟨x, 0, none⟩ = some (.slice A tn c) ∧ w'.cell? ⟨wb, 1, none⟩ = some (.int .i64 (yt + 1)))
              (first | exact ⟨z0, z1⟩ | exact ⟨v0, v1⟩)
              (first | (go_at_call 12; refine (HC12.out _ HZN.out).mono ?_; rintro e w5 ⟨rfl, q5, h5⟩; have H10 := HMK.out w5 q5 h5; clear h5; obtain ⟨v0, vN⟩ := HROW.out w5 [_, _] H10.out; clear vN; have v1 : w5.cell? ⟨wb, 1, none⟩ = some (.int .i64 (yt + 1)) := H10.out.blk.cell 1))
            all_goals
              clear z0 z1 H9 HZN v0 v1
              have u2 : w5.cell? ⟨wb, 2, none⟩ = some (.int .i64 ya) := H10.out.blk.cell 2
              have u2f := H10.out.blk.free 2
              have H11 : Hid (∀ a, Sat w0 (w5.setCell ⟨wb, 2, none⟩ (.int .i64 a)) (Blk wb 57 (wv ⟨yi, yt + 1, a, yl, yo⟩) :: Row 3 1 A3 (n1 + 1) c3 (nums LA ++ [.int .i64 ((k : Int) + 1)]) :: G)) := fun a => H10.out.set 2 (.int .i64 a)
              clear H10
              rcases later_of now d with ⟨k1, k2⟩ | ⟨k1, k2⟩ | ⟨k1, k2⟩
              all_goals
                have K2 := Lib.hid k2
                clear k2
                go_wp2_with fail
                go_meet
                have h := H11.out (laterV now d)
                rw [HAW2.out, HLB2.out]
                rw [K2.out] at h ⊢
                exact ⟨n1 + 1, A3, c3, rfl, by rw [List.length_append, HN1.out]; rfl, by rw [nums_app]; exact h⟩
        case rest =>
          obtain ⟨m1, A5, c5, hu6, hm1, hS5⟩ := hcut
          rw [hu6]
          have HM1 := Lib.hid hm1
          have H5 := Lib.hid hS5
          clear hu6 hm1 hS5 HU HAW HC12
          have H6 : Hid (Sat w0 wc (Blk wb 57 (wv ⟨yi, at_, aa, yl, yo⟩) :: Row 3 1 A2 n2 c2 (nums LL) :: Row 3 1 A5 m1 c5 (nums LB) :: Blk x 60 (.slice A t.length c :: .int .i64 dl :: wsC D) :: Row 3 1 A t.length c (nums t) :: F)) := by
            have h := H5.out
            rw [HG.out] at h
            exact h.perm ((List.Perm.swap _ _ _).cons _)
          clear H5 HG HROW
          obtain ⟨G2, hG2⟩ : ∃ G, G = Row 3 1 A5 m1 c5 (nums LB) :: Blk x 60 (.slice A t.length c :: .int .i64 dl :: wsC D) :: Row 3 1 A t.length c (nums t) :: F := ⟨_, rfl⟩
          have HG2 := Lib.hid hG2
          rw [← hG2] at H6
          have b0 : wc.cell? ⟨wb, 0, none⟩ = some (.bool yi) := H6.out.blk.cell 0
          have b3 : wc.cell? ⟨wb, 3, none⟩ = some (.int .i64 yl) := H6.out.blk.cell 3
          have b4 : wc.cell? ⟨wb, 4, none⟩ = some (.bool yo) := H6.out.blk.cell 4
          obtain ⟨W6, hW6⟩ : ∃ X, X = wc := ⟨_, rfl⟩
          rw [← hW6] at H6 b0 b3 b4 ⊢
          clear hG2 hW6
          go_upto_region 14 with fail
          go_cut [68] (fun v wx => v = .bool (isLt now ⟨yi, yt, ya, yl, yo⟩) ∧ wx = W6)
          case first =>
            cases yi with
            | false =>
              go_wp2_with fail
              go_meet
              exact ⟨rfl, rfl⟩
            | true =>
              cases yo with
              | true =>
                go_wp2_with fail
                go_meet
                exact ⟨rfl, rfl⟩
              | false =>
                by_cases hya : yl ≤ now
                · have t1 : decide (yl ≤ now) = true := decide_eq_true hya
                  have HI : Hid (isLt now ⟨true, yt, ya, yl, false⟩ = true) := by show _ = _; unfold isLt; rw [t1]; rfl
                  go_wp2_with fail
                  go_meet
                  exact ⟨by rw [HI.out]; try rfl, rfl⟩
                · have t1 : decide (yl ≤ now) = false := decide_eq_false hya
                  have HI : Hid (isLt now ⟨true, yt, ya, yl, false⟩ = false) := by show _ = _; unfold isLt; rw [t1]; rfl
                  go_wp2_with fail
                  go_meet
                  exact ⟨by rw [HI.out]; try rfl, rfl⟩
          case rest =>
            obtain ⟨hv, hw⟩ := hcut
            rw [hv, hw]
            clear hv hw b0 b3
            obtain ⟨vl, hvl⟩ : ∃ v, isLt now ⟨yi, yt, ya, yl, yo⟩ = v := ⟨_, rfl⟩
            rw [hvl] at HLT HDU1 ⊢
            clear hvl
            obtain ⟨LM, hLM⟩ : ∃ L, ltK W now (k + 1) = L := ⟨_, rfl⟩
            have HLM := Lib.hid hLM
            rw [hLM] at HLT
            obtain ⟨yo', ho⟩ : ∃ p, due1 t now ⟨yi, yt, ya, yl, yo⟩ = ⟨yi, at_, aa, yl, p⟩ := by
              rw [HDU1.out]
              cases vl
              · exact ⟨_, rfl⟩
              · exact ⟨_, rfl⟩
            rw [ho] at HDU1 HDU
            clear hLM ho
            go_upto_if 68 with fail
            go_cut [7] (DuMid w0 G2 wb ⟨yi, at_, aa, yl, yo'⟩ LM)
            case first =>
              cases vl with
              | false =>
                have ha : (⟨yi, at_, aa, yl, yo'⟩ : Wt) = ⟨yi, at_, aa, yl, yo⟩ := HDU1.out
                have hb : LM = LL := by rw [HLT.out]; simp
                have h6 := H6.out
                clear b4
                go_wp2_with fail
                go_meet
                rw [ha, hb]
                exact ⟨n2, A2, c2, rfl, HN2.out, h6⟩
              | true =>
                have HB := Lib.hid (H6.out.r2.new #[.int .i64 ((k : Int) + 1)] 3)
                have hb1 : n2 + 1 ≤ maxLen ∧ (n2 + 1) * 8 ≤ 140737488355328 := by unfold maxLen; omega
                have HO1 : Hid (∀ u ∈ (#[.int .i64 ((k : Int) + 1)] : Array Value).toList, u.oneCell' = true) := nums_one [(k : Int) + 1]
                have HAW2 : Hid ((⟨yi, at_, aa, yl, yo'⟩ : Wt) = ⟨yi, at_, aa, yl, true⟩) := HDU1.out
                have HLB2 : Hid (LM = LL ++ [(k : Int) + 1]) := by show _ = _; rw [HLT.out]; rfl
                clear H6 HDU1 HLT HDU b4
                go_wp2_with (at_builtin; refine wpList_app1 rfl (.tmp 69) (.tmp 71) 22 rfl 3 i3 (.int .i64 0) 1 8 Try.underlying22 HI3.out hz3 hs3 hb3 rfl (by decide) rfl HB.out rfl rfl HO1.out hb1.1 hb1.2 ?_; intro A3 c3 W8 hS8; have y4 : W8.cell? ⟨wb, 4, none⟩ = some (.bool yo) := hS8.r2.blk.cell 4; have y4f := hS8.r2.blk.free 4; have H9 := Lib.hid (hS8.r2.set 4 (.bool true)); clear hS8)
                go_meet
                rw [HAW2.out, HLB2.out]
                exact ⟨n2 + 1, A3, c3, rfl, by rw [List.length_append, HN2.out]; rfl, by rw [nums_app]; exact H9.out⟩
            case rest =>
              obtain ⟨m2, A6, c6, hu7, hm2, hS7⟩ := hcut
              rw [hu7]
              have HM2 := Lib.hid hm2
              have H7 : Hid (Sat w0 wc (Blk wb 57 (wv ⟨yi, at_, aa, yl, yo'⟩) :: Row 3 1 A6 m2 c6 (nums LM) :: Row 3 1 A5 m1 c5 (nums LB) :: Blk x 60 (.slice A t.length c :: .int .i64 dl :: wsC D) :: Row 3 1 A t.length c (nums t) :: F)) := by
                have h := hS7
                rw [HG2.out] at h
                exact h
              obtain ⟨W7, hW7⟩ : ∃ X, X = wc := ⟨_, rfl⟩
              rw [← hW7] at H7 ⊢
              clear hu7 hm2 hS7 H6 HG2 HDU1 hW7 b4
              have hDl := HDL.out
              have hX4 := H7.out.r4
              have hl := wsC_len D
              have hfr := hX4.blk.free
              obtain ⟨e0, e1, e2, e3, e4⟩ := rd_cells hX4 (i := k + 1) (by omega)
              have q0 := hfr (2 + (k + 1) * 5)
              have q1 := hfr (2 + (k + 1) * 5 + 1)
              have q2 := hfr (2 + (k + 1) * 5 + 2)
              have q3 := hfr (2 + (k + 1) * 5 + 3)
              have q4 := hfr (2 + (k + 1) * 5 + 4)
              have b0 : W7.cell? ⟨wb, 0, none⟩ = some (.bool yi) := H7.out.blk.cell 0
              have b1 : W7.cell? ⟨wb, 1, none⟩ = some (.int .i64 at_) := H7.out.blk.cell 1
              have b2 : W7.cell? ⟨wb, 2, none⟩ = some (.int .i64 aa) := H7.out.blk.cell 2
              have b3 : W7.cell? ⟨wb, 3, none⟩ = some (.int .i64 yl) := H7.out.blk.cell 3
              have b4 : W7.cell? ⟨wb, 4, none⟩ = some (.bool yo') := H7.out.blk.cell 4
              have HX : Hid (Sat w0 (((((W7.drew.setCell ⟨x, 2 + (k + 1) * 5, none⟩ (.bool yi)).setCell ⟨x, 2 + (k + 1) * 5 + 1, none⟩ (.int .i64 at_)).setCell ⟨x, 2 + (k + 1) * 5 + 2, none⟩ (.int .i64 aa)).setCell ⟨x, 2 + (k + 1) * 5 + 3, none⟩ (.int .i64 yl)).setCell ⟨x, 2 + (k + 1) * 5 + 4, none⟩ (.bool yo'))
                  (Row 3 1 A5 m1 c5 (nums LB) :: Row 3 1 A6 m2 c6 (nums LM) :: RDoc x t dl (D.set (k + 1) ⟨yi, at_, aa, yl, yo'⟩) :: F)) := by
                obtain ⟨y, hy⟩ : ∃ y : Wt, y = ⟨yi, at_, aa, yl, yo'⟩ := ⟨_, rfl⟩
                have h1 := Sat.setCells (wv y) (2 + (k + 1) * 5) hX4.drew (by simp only [List.length_cons, hl, hDl]; show 2 + (k + 1) * 5 + 5 ≤ _; omega)
                have e : over (.slice A t.length c :: .int .i64 dl :: wsC D) (2 + (k + 1) * 5) (wv y) = .slice A t.length c :: .int .i64 dl :: wsC (D.set (k + 1) y) := by
                  have h1 := over_app [.slice A t.length c, .int .i64 dl] (wsC D) (wv y) ((k + 1) * 5)
                  rw [wsC_over D (k + 1) y (by omega)] at h1
                  exact h1
                rw [e, show wv y = [.bool yi, .int .i64 at_, .int .i64 aa, .int .i64 yl, .bool yo'] by rw [hy]; rfl, set5, hy] at h1
                have h2 := Sat.rdClose h1.r5.r2
                exact h2.r2.tail.r3.r3.r2
              obtain ⟨X, hX⟩ : ∃ p, p = D.set (k + 1) ⟨yi, at_, aa, yl, yo'⟩ := ⟨_, rfl⟩
              rw [← hX] at HX HDU
              have p3 : ∀ a, W7.drew.cell? a = W7.cell? a := fun a => rfl
              have p4 : ∀ a, W7.drew.frozen? a = W7.frozen? a := fun a => rfl
              have P3 := Lib.hid p3
              have P4 := Lib.hid p4
              clear hX hX4 hl hfr hDl HDL H7 p3 p4
              go_wp2_with fail
              go_still_tail 6, (by kernel_rfl)
              change wpList _ _ _ _ _ W7.drew
              obtain ⟨W8, hW8⟩ : ∃ X, X = W7.drew := ⟨_, rfl⟩
              rw [← P3.out, ← hW8] at e0 e1 e2 e3 e4 b0 b1 b2 b3 b4
              rw [← P4.out, ← hW8] at q0 q1 q2 q3 q4
              rw [← hW8] at HX ⊢
              clear hW8 P3 P4
              go_wp2_with fail
              go_roundw
              case rel =>
                refine ⟨k + 1, m1, m2, A5, A6, c5, c6, by omega, by go_num, rfl, rfl, by rw [HLB.out]; exact HM1.out, by rw [HLM.out]; exact HM2.out, ?_⟩
                rw [HLB.out, HLM.out, HDU.out]
                exact HX.out
              case measure => simp [intOf]; omega
    · obtain rfl : k = 60 := by omega
      have HS := Lib.hid hS
      have HN1 := Lib.hid hn1
      have HN2 := Lib.hid hn2
      clear hS hn1 hn2 hlt
      go_wp2_with fail
      go_ret2
      refine ⟨A1, c1, A2, c2, by rw [HN1.out, HN2.out]; rfl, ?_⟩
      rw [HN1.out, HN2.out]
      exact HS.out
end
end Go.Proofs.Ytbgbpibfmdkndaa
