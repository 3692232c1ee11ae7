/- The walk of CostGrows. -/
import Derived.Test.YtpmoanjeoaeabaaDoorDY
set_option linter.unusedVariables false
set_option linter.unusedSimpArgs false
set_option linter.unnecessarySimpa false
set_option maxRecDepth 100000
namespace Go.Proofs.YtpmoanjeoaeabaaDoor
open Go.RowKit Go.ChangeShapes Go.WideShapes Go.ChangeAt
def GwRel (W : World) (L : List HP) (d : Df) (zn : ByteArray) (n : Nat) (x : Value) (wr : World) : Prop :=
  ∃ k : Nat, k ≤ n ∧ x = .int .i64 k ∧ Sat W wr L ∧ ∀ j, j < k → nameAt d j ≠ zn
def ci (n : Nat) : Value := .int .i64 (n : Int)
def coL (o : Nat) (f : Nat → Nat) : List Value := [ci o, ci (f 0), ci (f 1), ci (f 2), ci (f 3)]
theorem coL_get (o : Nat) (f : Nat → Nat) (p : Nat) (hp : p < 4) : (coL o f)[1 + p]? = some (.int .i64 (f p : Nat)) := by
  have : p = 0 ∨ p = 1 ∨ p = 2 ∨ p = 3 := by omega
  rcases this with rfl | rfl | rfl | rfl <;> rfl
set_option maxHeartbeats 6400000 in
theorem costGrows_any {w : World} (d : Df) (z : Int) (hz0 : wf64 z) (hD : DefAt w d) (hz : Fits d) (hT : Lib.Utf8Tabs 0 1 w) : Calls Tryd.prog 8 #[d.v, .int .i64 z] w (Quietly w (.bool true)) := by
  have C11 : Hid (∀ w1, Below w.heap.size w w1 → ∀ F, Sat w w1 F → Calls Tryd.prog 11 #[d.v] w1 fun e w' => ∃ D : Df, e = .returned (likeV d D) ∧ Like D d ∧ Sat w w' (OwnP D :: F)) := fun w1 hb F hF => copied_own (hD.keep hb) hz hF
  have C13 : Hid (∀ w1, Below w.heap.size w w1 → Calls Tryd.prog 13 #[d.v] w1 fun e w' => e = .returned (.tuple #[.int .i64 (checkN d).1, .int .i64 (checkN d).2]) ∧ Below w1.heap.size w1 w') := fun w1 hb => rcheck_any d (hD.keep hb) hz.sized
  have C16 : Hid (∀ w1, Below w.heap.size w w1 → Calls Tryd.prog 16 #[d.v] w1 fun e w' => e = .returned (costN d) ∧ Below w1.heap.size w1 w') := fun w1 hb => of_any d (hD.keep hb) hz (tabs_keep hT hb)
  have C21 : Hid (∀ w1, Below w.heap.size w w1 → Calls Tryd.prog 21 #[] w1 fun e w' => e = .returned (.bool true) ∧ Below w1.heap.size w1 w') := fun w1 hb => live13_any w1 (tabs_keep hT hb)
  have CM16 : Hid ((checkN d).2 = 0 → d.steps.length ≠ 8 → ∀ (D : Df) (p : Nat), p < 4 → Like D d → (∀ k, k < d.steps.length → nameAt d k ≠ zName) → ∀ (A : Option Addr) (c : Nat), ∃ (b : Nat) (g : Nat → Nat), 3 + (namedL d).length + sumO d d.steps.length < b ∧ (∀ x, cpTo d d.steps.length x ≤ g x) ∧ cpTo d d.steps.length p < g p ∧
      ∀ (F : List HP) (w1 : World), Sat w w1 (Row 35 5 A (d.steps.length + 1) c (stepsC (D.steps ++ [zS p])) :: sep (D.steps.map stP) :: F) → Old w ∈ F →
        Calls Tryd.prog 16 #[.agg #[.string d.name, .slice A (d.steps.length + 1) c]] w1 fun e w' => e = .returned (.tuple #[.agg #[.int .i64 (b : Nat), .int .i64 (g 0 : Nat), .int .i64 (g 1 : Nat), .int .i64 (g 2 : Nat), .int .i64 (g 3 : Nat)], .int .i64 0]) ∧ Below w1.heap.size w1 w') := fun hc h8 D p hp hl hzn A c => by
    obtain ⟨b, g, e, h1, h2, h3⟩ := grown hl hc h8 p hp hzn A c
    refine ⟨b, g, h1, h2, h3, fun F w1 hS hm => ?_⟩
    have hlen : (D.steps ++ [zS p]).length = d.steps.length + 1 := by rw [List.length_append, hl.len]; rfl
    have h4 := of_any ⟨D.name, D.steps ++ [zS p], A, c⟩ (hS.moreDef hlen (by unfold wf64; omega) hl hD) (more_fits hl hz (clean_of hc).1.most) (tabs_keep hT (hS.old (List.mem_cons_of_mem _ (List.mem_cons_of_mem _ hm))))
    rw [e] at h4
    unfold Df.v at h4
    rw [hlen] at h4
    rw [← hl.name]
    exact h4
  have HNO : Hid ((checkN d).2 ≠ 0 → ∃ o a0 a1 a2 a3 : Int, costN d = .tuple #[.agg #[.int .i64 o, .int .i64 a0, .int .i64 a1, .int .i64 a2, .int .i64 a3], .int .i64 1]) := cost_no
  have HYES : Hid ((checkN d).2 = 0 → ∃ a : Nat, a = 3 + (namedL d).length + sumO d d.steps.length ∧ costN d = .tuple #[.agg #[.int .i64 (a : Nat), .int .i64 (cpTo d d.steps.length 0 : Nat), .int .i64 (cpTo d d.steps.length 1 : Nat), .int .i64 (cpTo d d.steps.length 2 : Nat), .int .i64 (cpTo d d.steps.length 3 : Nat)], .int .i64 0]) := fun h => cost_yes h rfl
  have HM : Hid ((checkN d).2 = 0 → 1 ≤ d.steps.length ∧ d.steps.length ≤ 8) := fun h => ⟨(clean_of h).1.pos, (clean_of h).1.most⟩
  have HLK : Hid (∀ D, Like D d → D.steps.length = d.steps.length) := fun D h => h.len
  have hn5 := hz.steps
  obtain ⟨R, hR⟩ : ∃ R, checkN d = R := ⟨_, rfl⟩
  obtain ⟨cn, hcn⟩ : ∃ l, costN d = l := ⟨_, rfl⟩
  rw [hR] at C13 CM16 HNO HYES HM
  rw [hcn] at C16 HNO HYES
  obtain ⟨x, y⟩ := R
  obtain ⟨o3, ho3⟩ : ∃ o, 3 + (namedL d).length + sumO d d.steps.length = o := ⟨_, rfl⟩
  rw [ho3] at CM16 HYES
  have h1 := (Sat.start w).new #[.string d.name, .slice d.A d.steps.length d.c] 24
  obtain ⟨b, hb⟩ : ∃ b, w.heap.size = b := ⟨_, rfl⟩
  unfold likeV at C11
  unfold Df.v at C11 C13 C16 ⊢
  unfold Quietly
  obtain ⟨n, hN⟩ : ∃ n, d.steps.length = n := ⟨_, rfl⟩
  have HN := Lib.hid hN
  simp only [hN] at h1 C11 C13 C16 CM16 HYES HM HLK hn5 ⊢
  obtain ⟨fa, hfa⟩ : ∃ f, cpTo d n = f := ⟨_, rfl⟩
  simp only [hfa] at CM16 HYES
  obtain ⟨AA, hAA⟩ : ∃ x, d.A = x := ⟨_, rfl⟩
  have HAA := Lib.hid hAA
  simp only [hAA] at h1 C11 C13 C16 ⊢
  obtain ⟨zn, hzn⟩ : ∃ z, zName = z := ⟨_, rfl⟩
  have HZN := Lib.hid hzn
  rw [hzn] at CM16
  rw [hb] at h1
  have H1 := Lib.hid h1
  have HD := Lib.hid hD
  unfold wf64 at hz0
  clear h1 hD hz hR hN hT hcn ho3 hfa hAA hzn
  go_enter Tryd.func8, Tryd.ntmps8
  go_wp2_with fail
  try simp only [hb]
  refine (C13.out _ (H1.out.old (by simp))).mono ?_
  rintro e w1 ⟨rfl, hb1⟩
  have h2 := H1.out.below hb1
  have a0 := h2.blk.cell 0
  have a1 := h2.blk.cell 1
  have H2 := Lib.hid h2
  clear h2 hb1 H1
  go_wp2_with fail
  refine (C16.out _ (H2.out.old (by simp))).mono ?_
  rintro e w2 ⟨rfl, hb2⟩
  obtain ⟨q, hq⟩ : ∃ q, w2.heap.size = q := ⟨_, rfl⟩
  have h3 := H2.out.below hb2
  have H3 := Lib.hid h3
  have a0 := h3.blk.cell 0
  have a1 := h3.blk.cell 1
  clear h3 hb2 H2
  by_cases hy : y = 0
  · subst hy
    obtain ⟨a, rfl, rfl⟩ := HYES.out rfl
    have hm1 := HM.out rfl
    obtain ⟨hm1, hm8⟩ := hm1
    have CMM := Lib.hid (CM16.out rfl)
    clear HNO HYES HM CM16
    have h4 := H3.out.new #[.int .i64 (a : Nat), .int .i64 (fa 0 : Nat), .int .i64 (fa 1 : Nat), .int .i64 (fa 2 : Nat), .int .i64 (fa 3 : Nat)] 40
    rw [hq] at h4
    have H4 : Hid (Sat w _ [Blk q 40 (coL a fa), Blk b 24 [.string d.name, .slice AA n d.c], Old w]) := h4
    clear h4
    have e0 := H4.out.r2.blk.cell 0
    have e1 := H4.out.r2.blk.cell 1
    by_cases h8 : n = 8
    · have t8 : ((n : Int) == 8) = true := by rw [beq_iff_eq]; omega
      clear h8
      go_wp2_with fail
      try simp only [hq]
      refine (C21.out _ (H4.out.old (by simp))).mono ?_
      rintro e w5 ⟨rfl, hb5⟩
      have H9 := Lib.hid ((H4.out.below hb5).old (by simp))
      clear hb5 H4 H3
      go_wp2_with fail
      go_ret
      exact ⟨rfl, by have h9 := H9.out; first | exact h9 | (rw [hb] at h9; exact h9)⟩
    · have t8 : ((n : Int) == 8) = false := by rw [beq_eq_false_iff_ne]; omega
      have CM := Lib.hid (CMM.out h8)
      clear CMM H3
      by_cases hz1 : z < 0
      · obtain ⟨m, hm⟩ : ∃ m : Nat, -(z + 1) = (m : Int) := ⟨(-(z + 1)).toNat, by omega⟩
        have sw1 : IntKind.i64.wrap (z + 1) = z + 1 := IntWalk.i64_in _ (by omega)
        have sw2 : IntKind.i64.wrap (-(z + 1)) = (m : Int) := by rw [IntWalk.i64_in _ (by omega)]; exact hm
        have t2 : decide (z < 0) = true := decide_eq_true hz1
        go_wp2_with fail
        try simp only [hq]
        refine (C11.out _ (H4.out.old (by simp)) _ H4.out).mono ?_
        rintro e w3 ⟨D, rfl, hl, h5⟩
        obtain ⟨nm, L, A, c⟩ := D
        have hnm : nm = d.name := hl.name
        subst hnm
        have hLn : L.length = n := HLK.out _ hl
        have HL := Lib.hid hl
        obtain ⟨p, hp⟩ : ∃ p, m % 4 = p := ⟨_, rfl⟩
        have hp4 : p < 4 := by rw [← hp]; exact Nat.mod_lt _ (by decide)
        have hmn : ((m : Int) % 4) = (p : Int) := by rw [← hp]; rfl
        have htm : Int.tmod (m : Int) 4 = (p : Int) := by rw [Int.tmod_eq_emod_of_nonneg (by omega)]; exact hmn
        have swi : IntKind.i64.wrap (p : Int) = p := IntWalk.i64_in _ (by omega)
        obtain ⟨q2, hq2⟩ : ∃ q, w3.heap.size = q := ⟨_, rfl⟩
        have h6 := h5.new #[.string d.name, .slice A n c] 24
        have hs6 : (w3.alloc (.cells #[.string d.name, .slice A n c] 24)).heap.size = w3.heap.size + 1 := by simp
        have h7 := h6.new #[.string ⟨#[122, 122, 122, 122, 122, 122, 122, 122]⟩, .int .i64 3, .int .i64 (p : Int), .slice none 0 0, .slice none 0 0] 35
        rw [hs6, hq2] at h7
        have h77 : Sat w _ (Blk (q2 + 1) 35 [.string zName, .int .i64 3, .int .i64 (p : Int), .slice none 0 0, .slice none 0 0] :: Blk q2 24 [.string d.name, .slice A n c] :: OwnP ⟨d.name, L, A, c⟩ :: [Blk q 40 (coL a fa), Blk b 24 [.string d.name, .slice AA n d.c], Old w]) := h7
        rw [HZN.out] at h77
        have H7 := Lib.hid h77
        have HLn := Lib.hid hLn
        clear h5 h6 h7 h77 hs6 hl hLn hp H4 e0 e1
        go_wp2_with fail
        try simp only [hq2]
        go_loopw [11] (GwRel w [Blk (q2 + 1) 35 [.string zn, .int .i64 3, .int .i64 (p : Int), .slice none 0 0, .slice none 0 0], Blk q2 24 [.string d.name, .slice A n c], OwnP ⟨d.name, L, A, c⟩, Blk q 40 (coL a fa), Blk b 24 [.string d.name, .slice AA n d.c], Old w] d zn n) (fun x _ => n - (intOf x).toNat)
        case atStart => exact ⟨0, Nat.zero_le _, rfl, H7.out, fun j hj => absurd hj (Nat.not_lt_zero _)⟩
        case round =>
          obtain ⟨k, hk, rfl, hS, hne⟩ := hrel
          clear H7
          have b1 : wr.cell? ⟨b, 1, none⟩ = some (.slice AA n d.c) := hS.r5.blk.cell 1
          by_cases hlt : k < n
          · have hk1 : k < d.steps.length := by rw [HN.out]; exact hlt
            obtain ⟨g, o, e1, s0, s1, s2, s3, s4⟩ := step_at d (HD.out.keep (hS.old (by simp))) k hk1
            obtain rfl : AA = some ⟨g, o, none⟩ := HAA.out.symm.trans e1
            rw [name_at d k hk1] at s0
            obtain ⟨x0, hx0⟩ : ∃ x, nameAt d k = x := ⟨_, rfl⟩
            rw [hx0] at s0
            have c0 : wr.cell? ⟨q2 + 1, 0, none⟩ = some (.string zn) := hS.blk.cell 0
            have HS := Lib.hid hS
            have HNE := Lib.hid hne
            have HX0 := Lib.hid hx0
            clear hS hne hx0 s1 s2 s3 s4 e1 hk1
            by_cases he : x0 = zn
            · have t1 : (x0.toList == zn.toList) = true := str_yes he
              clear he
              go_wp2_with fail
              go_quiet (fail)
              go_wp2_with fail
              refine (C21.out _ ((HS.out.drewN _).old (by simp))).mono ?_
              rintro e w5 ⟨rfl, hb5⟩
              have H9 := Lib.hid (((HS.out.drewN _).below hb5).old (by simp))
              clear hb5 HS
              go_wp2_with fail
              go_ret
              exact ⟨rfl, by have h9 := H9.out; first | exact h9 | (rw [hb] at h9; exact h9)⟩
            · have t1 : (x0.toList == zn.toList) = false := str_no he
              have H2 : Hid (∀ j, j < k + 1 → nameAt d j ≠ zn) := fun j hj => by
                by_cases e : j = k
                · subst e; rw [HX0.out]; exact he
                · exact HNE.out j (by omega)
              clear he
              go_wp2_with fail
              go_quiet (fail)
              go_wp2_with fail
              go_roundw
              case rel => exact ⟨k + 1, by omega, by go_num, HS.out.drewN _, H2.out⟩
              case measure => simp [intOf]; omega
          · obtain rfl : k = n := by omega
            obtain ⟨A3, hA3⟩ : ∃ x : Unit, x = () := ⟨_, rfl⟩
            have h8 : Sat w wr (Row 35 5 A L.length c (stepsC L) :: sep (L.map stP) :: [Blk (q2 + 1) 35 [.string zn, .int .i64 3, .int .i64 (p : Int), .slice none 0 0, .slice none 0 0], Blk q2 24 [.string d.name, .slice A k c], Blk q 40 (coL a fa), Blk b 24 [.string d.name, .slice AA k d.c], Old w]) := hS.r3.open_
            rw [HLn.out] at h8
            have CM2 := Lib.hid (CM.out ⟨d.name, L, A, c⟩ p hp4 HL.out hne)
            have o1 : wr.cell? ⟨q2, 1, none⟩ = some (.slice A k c) := h8.r4.blk.cell 1
            have n0 : wr.cell? ⟨q2 + 1, 0, none⟩ = some (.string zn) := h8.r3.blk.cell 0
            have n1 : wr.cell? ⟨q2 + 1, 1, none⟩ = some (.int .i64 3) := h8.r3.blk.cell 1
            have n2 : wr.cell? ⟨q2 + 1, 2, none⟩ = some (.int .i64 p) := h8.r3.blk.cell 2
            have n3 : wr.cell? ⟨q2 + 1, 3, none⟩ = some (.slice none 0 0) := h8.r3.blk.cell 3
            have n4 : wr.cell? ⟨q2 + 1, 4, none⟩ = some (.slice none 0 0) := h8.r3.blk.cell 4
            obtain ⟨i35, hi35, hz35, hs35, hb35⟩ := info_parts infoSt
            have HB8 := Lib.hid (h8.new #[.string zn, .int .i64 3, .int .i64 (p : Int), .slice none 0 0, .slice none 0 0] 35)
            have hb63 : k + 1 ≤ maxLen ∧ (k + 1) * 80 ≤ 140737488355328 := by unfold maxLen; omega
            have HONE : Hid (∀ u ∈ (#[.string zn, .int .i64 3, .int .i64 (p : Int), .slice none 0 0, .slice none 0 0] : Array Value).toList, u.oneCell' = true) := by
              show ∀ u ∈ _, _
              intro u hu
              simp at hu
              rcases hu with rfl | rfl | rfl | rfl <;> rfl
            have HLEN : Hid ((#[.string zn, .int .i64 3, .int .i64 (p : Int), .slice none 0 0, .slice none 0 0] : Array Value).toList.length = 5) := rfl
            have HZC : Hid ((Value.agg #[.string ⟨#[]⟩, .int .i64 0, .int .i64 0, .slice none 0 0, .slice none 0 0]).cells.size = 5) := rfl
            have HVS : Hid (stepsC (L ++ [zS p]) = stepsC L ++ [.string zn, .int .i64 3, .int .i64 (p : Int), .slice none 0 0, .slice none 0 0]) := by
              show _ = _
              rw [stepsC_snoc, ← HZN.out]
              rfl
            clear h8 hS hne hA3 A3
            go_wp2_with (first
              | (refine wpList_bs35 rfl 70 rfl (.string zn) (.int .i64 3) (.int .i64 (p : Int)) (.slice none 0 0) (.slice none 0 0) rfl ?_)
              | (at_builtin; refine wpList_app1 rfl (.tmp 69) (.tmp 71) 22 rfl 35 i35 _ 5 80 Tryd.underlying22 hi35 hz35 hs35 hb35 HZC.out (by decide) rfl HB8.out rfl HLEN.out HONE.out hb63.1 hb63.2 ?_; intro A3 c3 W8 hS8; have q1 : W8.cell? ⟨q2, 1, none⟩ = some (.slice A k c) := hS8.r4.blk.cell 1; have qf := hS8.r4.blk.free 1; have HX := Lib.hid (hS8.r4.set 1 (.slice A3 (k + 1) c3)); have k0 := HX.out.blk.cell 0; have k1 := HX.out.blk.cell 1; clear hS8))
            obtain ⟨b2, g, hlt2, hle, hltp, CC⟩ := CM2.out A3 c3
            have HCC : Hid (∀ (F : List HP) (w1 : World), Sat w w1 (Row 35 5 A3 (k + 1) c3 (stepsC (L ++ [zS p])) :: sep (L.map stP) :: F) → Old w ∈ F →
              Calls Tryd.prog 16 #[.agg #[.string d.name, .slice A3 (k + 1) c3]] w1 fun e w' => e = .returned (.tuple #[.agg #[.int .i64 (b2 : Nat), .int .i64 (g 0 : Nat), .int .i64 (g 1 : Nat), .int .i64 (g 2 : Nat), .int .i64 (g 3 : Nat)], .int .i64 0]) ∧ Below w1.heap.size w1 w') := CC
            have h99 : Sat w _ (Row 35 5 A3 (k + 1) c3 (stepsC L ++ [.string zn, .int .i64 3, .int .i64 (p : Int), .slice none 0 0, .slice none 0 0]) :: sep (L.map stP) :: Blk q2 24 [.string d.name, .slice A3 (k + 1) c3] :: [Blk (q2 + 1) 35 [.string zn, .int .i64 3, .int .i64 (p : Int), .slice none 0 0, .slice none 0 0], Blk q 40 (coL a fa), Blk b 24 [.string d.name, .slice AA k d.c], Old w]) := HX.out.b3
            rw [← HVS.out] at h99
            have H9 := Lib.hid h99
            clear h99 HX CC q1 qf k0 k1 CM2 HB8 HONE HLEN HZC HVS n0 n1 n2 n3 n4 o1 hi35 hz35 hs35 hb35 hb63 b1
            refine (HCC.out _ _ H9.out (by simp)).mono ?_
            rintro e w10 ⟨rfl, hb10⟩
            obtain ⟨q4, hq4⟩ : ∃ q, w10.heap.size = q := ⟨_, rfl⟩
            have h11 := (H9.out.below hb10).new #[.int .i64 (b2 : Nat), .int .i64 (g 0 : Nat), .int .i64 (g 1 : Nat), .int .i64 (g 2 : Nat), .int .i64 (g 3 : Nat)] 40
            rw [hq4] at h11
            have h12 : Sat w _ [Blk q4 40 (coL b2 g), Blk q 40 (coL a fa), Blk b 24 [.string d.name, .slice AA k d.c], Old w] := h11.r2.tail.r2.tail.r2.tail.r2.tail
            have y0 := (h12.blk.cell 0).trans (show (coL b2 g)[0]? = some (.int .i64 (b2 : Nat)) from rfl)
            have x0 := (h12.r2.blk.cell 0).trans (show (coL a fa)[0]? = some (.int .i64 (a : Nat)) from rfl)
            have yp := (h12.blk.cell (1 + p)).trans (coL_get b2 g p hp4)
            have xp := (h12.r2.blk.cell (1 + p)).trans (coL_get a fa p hp4)
            have hp0 : (p : Int) < 4 := by omega
            have dt0 : decide ((b2 : Int) ≤ (a : Int)) = false := decide_eq_false (by omega)
            have dn0 : ¬ b2 ≤ a := by omega
            have dt1 : decide (((g p : Nat) : Int) ≤ ((fa p : Nat) : Int)) = false := decide_eq_false (by omega)
            have dn1 : ¬ g p ≤ fa p := by omega
            have H12 := Lib.hid h12
            have HLE := Lib.hid hle
            clear h11 h12 hb10 H9 HCC hle hltp hlt2
            go_wp2_with fail
            try simp only [hq4]
            go_quiet (fail)
            go_wp2_with fail
            go_loopw [14] (So2 w [Blk q4 40 (coL b2 g), Blk q 40 (coL a fa), Blk b 24 [.string d.name, .slice AA k d.c], Old w] 4) (fun x _ => 4 - (intOf x).toNat)
            case atStart => exact ⟨0, Nat.zero_le _, rfl, H12.out.drewN _⟩
            case round =>
              obtain ⟨j, hj, rfl, hS⟩ := hrel
              clear H12 x0 y0 xp yp dt0 dn0 dt1 dn1
              by_cases hj4 : j < 4
              · have yj : wr.cell? ⟨q4, 1 + j, none⟩ = some (.int .i64 (g j : Nat)) := by rw [hS.blk.cell (1 + j), coL_get _ _ j hj4]
                have xj : wr.cell? ⟨q, 1 + j, none⟩ = some (.int .i64 (fa j : Nat)) := by rw [hS.r2.blk.cell (1 + j), coL_get _ _ j hj4]
                have hlej := HLE.out j
                have dt : decide (((g j : Nat) : Int) < ((fa j : Nat) : Int)) = false := decide_eq_false (by omega)
                have dn : ¬ g j < fa j := by omega
                have hj0 : (j : Int) < 4 := by omega
                have HS := Lib.hid hS
                clear hS hlej
                go_wp2_with fail
                go_quiet (fail)
                go_wp2_with fail
                go_roundw
                case rel => exact ⟨j + 1, by omega, by go_num, HS.out.drewN _⟩
                case measure => simp [intOf]; omega
              · obtain rfl : j = 4 := by omega
                have HS := Lib.hid hS
                clear hS
                go_wp2_with fail
                refine (C21.out _ (HS.out.old (by simp))).mono ?_
                rintro e w5 ⟨rfl, hb5⟩
                have H9 := Lib.hid ((HS.out.below hb5).old (by simp))
                clear hb5 HS
                go_wp2_with fail
                go_ret
                exact ⟨rfl, by have h9 := H9.out; first | exact h9 | (rw [hb] at h9; exact h9)⟩
      · obtain ⟨m, rfl⟩ : ∃ m : Nat, z = (m : Int) := ⟨z.toNat, by omega⟩
        have t2 : decide ((m : Int) < 0) = false := decide_eq_false hz1
        go_wp2_with fail
        try simp only [hq]
        refine (C11.out _ (H4.out.old (by simp)) _ H4.out).mono ?_
        rintro e w3 ⟨D, rfl, hl, h5⟩
        obtain ⟨nm, L, A, c⟩ := D
        have hnm : nm = d.name := hl.name
        subst hnm
        have hLn : L.length = n := HLK.out _ hl
        have HL := Lib.hid hl
        obtain ⟨p, hp⟩ : ∃ p, m % 4 = p := ⟨_, rfl⟩
        have hp4 : p < 4 := by rw [← hp]; exact Nat.mod_lt _ (by decide)
        have hmn : ((m : Int) % 4) = (p : Int) := by rw [← hp]; rfl
        have htm : Int.tmod (m : Int) 4 = (p : Int) := by rw [Int.tmod_eq_emod_of_nonneg (by omega)]; exact hmn
        have swi : IntKind.i64.wrap (p : Int) = p := IntWalk.i64_in _ (by omega)
        obtain ⟨q2, hq2⟩ : ∃ q, w3.heap.size = q := ⟨_, rfl⟩
        have h6 := h5.new #[.string d.name, .slice A n c] 24
        have hs6 : (w3.alloc (.cells #[.string d.name, .slice A n c] 24)).heap.size = w3.heap.size + 1 := by simp
        have h7 := h6.new #[.string ⟨#[122, 122, 122, 122, 122, 122, 122, 122]⟩, .int .i64 3, .int .i64 (p : Int), .slice none 0 0, .slice none 0 0] 35
        rw [hs6, hq2] at h7
        have h77 : Sat w _ (Blk (q2 + 1) 35 [.string zName, .int .i64 3, .int .i64 (p : Int), .slice none 0 0, .slice none 0 0] :: Blk q2 24 [.string d.name, .slice A n c] :: OwnP ⟨d.name, L, A, c⟩ :: [Blk q 40 (coL a fa), Blk b 24 [.string d.name, .slice AA n d.c], Old w]) := h7
        rw [HZN.out] at h77
        have H7 := Lib.hid h77
        have HLn := Lib.hid hLn
        clear h5 h6 h7 h77 hs6 hl hLn hp H4 e0 e1
        go_wp2_with fail
        try simp only [hq2]
        go_loopw [11] (GwRel w [Blk (q2 + 1) 35 [.string zn, .int .i64 3, .int .i64 (p : Int), .slice none 0 0, .slice none 0 0], Blk q2 24 [.string d.name, .slice A n c], OwnP ⟨d.name, L, A, c⟩, Blk q 40 (coL a fa), Blk b 24 [.string d.name, .slice AA n d.c], Old w] d zn n) (fun x _ => n - (intOf x).toNat)
        case atStart => exact ⟨0, Nat.zero_le _, rfl, H7.out, fun j hj => absurd hj (Nat.not_lt_zero _)⟩
        case round =>
          obtain ⟨k, hk, rfl, hS, hne⟩ := hrel
          clear H7
          have b1 : wr.cell? ⟨b, 1, none⟩ = some (.slice AA n d.c) := hS.r5.blk.cell 1
          by_cases hlt : k < n
          · have hk1 : k < d.steps.length := by rw [HN.out]; exact hlt
            obtain ⟨g, o, e1, s0, s1, s2, s3, s4⟩ := step_at d (HD.out.keep (hS.old (by simp))) k hk1
            obtain rfl : AA = some ⟨g, o, none⟩ := HAA.out.symm.trans e1
            rw [name_at d k hk1] at s0
            obtain ⟨x0, hx0⟩ : ∃ x, nameAt d k = x := ⟨_, rfl⟩
            rw [hx0] at s0
            have c0 : wr.cell? ⟨q2 + 1, 0, none⟩ = some (.string zn) := hS.blk.cell 0
            have HS := Lib.hid hS
            have HNE := Lib.hid hne
            have HX0 := Lib.hid hx0
            clear hS hne hx0 s1 s2 s3 s4 e1 hk1
            by_cases he : x0 = zn
            · have t1 : (x0.toList == zn.toList) = true := str_yes he
              clear he
              go_wp2_with fail
              go_quiet (fail)
              go_wp2_with fail
              refine (C21.out _ ((HS.out.drewN _).old (by simp))).mono ?_
              rintro e w5 ⟨rfl, hb5⟩
              have H9 := Lib.hid (((HS.out.drewN _).below hb5).old (by simp))
              clear hb5 HS
              go_wp2_with fail
              go_ret
              exact ⟨rfl, by have h9 := H9.out; first | exact h9 | (rw [hb] at h9; exact h9)⟩
            · have t1 : (x0.toList == zn.toList) = false := str_no he
              have H2 : Hid (∀ j, j < k + 1 → nameAt d j ≠ zn) := fun j hj => by
                by_cases e : j = k
                · subst e; rw [HX0.out]; exact he
                · exact HNE.out j (by omega)
              clear he
              go_wp2_with fail
              go_quiet (fail)
              go_wp2_with fail
              go_roundw
              case rel => exact ⟨k + 1, by omega, by go_num, HS.out.drewN _, H2.out⟩
              case measure => simp [intOf]; omega
          · obtain rfl : k = n := by omega
            obtain ⟨A3, hA3⟩ : ∃ x : Unit, x = () := ⟨_, rfl⟩
            have h8 : Sat w wr (Row 35 5 A L.length c (stepsC L) :: sep (L.map stP) :: [Blk (q2 + 1) 35 [.string zn, .int .i64 3, .int .i64 (p : Int), .slice none 0 0, .slice none 0 0], Blk q2 24 [.string d.name, .slice A k c], Blk q 40 (coL a fa), Blk b 24 [.string d.name, .slice AA k d.c], Old w]) := hS.r3.open_
            rw [HLn.out] at h8
            have CM2 := Lib.hid (CM.out ⟨d.name, L, A, c⟩ p hp4 HL.out hne)
            have o1 : wr.cell? ⟨q2, 1, none⟩ = some (.slice A k c) := h8.r4.blk.cell 1
            have n0 : wr.cell? ⟨q2 + 1, 0, none⟩ = some (.string zn) := h8.r3.blk.cell 0
            have n1 : wr.cell? ⟨q2 + 1, 1, none⟩ = some (.int .i64 3) := h8.r3.blk.cell 1
            have n2 : wr.cell? ⟨q2 + 1, 2, none⟩ = some (.int .i64 p) := h8.r3.blk.cell 2
            have n3 : wr.cell? ⟨q2 + 1, 3, none⟩ = some (.slice none 0 0) := h8.r3.blk.cell 3
            have n4 : wr.cell? ⟨q2 + 1, 4, none⟩ = some (.slice none 0 0) := h8.r3.blk.cell 4
            obtain ⟨i35, hi35, hz35, hs35, hb35⟩ := info_parts infoSt
            have HB8 := Lib.hid (h8.new #[.string zn, .int .i64 3, .int .i64 (p : Int), .slice none 0 0, .slice none 0 0] 35)
            have hb63 : k + 1 ≤ maxLen ∧ (k + 1) * 80 ≤ 140737488355328 := by unfold maxLen; omega
            have HONE : Hid (∀ u ∈ (#[.string zn, .int .i64 3, .int .i64 (p : Int), .slice none 0 0, .slice none 0 0] : Array Value).toList, u.oneCell' = true) := by
              show ∀ u ∈ _, _
              intro u hu
              simp at hu
              rcases hu with rfl | rfl | rfl | rfl <;> rfl
            have HLEN : Hid ((#[.string zn, .int .i64 3, .int .i64 (p : Int), .slice none 0 0, .slice none 0 0] : Array Value).toList.length = 5) := rfl
            have HZC : Hid ((Value.agg #[.string ⟨#[]⟩, .int .i64 0, .int .i64 0, .slice none 0 0, .slice none 0 0]).cells.size = 5) := rfl
            have HVS : Hid (stepsC (L ++ [zS p]) = stepsC L ++ [.string zn, .int .i64 3, .int .i64 (p : Int), .slice none 0 0, .slice none 0 0]) := by
              show _ = _
              rw [stepsC_snoc, ← HZN.out]
              rfl
            clear h8 hS hne hA3 A3
            go_wp2_with (first
              | (refine wpList_bs35 rfl 70 rfl (.string zn) (.int .i64 3) (.int .i64 (p : Int)) (.slice none 0 0) (.slice none 0 0) rfl ?_)
              | (at_builtin; refine wpList_app1 rfl (.tmp 69) (.tmp 71) 22 rfl 35 i35 _ 5 80 Tryd.underlying22 hi35 hz35 hs35 hb35 HZC.out (by decide) rfl HB8.out rfl HLEN.out HONE.out hb63.1 hb63.2 ?_; intro A3 c3 W8 hS8; have q1 : W8.cell? ⟨q2, 1, none⟩ = some (.slice A k c) := hS8.r4.blk.cell 1; have qf := hS8.r4.blk.free 1; have HX := Lib.hid (hS8.r4.set 1 (.slice A3 (k + 1) c3)); have k0 := HX.out.blk.cell 0; have k1 := HX.out.blk.cell 1; clear hS8))
            obtain ⟨b2, g, hlt2, hle, hltp, CC⟩ := CM2.out A3 c3
            have HCC : Hid (∀ (F : List HP) (w1 : World), Sat w w1 (Row 35 5 A3 (k + 1) c3 (stepsC (L ++ [zS p])) :: sep (L.map stP) :: F) → Old w ∈ F →
              Calls Tryd.prog 16 #[.agg #[.string d.name, .slice A3 (k + 1) c3]] w1 fun e w' => e = .returned (.tuple #[.agg #[.int .i64 (b2 : Nat), .int .i64 (g 0 : Nat), .int .i64 (g 1 : Nat), .int .i64 (g 2 : Nat), .int .i64 (g 3 : Nat)], .int .i64 0]) ∧ Below w1.heap.size w1 w') := CC
            have h99 : Sat w _ (Row 35 5 A3 (k + 1) c3 (stepsC L ++ [.string zn, .int .i64 3, .int .i64 (p : Int), .slice none 0 0, .slice none 0 0]) :: sep (L.map stP) :: Blk q2 24 [.string d.name, .slice A3 (k + 1) c3] :: [Blk (q2 + 1) 35 [.string zn, .int .i64 3, .int .i64 (p : Int), .slice none 0 0, .slice none 0 0], Blk q 40 (coL a fa), Blk b 24 [.string d.name, .slice AA k d.c], Old w]) := HX.out.b3
            rw [← HVS.out] at h99
            have H9 := Lib.hid h99
            clear h99 HX CC q1 qf k0 k1 CM2 HB8 HONE HLEN HZC HVS n0 n1 n2 n3 n4 o1 hi35 hz35 hs35 hb35 hb63 b1
            refine (HCC.out _ _ H9.out (by simp)).mono ?_
            rintro e w10 ⟨rfl, hb10⟩
            obtain ⟨q4, hq4⟩ : ∃ q, w10.heap.size = q := ⟨_, rfl⟩
            have h11 := (H9.out.below hb10).new #[.int .i64 (b2 : Nat), .int .i64 (g 0 : Nat), .int .i64 (g 1 : Nat), .int .i64 (g 2 : Nat), .int .i64 (g 3 : Nat)] 40
            rw [hq4] at h11
            have h12 : Sat w _ [Blk q4 40 (coL b2 g), Blk q 40 (coL a fa), Blk b 24 [.string d.name, .slice AA k d.c], Old w] := h11.r2.tail.r2.tail.r2.tail.r2.tail
            have y0 := (h12.blk.cell 0).trans (show (coL b2 g)[0]? = some (.int .i64 (b2 : Nat)) from rfl)
            have x0 := (h12.r2.blk.cell 0).trans (show (coL a fa)[0]? = some (.int .i64 (a : Nat)) from rfl)
            have yp := (h12.blk.cell (1 + p)).trans (coL_get b2 g p hp4)
            have xp := (h12.r2.blk.cell (1 + p)).trans (coL_get a fa p hp4)
            have hp0 : (p : Int) < 4 := by omega
            have dt0 : decide ((b2 : Int) ≤ (a : Int)) = false := decide_eq_false (by omega)
            have dn0 : ¬ b2 ≤ a := by omega
            have dt1 : decide (((g p : Nat) : Int) ≤ ((fa p : Nat) : Int)) = false := decide_eq_false (by omega)
            have dn1 : ¬ g p ≤ fa p := by omega
            have H12 := Lib.hid h12
            have HLE := Lib.hid hle
            clear h11 h12 hb10 H9 HCC hle hltp hlt2
            go_wp2_with fail
            try simp only [hq4]
            go_quiet (fail)
            go_wp2_with fail
            go_loopw [14] (So2 w [Blk q4 40 (coL b2 g), Blk q 40 (coL a fa), Blk b 24 [.string d.name, .slice AA k d.c], Old w] 4) (fun x _ => 4 - (intOf x).toNat)
            case atStart => exact ⟨0, Nat.zero_le _, rfl, H12.out.drewN _⟩
            case round =>
              obtain ⟨j, hj, rfl, hS⟩ := hrel
              clear H12 x0 y0 xp yp dt0 dn0 dt1 dn1
              by_cases hj4 : j < 4
              · have yj : wr.cell? ⟨q4, 1 + j, none⟩ = some (.int .i64 (g j : Nat)) := by rw [hS.blk.cell (1 + j), coL_get _ _ j hj4]
                have xj : wr.cell? ⟨q, 1 + j, none⟩ = some (.int .i64 (fa j : Nat)) := by rw [hS.r2.blk.cell (1 + j), coL_get _ _ j hj4]
                have hlej := HLE.out j
                have dt : decide (((g j : Nat) : Int) < ((fa j : Nat) : Int)) = false := decide_eq_false (by omega)
                have dn : ¬ g j < fa j := by omega
                have hj0 : (j : Int) < 4 := by omega
                have HS := Lib.hid hS
                clear hS hlej
                go_wp2_with fail
                go_quiet (fail)
                go_wp2_with fail
                go_roundw
                case rel => exact ⟨j + 1, by omega, by go_num, HS.out.drewN _⟩
                case measure => simp [intOf]; omega
              · obtain rfl : j = 4 := by omega
                have HS := Lib.hid hS
                clear hS
                go_wp2_with fail
                refine (C21.out _ (HS.out.old (by simp))).mono ?_
                rintro e w5 ⟨rfl, hb5⟩
                have H9 := Lib.hid ((HS.out.below hb5).old (by simp))
                clear hb5 HS
                go_wp2_with fail
                go_ret
                exact ⟨rfl, by have h9 := H9.out; first | exact h9 | (rw [hb] at h9; exact h9)⟩
  · have t0 : (y != 0) = true := by simp [hy]
    have t1 : (y == 0) = false := by simp [hy]
    obtain ⟨o, p0, p1, p2, p3, rfl⟩ := HNO.out hy
    have H4 := Lib.hid (H3.out.new #[.int .i64 o, .int .i64 p0, .int .i64 p1, .int .i64 p2, .int .i64 p3] 40)
    have e0 := H4.out.r2.blk.cell 0
    have e1 := H4.out.r2.blk.cell 1
    clear hy HYES HM HNO CM16 H3
    go_wp2_with fail
    try simp only [hq]
    refine (C21.out _ (H4.out.old (by simp))).mono ?_
    rintro e w5 ⟨rfl, hb5⟩
    have H9 := Lib.hid ((H4.out.below hb5).old (by simp))
    clear hb5 H4
    go_wp2_with fail
    go_ret
    exact ⟨rfl, by have h9 := H9.out; first | exact h9 | (rw [hb] at h9; exact h9)⟩
theorem costGrows_walk (D : Df) (a1 : Int) (w : World) (hT : Lib.Utf8Tabs 0 1 w) (w0 : DefAt w D) (w1 : Fits D) (h1 : (Lit.int .i64 a1).wf = true) : Calls Tryd.prog 8 #[D.v, .int .i64 a1] w fun e w' => e = .returned (.bool true) ∧ Below w.heap.size w w' := costGrows_any D a1 (wf64_of h1) w0 w1 hT
end Go.Proofs.YtpmoanjeoaeabaaDoor
