/- The participants that a definition names: the program's Named and the document's. -/
import Derived.Test.YtpmoanjeoaeabaaDoorDT
set_option linter.unusedVariables false
set_option linter.unusedSimpArgs false
set_option linter.unnecessarySimpa false
set_option maxRecDepth 100000
namespace Go.Proofs.YtpmoanjeoaeabaaDoor
open Go.RowKit Go.ChangeShapes Go.WideShapes Go.ChangeAt
/-- the named participants, where nothing is wrong; else none -/
noncomputable def namesN (d : Df) : List Int := if (checkN d).2 = 0 then namedL d else []
theorem namesN_ok {d : Df} (h : (checkN d).2 = 0) : namesN d = namedL d := if_pos h
theorem namesN_no {d : Df} (h : (checkN d).2 ≠ 0) : namesN d = [] := if_neg h
theorem namedTo_all (d : Df) : namedTo d 4 = namedL d := rfl
attribute [local go_sem] eqArr10
theorem cpArr (d : Df) (n : Nat) (p : Nat) (hp : p < 4) : (#[Value.int .i64 (cpTo d n 0 : Nat), .int .i64 (cpTo d n 1 : Nat), .int .i64 (cpTo d n 2 : Nat), .int .i64 (cpTo d n 3 : Nat)] : Array Value)[p]? = some (.int .i64 (cpTo d n p : Nat)) := by
  have : p = 0 ∨ p = 1 ∨ p = 2 ∨ p = 3 := by omega
  rcases this with rfl | rfl | rfl | rfl <;> rfl
theorem Sat.r1new {w0 w : World} {L : List HP} (h : Sat w0 w L) (t : Nat) (v : Value) : Sat w0 (w.alloc (.cells #[v] t)) (Blk w.heap.size t [v] :: L) := h.new #[v] t
def NmRel (W : World) (L : List HP) (d : Df) (s x : Value) (wr : World) : Prop :=
  ∃ (p c : Nat) (A : Option Addr), p ≤ 4 ∧ x = .int .i64 p ∧ s = .slice A (namedTo d p).length c ∧ Sat W wr (Row 3 1 A (namedTo d p).length c (intV (namedTo d p)) :: L)
set_option maxHeartbeats 3200000 in
theorem named_any {w w0 : World} {F : List HP} (d : Df) (hD : DefAt w d) (hz : Fits d) (hT : Lib.Utf8Tabs 0 1 w) (hS : Sat w0 w F) :
    Calls Tryd.prog 18 #[d.v] w fun e w' => ∃ (A : Option Addr) (c : Nat), e = .returned (.slice A (namesN d).length c) ∧ Sat w0 w' (Row 3 1 A (namesN d).length c (intV (namesN d)) :: F) := by
  have C12 : Hid (∀ w1, Below w.heap.size w w1 → Calls Tryd.prog 12 #[d.v] w1 fun e w' => e = .returned (.tuple #[.int .i64 (checkN d).1, .int .i64 (checkN d).2]) ∧ Below w1.heap.size w1 w') := fun w1 hb => check_any d (hD.keep hb) hz.sized (tabs_keep hT hb)
  have C52 : Hid ((checkN d).2 = 0 → ∀ w1, Below w.heap.size w w1 → Calls Tryd.prog 52 #[d.v] w1 fun e w' => e = .returned (.agg #[.int .i64 (cpTo d d.steps.length 0 : Nat), .int .i64 (cpTo d d.steps.length 1 : Nat), .int .i64 (cpTo d d.steps.length 2 : Nat), .int .i64 (cpTo d d.steps.length 3 : Nat)]) ∧ Below w1.heap.size w1 w') := fun h w1 hb => parts_any d (hD.keep hb) (clean_of h).1
  have HNO : Hid ((checkN d).2 ≠ 0 → namesN d = []) := fun h => namesN_no h
  have HYES : Hid ((checkN d).2 = 0 → namesN d = namedTo d 4) := fun h => namesN_ok h
  have HPOS : Hid ((checkN d).2 = 0 → ¬ (cpTo d d.steps.length 0 = 0 ∧ cpTo d d.steps.length 1 = 0 ∧ cpTo d d.steps.length 2 = 0 ∧ cpTo d d.steps.length 3 = 0)) := fun h => by
    have hc := (clean_of h).1
    obtain ⟨p, hp, e⟩ := hc.parts 0 (by have := hc.pos; omega)
    have h1 := hc.named_pos
    rw [e, Int.toNat_natCast] at h1
    have : p = 0 ∨ p = 1 ∨ p = 2 ∨ p = 3 := by omega
    rintro ⟨g0, g1, g2, g3⟩
    rcases this with rfl | rfl | rfl | rfl <;> omega
  have HTOP : Hid (∀ p, d.steps.length ≤ 8 → cpTo d d.steps.length p ≤ 24) := fun p h => by have := cp_top d p d.steps.length; omega
  have HM : Hid ((checkN d).2 = 0 → d.steps.length ≤ 8) := fun h => (clean_of h).1.most
  obtain ⟨R, hR⟩ : ∃ R, checkN d = R := ⟨_, rfl⟩
  rw [hR] at C12 C52 HNO HYES HPOS HM
  obtain ⟨x, y⟩ := R
  have h1 := hS.new #[.string d.name, .slice d.A d.steps.length d.c] 24
  obtain ⟨b, hb⟩ : ∃ b, w.heap.size = b := ⟨_, rfl⟩
  rw [hb] at h1
  have HB0 : Hid (Below w.heap.size w (w.alloc (.cells #[.string d.name, .slice d.A d.steps.length d.c] 24))) := (Below.refl _ _).alloc (Nat.le_refl _) _
  obtain ⟨nms, hnms⟩ : ∃ l, namesN d = l := ⟨_, rfl⟩
  rw [hnms] at HNO HYES ⊢
  unfold Df.v at C12 C52 ⊢
  obtain ⟨n, hN⟩ : ∃ n, d.steps.length = n := ⟨_, rfl⟩
  have HN := Lib.hid hN
  simp only [hN] at h1 C12 C52 HPOS HTOP HM HB0 ⊢
  have H1 := Lib.hid h1
  clear h1 hD hz hR hN hT hS hnms
  go_enter Tryd.func18, Tryd.ntmps18
  go_wp2_with fail
  try simp only [hb]
  refine (C12.out _ HB0.out).mono ?_
  rintro e w1 ⟨rfl, hb1⟩
  have h2 := H1.out.below hb1
  have a0 := h2.blk.cell 0
  have a1 := h2.blk.cell 1
  have HB1 : Hid (Below w.heap.size w w1) := below_step HB0.out hb1
  have H2 := Lib.hid h2
  clear h2 hb1 H1 HB0
  by_cases hy : y = 0
  · subst hy
    have hc := HYES.out rfl
    subst hc
    have hpos := HPOS.out rfl
    have t8 := HM.out rfl
    have hq0 := HTOP.out 0 t8
    have hq1 := HTOP.out 1 t8
    have hq2 := HTOP.out 2 t8
    have hq3 := HTOP.out 3 t8
    have HCP : Hid (∀ p, p < 4 → (#[Value.int .i64 (cpTo d n 0 : Nat), .int .i64 (cpTo d n 1 : Nat), .int .i64 (cpTo d n 2 : Nat), .int .i64 (cpTo d n 3 : Nat)] : Array Value)[p]? = some (.int .i64 (cpTo d n p : Nat))) := cpArr d n
    have C := Lib.hid (C52.out rfl)
    clear HNO HYES HPOS HTOP HM C52 C12
    go_wp2_with fail
    refine (C.out _ HB1.out).mono ?_
    rintro e w2 ⟨rfl, hb2⟩
    have HB2 : Hid (Below w.heap.size w w2) := below_step HB1.out hb2
    have h3 := (H2.out.below hb2).new #[.int .i64 (cpTo d n 0 : Nat), .int .i64 (cpTo d n 1 : Nat), .int .i64 (cpTo d n 2 : Nat), .int .i64 (cpTo d n 3 : Nat)] 38
    obtain ⟨q, hq⟩ : ∃ q, w2.heap.size = q := ⟨_, rfl⟩
    rw [hq] at h3
    have H3 := Lib.hid h3
    have tq : ((((cpTo d n 0 : Nat) : Int) == 0) && ((((cpTo d n 1 : Nat) : Int) == 0) && ((((cpTo d n 2 : Nat) : Int) == 0) && (((cpTo d n 3 : Nat) : Int) == 0)))) = false := by
      rw [Bool.eq_false_iff]
      intro g
      simp only [Bool.and_eq_true, beq_iff_eq] at g
      exact hpos ⟨by omega, by omega, by omega, by omega⟩
    obtain ⟨i3, hi3, hz3, hs3, hb3⟩ := info_parts infoI
    clear h3 hb2 H2 HB1 C hpos a0 a1
    go_wp2_with fail
    try simp only [hq]
    have HGA : Hid (Sat w0 _ (Blk q 38 (cp4 d n) :: Blk b 24 [.string d.name, .slice d.A n d.c] :: F)) := H3.out
    clear H3 hq0 hq1 hq2 hq3 tq
    go_loopw [6, 22] (NmRel w0 (Blk q 38 (cp4 d n) :: Blk b 24 [.string d.name, .slice d.A n d.c] :: F) d) (fun _ x _ => 4 - (intOf x).toNat)
    case atStart => exact ⟨0, 0, none, by omega, rfl, rfl, HGA.out.nilRow 3 1⟩
    case round =>
      obtain ⟨p, c, A, hp, rfl, rfl, hS⟩ := hrel
      clear HGA
      by_cases hlt : p < 4
      · have hget := HCP.out p hlt
        have HNX := Lib.hid (namedTo_next d p)
        rw [HN.out] at HNX
        have hlen := namedTo_len d p
        obtain ⟨l, hl⟩ : ∃ l, namedTo d p = l := ⟨_, rfl⟩
        rw [hl] at hS HNX hlen ⊢
        obtain ⟨m, hm⟩ : ∃ m, cpTo d n p = m := ⟨_, rfl⟩
        rw [hm] at hget HNX
        have h63 : l.length + 1 ≤ maxLen := by unfold maxLen; omega
        have h47 : (l.length + 1) * 8 ≤ 140737488355328 := by omega
        have HS := Lib.hid hS
        clear hl hm hS
        by_cases h0 : 0 < m
        · have t0 : decide ((0 : Int) < (m : Int)) = true := decide_eq_true (by omega)
          have HX : Hid (namedTo d (p + 1) = l ++ [(p : Int)]) := by show _ = _; rw [HNX.out, if_pos h0]
          clear HNX
          go_wp2_with (first
            | (refine wpList_index38 rfl (.tmp 21) (.tmp 22) rfl _ rfl p _ hget rfl rfl hlt ?_)
            | (at_builtin; refine wpList_app1 rfl (.tmp 28) (.tmp 30) 33 rfl 3 i3 (.int .i64 0) 1 8 Tryd.underlying33 hi3 hz3 hs3 hb3 rfl (by decide) rfl (HS.out.r1new 3 (.int .i64 p)) rfl rfl (intV_one [(p : Int)]) h63 h47 ?_; intro A' c' w3 hT3))
          have HT3 : Hid (Sat w0 w3 (Row 3 1 A' (namedTo d (p + 1)).length c' (intV (namedTo d (p + 1))) :: Blk q 38 (cp4 d n) :: Blk b 24 [.string d.name, .slice d.A n d.c] :: F)) := by
            show Sat _ _ _
            rw [HX.out, List.length_append]
            unfold intV at hT3 ⊢
            rw [List.map_append]
            exact hT3
          clear hT3
          have HLEN : Hid (l.length + 1 = (namedTo d (p + 1)).length) := by show _ = _; rw [HX.out, List.length_append]; rfl
          rw [HLEN.out]
          go_roundw
          case rel => exact ⟨p + 1, c', A', by omega, by go_num, rfl, HT3.out⟩
          case measure => simp [intOf]; omega
        · have t0 : decide ((0 : Int) < (m : Int)) = false := decide_eq_false (by omega)
          have HX : Hid (namedTo d (p + 1) = l) := by show _ = _; rw [HNX.out, if_neg h0]
          clear HNX
          go_wp2_with (refine wpList_index38 rfl (.tmp 21) (.tmp 22) rfl _ rfl p _ hget rfl rfl hlt ?_)
          go_roundw
          case rel => exact ⟨p + 1, c, A, by omega, by go_num, by rw [HX.out], by rw [HX.out]; exact HS.out⟩
          case measure => simp [intOf]; omega
      · obtain rfl : p = 4 := by omega
        have HS := Lib.hid hS
        clear hS
        go_wp2_with fail
        go_ret
        exact ⟨A, c, rfl, HS.out.r2.tail.r2.tail⟩
  · have t0 : (y != 0) = true := by simp [hy]
    obtain rfl := HNO.out hy
    clear hy HYES HPOS HTOP HM C52 HNO
    go_wp2_with fail
    go_ret
    exact ⟨none, 0, rfl, H2.out.tail.nilRow 3 1⟩
/-- the document's Named: does a step name participant p? -/
def R19 (W : World) (L : List HP) (d : Df) (n : Nat) (p : Nat) (f x : Value) (wr : World) : Prop :=
  ∃ k : Nat, k ≤ n ∧ x = .int .i64 k ∧ f = .bool (hasTo d k p) ∧ Sat W wr L
set_option maxHeartbeats 3200000 in
theorem rnamed_in {w : World} (d : Df) (hD : DefAt w d) (hz : Fits d) :
    Calls Tryd.prog 19 #[d.v] w fun e w' => ∃ (A : Option Addr) (c : Nat), e = .returned (.slice A (namesN d).length c) ∧ Sat w w' [Row 3 1 A (namesN d).length c (intV (namesN d)), Old w] := by
  have C13 : Hid (∀ w1, Below w.heap.size w w1 → Calls Tryd.prog 13 #[d.v] w1 fun e w' => e = .returned (.tuple #[.int .i64 (checkN d).1, .int .i64 (checkN d).2]) ∧ Below w1.heap.size w1 w') := fun w1 hb => rcheck_any d (hD.keep hb) hz.sized
  have HNO : Hid ((checkN d).2 ≠ 0 → namesN d = []) := fun h => namesN_no h
  have HYES : Hid ((checkN d).2 = 0 → namesN d = namedTo d 4) := fun h => namesN_ok h
  have HM : Hid ((checkN d).2 = 0 → 1 ≤ d.steps.length ∧ d.steps.length ≤ 8) := fun h => ⟨(clean_of h).1.pos, (clean_of h).1.most⟩
  obtain ⟨R, hR⟩ : ∃ R, checkN d = R := ⟨_, rfl⟩
  rw [hR] at C13 HNO HYES HM
  obtain ⟨x, y⟩ := R
  have h1 := (Sat.start w).new #[.string d.name, .slice d.A d.steps.length d.c] 24
  obtain ⟨b, hb⟩ : ∃ b, w.heap.size = b := ⟨_, rfl⟩
  rw [hb] at h1
  have HB0 : Hid (Below w.heap.size w (w.alloc (.cells #[.string d.name, .slice d.A d.steps.length d.c] 24))) := (Below.refl _ _).alloc (Nat.le_refl _) _
  obtain ⟨nms, hnms⟩ : ∃ l, namesN d = l := ⟨_, rfl⟩
  rw [hnms] at HNO HYES ⊢
  unfold Df.v at C13 ⊢
  obtain ⟨n, hN⟩ : ∃ n, d.steps.length = n := ⟨_, rfl⟩
  have HN := Lib.hid hN
  have HD := Lib.hid hD
  simp only [hN] at h1 C13 HM HB0 ⊢
  have H1 := Lib.hid h1
  clear h1 hD hz hR hN hnms
  go_enter Tryd.func19, Tryd.ntmps19
  go_wp2_with fail
  try simp only [hb]
  refine (C13.out _ HB0.out).mono ?_
  rintro e w1 ⟨rfl, hb1⟩
  have h2 := H1.out.below hb1
  have HB1 : Hid (Below w.heap.size w w1) := below_step HB0.out hb1
  have H2 := Lib.hid h2
  clear h2 hb1 H1 HB0
  by_cases hy : y = 0
  · subst hy
    have hc := HYES.out rfl
    subst hc
    have hm8 := HM.out rfl
    obtain ⟨hm1, hm8⟩ := hm8
    have hA : ∃ g o, d.A = some ⟨g, o, none⟩ := by
      have h0 := HN.out
      obtain ⟨g, o, e, _⟩ := step_cells HD.out (by omega)
      exact ⟨g, o, e⟩
    obtain ⟨g, o, hA⟩ := hA
    have HA := Lib.hid hA
    rw [hA] at H2
    obtain ⟨i3, hi3, hz3, hs3, hb3⟩ := info_parts infoI
    clear HNO HYES HM C13 hA
    go_wp2_with fail
    go_loopw [5, 6] (NmRel w [Blk b 24 [.string d.name, .slice (some ⟨g, o, none⟩) n d.c], Old w] d) (fun _ x _ => 4 - (intOf x).toNat)
    case atStart => exact ⟨0, 0, none, by omega, rfl, rfl, H2.out.nilRow 3 1⟩
    case round =>
      obtain ⟨p, c, A, hp, rfl, rfl, hS⟩ := hrel
      clear H2
      by_cases hlt : p < 4
      · have HNX := Lib.hid (namedTo_next d p)
        rw [HN.out] at HNX
        have hlen := namedTo_len d p
        obtain ⟨l, hl⟩ : ∃ l, namedTo d p = l := ⟨_, rfl⟩
        rw [hl] at hS HNX hlen ⊢
        have HHC := Lib.hid (has_cp d n p)
        have h63 : l.length + 1 ≤ maxLen := by unfold maxLen; omega
        have h47 : (l.length + 1) * 8 ≤ 140737488355328 := by omega
        have HS := Lib.hid hS
        clear hl hS
        go_wp2_with fail
        go_loopw [7, 8] (R19 w [Row 3 1 A l.length c (intV l), Blk b 24 [.string d.name, .slice (some ⟨g, o, none⟩) n d.c], Old w] d n p) (fun _ x _ => n - (intOf x).toNat)
        case atStart => exact ⟨0, Nat.zero_le _, rfl, rfl, HS.out⟩
        case round =>
          obtain ⟨k, hk, rfl, rfl, hT⟩ := hrel
          clear HS
          have b1 : wr.cell? ⟨b, 1, none⟩ = some (.slice (some ⟨g, o, none⟩) n d.c) := hT.r2.blk.cell 1
          by_cases hkn : k < n
          · have hk1 : k < d.steps.length := by rw [HN.out]; exact hkn
            obtain ⟨g9, o9, e1, s0, s1, s2, s3, s4⟩ := step_at d (HD.out.keep (hT.old (by simp))) k hk1
            clear s0 s1 s3 s4
            rw [HA.out] at e1
            cases e1
            rw [part_at d k hk1] at s2
            have HNX2 := Lib.hid (hasTo_next d k p)
            obtain ⟨z, hz⟩ : ∃ z, partAt d k = z := ⟨_, rfl⟩
            rw [hz] at s2 HNX2
            have HT := Lib.hid hT
            clear hz hT hk1
            cases hh : hasTo d k p with
            | true =>
              have HX : Hid (hasTo d (k + 1) p = true) := by show _ = _; rw [HNX2.out, hh, Bool.true_or]
              clear HNX2 hh
              go_wp2_with fail
              go_roundw
              case rel => exact ⟨k + 1, by omega, by go_num, by rw [HX.out], HT.out⟩
              case measure => simp [intOf]; omega
            | false =>
              by_cases hzp : z = p
              · have HX : Hid (hasTo d (k + 1) p = true) := by show _ = _; rw [HNX2.out, hh, Bool.false_or]; exact decide_eq_true hzp
                have t : (z == (p : Int)) = true := beq_iff_eq.2 hzp
                clear HNX2 hh hzp
                go_wp2_with fail
                go_roundw
                case rel => exact ⟨k + 1, by omega, by go_num, by rw [HX.out], HT.out⟩
                case measure => simp [intOf]; omega
              · have HX : Hid (hasTo d (k + 1) p = false) := by show _ = _; rw [HNX2.out, hh, Bool.false_or]; exact decide_eq_false hzp
                have t : (z == (p : Int)) = false := beq_eq_false_iff_ne.2 hzp
                clear HNX2 hh hzp
                go_wp2_with fail
                go_roundw
                case rel => exact ⟨k + 1, by omega, by go_num, by rw [HX.out], HT.out⟩
                case measure => simp [intOf]; omega
          · obtain rfl : k = n := by omega
            have HT := Lib.hid hT
            clear hT
            by_cases h0 : 0 < cpTo d k p
            · have hh : hasTo d k p = true := by rw [HHC.out]; exact decide_eq_true h0
              have HX : Hid (namedTo d (p + 1) = l ++ [(p : Int)]) := by show _ = _; rw [HNX.out, if_pos h0]
              rw [hh]
              clear HNX h0 HHC hh
              go_wp2_with (at_builtin; refine wpList_app1 rfl (.tmp 41) (.tmp 43) 33 rfl 3 i3 (.int .i64 0) 1 8 Tryd.underlying33 hi3 hz3 hs3 hb3 rfl (by decide) rfl (HT.out.r1new 3 (.int .i64 p)) rfl rfl (intV_one [(p : Int)]) h63 h47 ?_; intro A' c' w3 hT3)
              have HT3 : Hid (Sat w w3 [Row 3 1 A' (namedTo d (p + 1)).length c' (intV (namedTo d (p + 1))), Blk b 24 [.string d.name, .slice (some ⟨g, o, none⟩) k d.c], Old w]) := by
                show Sat _ _ _
                rw [HX.out, List.length_append]
                unfold intV at hT3 ⊢
                rw [List.map_append]
                exact hT3
              clear hT3
              have HLEN : Hid (l.length + 1 = (namedTo d (p + 1)).length) := by show _ = _; rw [HX.out, List.length_append]; rfl
              rw [HLEN.out]
              go_roundw
              case rel => exact ⟨p + 1, c', A', by omega, by go_num, rfl, HT3.out⟩
              case measure => simp [intOf]; omega
            · have hh : hasTo d k p = false := by rw [HHC.out]; exact decide_eq_false h0
              have HX : Hid (namedTo d (p + 1) = l) := by show _ = _; rw [HNX.out, if_neg h0]
              rw [hh]
              clear HNX h0 HHC hh
              go_wp2_with fail
              go_roundw
              case rel => exact ⟨p + 1, c, A, by omega, by go_num, by rw [HX.out], by rw [HX.out]; exact HT.out⟩
              case measure => simp [intOf]; omega
      · obtain rfl : p = 4 := by omega
        have HS := Lib.hid hS
        clear hS
        go_wp2_with fail
        go_ret
        exact ⟨A, c, rfl, HS.out.r2.tail⟩
  · have t0 : (y == 0) = false := by simp [hy]
    obtain rfl := HNO.out hy
    clear hy HYES HM HNO
    go_wp2_with fail
    go_loopw [5, 6] (fun s x wr => s = .slice none 0 0 ∧ x = .int .i64 0 ∧ Sat w wr [Blk b 24 [.string d.name, .slice d.A n d.c], Old w]) (fun _ x _ => 4 - (intOf x).toNat)
    case atStart => exact ⟨rfl, rfl, H2.out⟩
    case round =>
      obtain ⟨rfl, rfl, hS⟩ := hrel
      have HS := Lib.hid hS
      clear hS H2
      go_wp2_with fail
      go_ret
      exact ⟨none, 0, rfl, HS.out.tail.nilRow 3 1⟩
theorem rnamed_any {w w0 : World} {F : List HP} (d : Df) (hD : DefAt w d) (hz : Fits d) (hS : Sat w0 w F) :
    Calls Tryd.prog 19 #[d.v] w fun e w' => ∃ (A : Option Addr) (c : Nat), e = .returned (.slice A (namesN d).length c) ∧ Sat w0 w' (Row 3 1 A (namesN d).length c (intV (namesN d)) :: F) :=
  (rnamed_in d hD hz).mono fun e w' ⟨A, c, he, h⟩ => ⟨A, c, he, hS.frame (X := [Row 3 1 A (namesN d).length c (intV (namesN d))]) h⟩
end Go.Proofs.YtpmoanjeoaeabaaDoor
