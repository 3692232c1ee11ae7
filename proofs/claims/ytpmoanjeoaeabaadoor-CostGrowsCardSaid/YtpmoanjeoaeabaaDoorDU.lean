/- What a definition costs: the program's Of. -/
import Derived.Test.YtpmoanjeoaeabaaDoorDS
set_option linter.unusedVariables false
set_option linter.unusedSimpArgs false
set_option linter.unnecessarySimpa false
set_option maxRecDepth 100000
namespace Go.Proofs.YtpmoanjeoaeabaaDoor
open Go.RowKit Go.ChangeShapes Go.WideShapes Go.ChangeAt
/-- the cost as its five cells -/
def coC (o : Nat) (d : Df) (n : Nat) : List Value := .int .i64 (o : Nat) :: cp4 d n
def costA (d : Df) : Value := .agg #[.int .i64 (3 + (namedL d).length + sumO d d.steps.length : Nat), .int .i64 (cpTo d d.steps.length 0 : Nat), .int .i64 (cpTo d d.steps.length 1 : Nat), .int .i64 (cpTo d d.steps.length 2 : Nat), .int .i64 (cpTo d d.steps.length 3 : Nat)]
def noCost : Value := .agg #[.int .i64 0, .int .i64 0, .int .i64 0, .int .i64 0, .int .i64 0]
noncomputable def costN (d : Df) : Value := if (checkN d).2 = 0 then .tuple #[costA d, .int .i64 0] else .tuple #[noCost, .int .i64 1]
def OfRel (W : World) (L : List HP) (q : Nat) (d : Df) (n o : Nat) (x : Value) (wr : World) : Prop :=
  ∃ k : Nat, k ≤ n ∧ x = .int .i64 k ∧ Sat W wr (Blk q 40 (coC (o + sumO d k) d n) :: L)
set_option maxHeartbeats 3200000 in
theorem of_any {w : World} (d : Df) (hD : DefAt w d) (hz : Fits d) (hT : Lib.Utf8Tabs 0 1 w) : Calls Tryd.prog 16 #[d.v] w (Quietly w (costN d)) := by
  have C12 : Hid (∀ w1, Below w.heap.size w w1 → Calls Tryd.prog 12 #[d.v] w1 fun e w' => e = .returned (.tuple #[.int .i64 (checkN d).1, .int .i64 (checkN d).2]) ∧ Below w1.heap.size w1 w') := fun w1 hb => check_any d (hD.keep hb) hz.sized (tabs_keep hT hb)
  have C52 : Hid ((checkN d).2 = 0 → ∀ w1, Below w.heap.size w w1 → Calls Tryd.prog 52 #[d.v] w1 fun e w' => e = .returned (.agg #[.int .i64 (cpTo d d.steps.length 0 : Nat), .int .i64 (cpTo d d.steps.length 1 : Nat), .int .i64 (cpTo d d.steps.length 2 : Nat), .int .i64 (cpTo d d.steps.length 3 : Nat)]) ∧ Below w1.heap.size w1 w') := fun h w1 hb => parts_any d (hD.keep hb) (clean_of h).1
  have C18 : Hid ((checkN d).2 = 0 → ∀ w1 F, Below w.heap.size w w1 → Sat w w1 F → Calls Tryd.prog 18 #[d.v] w1 fun e w' => ∃ (A : Option Addr) (c : Nat), e = .returned (.slice A (namedL d).length c) ∧ Sat w w' F) := fun h w1 F hb hS =>
    (named_any d (hD.keep hb) hz (tabs_keep hT hb) hS).mono fun e w' ⟨A, c, he, h2⟩ => ⟨A, c, by rw [he, namesN_ok h], h2.tail⟩
  have HNO : Hid ((checkN d).2 ≠ 0 → costN d = .tuple #[noCost, .int .i64 1]) := fun h => if_neg h
  have HYES : Hid ((checkN d).2 = 0 → costN d = .tuple #[costA d, .int .i64 0]) := fun h => if_pos h
  have HM : Hid ((checkN d).2 = 0 → d.steps.length ≤ 8) := fun h => (clean_of h).1.most
  have hnl := named_len d
  obtain ⟨R, hR⟩ : ∃ R, checkN d = R := ⟨_, rfl⟩
  rw [hR] at C12 C52 C18 HNO HYES HM
  obtain ⟨x, y⟩ := R
  have h1 := (Sat.start w).new #[.string d.name, .slice d.A d.steps.length d.c] 24
  obtain ⟨b, hb⟩ : ∃ b, w.heap.size = b := ⟨_, rfl⟩
  have hs1 : (w.alloc (.cells #[.string d.name, .slice d.A d.steps.length d.c] 24)).heap.size = w.heap.size + 1 := by simp
  have h2 := h1.new #[.int .i64 0, .int .i64 0, .int .i64 0, .int .i64 0, .int .i64 0] 40
  rw [hs1, hb] at h2
  obtain ⟨cn, hcn⟩ : ∃ l, costN d = l := ⟨_, rfl⟩
  rw [hcn] at HNO HYES ⊢
  unfold Df.v at C12 C52 C18 ⊢
  unfold costA at HYES
  unfold noCost at HNO
  unfold Quietly
  obtain ⟨n, hN⟩ : ∃ n, d.steps.length = n := ⟨_, rfl⟩
  have HN := Lib.hid hN
  have HD := Lib.hid hD
  simp only [hN] at h2 C12 C52 C18 HM HYES ⊢
  obtain ⟨AA, hAA⟩ : ∃ x, d.A = x := ⟨_, rfl⟩
  have HAA := Lib.hid hAA
  simp only [hAA] at h2 C12 C52 C18 ⊢
  obtain ⟨nl, hnl2⟩ : ∃ n, (namedL d).length = n := ⟨_, rfl⟩
  simp only [hnl2] at hnl C18 HYES
  have H2 := Lib.hid h2
  clear h1 h2 hD hz hR hN hT hcn hs1 hnl2 hAA
  go_enter Tryd.func16, Tryd.ntmps16
  go_wp2_with fail
  try simp only [hb]
  refine (C12.out _ (H2.out.old (by simp))).mono ?_
  rintro e w1 ⟨rfl, hb1⟩
  have h3 := H2.out.below hb1
  have a0 := h3.r2.blk.cell 0
  have a1 := h3.r2.blk.cell 1
  have r0 := h3.blk.cell 0
  have r1 := h3.blk.cell 1
  have r2 := h3.blk.cell 2
  have r3 := h3.blk.cell 3
  have r4 := h3.blk.cell 4
  have f0 := h3.blk.free 0
  have f1 := h3.blk.free 1
  have f2 := h3.blk.free 2
  have f3 := h3.blk.free 3
  have f4 := h3.blk.free 4
  have H3 := Lib.hid h3
  clear h3 hb1 H2
  by_cases hy : y = 0
  · subst hy
    have hc := HYES.out rfl
    subst hc
    have hm8 := HM.out rfl
    have CC52 := Lib.hid (C52.out rfl)
    have CC18 := Lib.hid (C18.out rfl)
    clear HNO HYES HM C52 C18 C12 r0 r1 r2 r3 r4 f0 f1 f2 f3 f4
    go_wp2_with fail
    have CS18 : Hid (∀ w1 F, Sat w w1 F → Old w ∈ F → Calls Tryd.prog 18 #[.agg #[.string d.name, .slice AA n d.c]] w1 fun e w' => ∃ (A : Option Addr) (c : Nat), e = .returned (.slice A nl c) ∧ Sat w w' F) := fun w1 F h hm => CC18.out w1 F (h.old hm) h
    have CS52 : Hid (∀ w1 F, Sat w w1 F → Old w ∈ F → Calls Tryd.prog 52 #[.agg #[.string d.name, .slice AA n d.c]] w1 fun e w' => e = .returned (.agg #[.int .i64 (cpTo d n 0 : Nat), .int .i64 (cpTo d n 1 : Nat), .int .i64 (cpTo d n 2 : Nat), .int .i64 (cpTo d n 3 : Nat)]) ∧ Sat w w' F) := fun w1 F h hm =>
      (CC52.out w1 (h.old hm)).mono fun e w' ⟨he, hb⟩ => ⟨he, h.below hb⟩
    have SW0 : Hid (IntKind.i64.wrap (3 + (nl : Int)) = ((3 + nl + sumO d 0 : Nat) : Int)) := by
      show _ = _
      rw [IntWalk.i64_in _ (by omega)]
      show (3 : Int) + nl = ((3 + nl + 0 : Nat) : Int)
      omega
    have HA3 := Lib.hid H3.out.drew
    have HN3 := Lib.hid (H3.out.new #[.int .i64 0, .int .i64 0, .int .i64 0, .int .i64 0, .int .i64 0] 40).b4.drew
    have n0 := cell_alloc (.cells #[.int .i64 0, .int .i64 0, .int .i64 0, .int .i64 0, .int .i64 0] 40) a0
    have n1 := cell_alloc (.cells #[.int .i64 0, .int .i64 0, .int .i64 0, .int .i64 0, .int .i64 0] 40) a1
    clear CC18 CC52
    go_cut [6] (fun s wx => ∃ q, s = .pointer (some ⟨q, 0, none⟩) ∧ Sat w wx [Blk q 40 (coC (3 + nl + sumO d 0) d n), Blk (b + 1) 40 [.int .i64 0, .int .i64 0, .int .i64 0, .int .i64 0, .int .i64 0], Blk b 24 [.string d.name, .slice AA n d.c], Old w])
    case first =>
      go_region_with (first
        | (go_at_call 18; (first | with_reducible refine (CS18.out _ _ HA3.out ?_).mono ?_ | with_reducible refine (CS18.out _ _ HN3.out ?_).mono ?_); simp; rintro e w5 ⟨A, c, rfl, h5⟩; have x0 := h5.r2.blk.cell 0; have x1 := h5.r2.blk.cell 1; have h5n := (h5.new #[.int .i64 0, .int .i64 0, .int .i64 0, .int .i64 0, .int .i64 0] 40).b4; have z0 := cell_alloc (.cells #[.int .i64 0, .int .i64 0, .int .i64 0, .int .i64 0, .int .i64 0] 40) x0; have z1 := cell_alloc (.cells #[.int .i64 0, .int .i64 0, .int .i64 0, .int .i64 0, .int .i64 0] 40) x1)
        | (go_at_call 52; (first | with_reducible refine (CS52.out _ _ h5 ?_).mono ?_ | with_reducible refine (CS52.out _ _ h5n ?_).mono ?_); simp; rintro e w6 ⟨rfl, h6⟩; (try have y0 := h6.r4.blk.cell 0); (try have y1 := h6.r4.blk.cell 1); (try have y2 := h6.r4.blk.cell 2); (try have y3 := h6.r4.blk.cell 3); (try have y4 := h6.r4.blk.cell 4); (try have g0 := h6.r4.blk.free 0); (try have g1 := h6.r4.blk.free 1); (try have g2 := h6.r4.blk.free 2); (try have g3 := h6.r4.blk.free 3); (try have g4 := h6.r4.blk.free 4)))
      all_goals
        rw [SW0.out]
        go_wp2_with fail
        go_meet
        first
          | (have hyy := y0; clear y0 y1 y2 y3 y4; exact ⟨_, rfl, ((((h6.r4.set 0 (.int .i64 (3 + nl + sumO d 0 : Nat))).set 1 (.int .i64 (cpTo d n 0 : Nat))).set 2 (.int .i64 (cpTo d n 1 : Nat))).set 3 (.int .i64 (cpTo d n 2 : Nat))).set 4 (.int .i64 (cpTo d n 3 : Nat))⟩)
          | exact ⟨_, rfl, h6.new #[.int .i64 (3 + nl + sumO d 0 : Nat), .int .i64 (cpTo d n 0 : Nat), .int .i64 (cpTo d n 1 : Nat), .int .i64 (cpTo d n 2 : Nat), .int .i64 (cpTo d n 3 : Nat)] 40⟩
    case rest =>
      obtain ⟨q, rfl, hS⟩ := hcut
      have HCS := Lib.hid hS
      have a1 := hS.r3.blk.cell 1
      clear hS HA3 HN3 n0 n1 CS18 CS52 H3 SW0 a0
      go_wp2_with fail
      go_loopw [8, 27] (fun _ x => OfRel w [Blk (b + 1) 40 [.int .i64 0, .int .i64 0, .int .i64 0, .int .i64 0, .int .i64 0], Blk b 24 [.string d.name, .slice AA n d.c], Old w] q d n (3 + nl) x) (fun _ x _ => n - (intOf x).toNat)
      case atStart => exact ⟨0, Nat.zero_le _, rfl, HCS.out⟩
      case round =>
        obtain ⟨k, hk, rfl, hS⟩ := hrel
        clear HCS a1
        have h9 := hS.old (by simp)
        by_cases hlt : k < n
        · have hk1 : k < d.steps.length := by rw [HN.out]; exact hlt
          obtain ⟨g, o, e1, s0, s1, s2, s3, s4⟩ := step_at d (HD.out.keep h9) k hk1
          have hke := kind_at d k hk1
          obtain ⟨s, hs⟩ : ∃ x, d.steps[k] = x := ⟨_, rfl⟩
          rw [hs] at s0 s1 s2 s3 s4 hke
          have c0 : wr.cell? ⟨q, 0, none⟩ = some (.int .i64 (3 + nl + sumO d k : Nat)) := hS.blk.cell 0
          have f0 := hS.blk.free 0
          have HTOP := Lib.hid (sumO_top d k)
          have HOW := Lib.hid (ownK_pos (kindAt d k))
          have HOWN : Hid (∀ w1, Calls Tryd.prog 53 #[.agg #[.string s.name, .int .i64 s.kind, .int .i64 s.part, .slice s.kA s.keys.length s.kc, .slice s.nA s.needs.length s.nc]] w1 fun e w' => e = .returned (.int .i64 (ownK (kindAt d k) : Nat)) ∧ Below w1.heap.size w1 w') := fun w1 => by
            rw [← hke]
            exact own_any s
          have HNXT : Hid (3 + nl + sumO d (k + 1) = 3 + nl + sumO d k + (ownK (kindAt d k) + 1)) := by show 3 + nl + (sumO d k + (ownK (kindAt d k) + 1)) = _; omega
          obtain ⟨c, hcc⟩ : ∃ c, 3 + nl + sumO d k = c := ⟨_, rfl⟩
          obtain ⟨u, hu⟩ : ∃ u, ownK (kindAt d k) = u := ⟨_, rfl⟩
          have hct : c ≤ 40 := by have := HTOP.out; omega
          have hu2 : u ≤ 2 := by have := HOW.out.2; omega
          rw [hcc] at c0 HNXT hS
          rw [hu] at HNXT HOWN
          have HS := Lib.hid hS
          obtain rfl : AA = some ⟨g, o, none⟩ := HAA.out.symm.trans e1
          clear hs hke hS hcc hu hk1 HTOP HOW
          obtain ⟨qq, hqq⟩ : ∃ q, wr.heap.size = q := ⟨_, rfl⟩
          have h3 := HS.out.new #[.string s.name, .int .i64 s.kind, .int .i64 s.part, .slice s.kA s.keys.length s.kc, .slice s.nA s.needs.length s.nc] 35
          rw [hqq] at h3
          have x0 := cell_alloc (.cells #[.string s.name, .int .i64 s.kind, .int .i64 s.part, .slice s.kA s.keys.length s.kc, .slice s.nA s.needs.length s.nc] 35) c0
          have H3 := Lib.hid h3
          have xf := H3.out.r2.blk.free 0
          clear h3 e1
          go_wp2_with fail
          try simp only [hqq]
          obtain ⟨W5, hW5⟩ : ∃ x, x = wr.alloc (.cells #[.string s.name, .int .i64 s.kind, .int .i64 s.part, .slice s.kA s.keys.length s.kc, .slice s.nA s.needs.length s.nc] 35) := ⟨_, rfl⟩
          rw [← hW5] at H3 x0 ⊢
          clear hW5
          have m0 : W5.cell? ⟨qq, 0, none⟩ = some (.string s.name) := H3.out.blk.cell 0
          have m1 : W5.cell? ⟨qq, 1, none⟩ = some (.int .i64 s.kind) := H3.out.blk.cell 1
          have m2 : W5.cell? ⟨qq, 2, none⟩ = some (.int .i64 s.part) := H3.out.blk.cell 2
          have m3 : W5.cell? ⟨qq, 3, none⟩ = some (.slice s.kA s.keys.length s.kc) := H3.out.blk.cell 3
          have m4 : W5.cell? ⟨qq, 4, none⟩ = some (.slice s.nA s.needs.length s.nc) := H3.out.blk.cell 4
          have SW1 : Hid (IntKind.i64.wrap ((u : Int) + 1) = (u : Int) + 1) := IntWalk.i64_in _ (by omega)
          have SW2 : Hid (IntKind.i64.wrap ((c : Int) + ((u : Int) + 1)) = ((3 + nl + sumO d (k + 1) : Nat) : Int)) := by
            show _ = _
            rw [IntWalk.i64_in _ (by omega), HNXT.out]
            omega
          go_region_with (first | (go_at_call 53; refine (HOWN.out _).mono ?_; rintro e w6 ⟨rfl, hb6⟩; have h6 := H3.out.drew.below hb6; have n0 : w6.cell? ⟨qq, 0, none⟩ = some (.string s.name) := h6.blk.cell 0; have n1 : w6.cell? ⟨qq, 1, none⟩ = some (.int .i64 s.kind) := h6.blk.cell 1; have n2 : w6.cell? ⟨qq, 2, none⟩ = some (.int .i64 s.part) := h6.blk.cell 2; have n3 : w6.cell? ⟨qq, 3, none⟩ = some (.slice s.kA s.keys.length s.kc) := h6.blk.cell 3; have n4 : w6.cell? ⟨qq, 4, none⟩ = some (.slice s.nA s.needs.length s.nc) := h6.blk.cell 4; have x2 : w6.cell? ⟨q, 0, none⟩ = some (.int .i64 (c : Int)) := old_cell hb6 x0; have xf2 := h6.r2.blk.free 0))
          all_goals
            rw [SW1.out, SW2.out]
            have h7 := h6.r2.set 0 (.int .i64 (3 + nl + sumO d (k + 1) : Nat))
            have HF := Lib.hid h7.r2.tail
            clear h6 h7 n0 n1 n2 n3 n4 x2 xf2 m0 m1 m2 m3 m4 x0 hb6
            go_wp2_with fail
            go_roundw
            case rel => exact ⟨k + 1, by omega, by go_num, HF.out⟩
            case measure => simp [intOf]; omega
        · obtain rfl : k = n := by omega
          have c0 : wr.cell? ⟨q, 0, none⟩ = some (.int .i64 (3 + nl + sumO d k : Nat)) := hS.blk.cell 0
          have c1 : wr.cell? ⟨q, 1, none⟩ = some (.int .i64 (cpTo d k 0 : Nat)) := hS.blk.cell 1
          have c2 : wr.cell? ⟨q, 2, none⟩ = some (.int .i64 (cpTo d k 1 : Nat)) := hS.blk.cell 2
          have c3 : wr.cell? ⟨q, 3, none⟩ = some (.int .i64 (cpTo d k 2 : Nat)) := hS.blk.cell 3
          have c4 : wr.cell? ⟨q, 4, none⟩ = some (.int .i64 (cpTo d k 3 : Nat)) := hS.blk.cell 4
          have r0 := hS.r2.blk.cell 0
          have r1 := hS.r2.blk.cell 1
          have r2 := hS.r2.blk.cell 2
          have r3 := hS.r2.blk.cell 3
          have r4 := hS.r2.blk.cell 4
          have f0 := hS.r2.blk.free 0
          have f1 := hS.r2.blk.free 1
          have f2 := hS.r2.blk.free 2
          have f3 := hS.r2.blk.free 3
          have f4 := hS.r2.blk.free 4
          have hx := ((((hS.r2.set 0 (.int .i64 (3 + nl + sumO d k : Nat))).set 1 (.int .i64 (cpTo d k 0 : Nat))).set 2 (.int .i64 (cpTo d k 1 : Nat))).set 3 (.int .i64 (cpTo d k 2 : Nat))).set 4 (.int .i64 (cpTo d k 3 : Nat))
          have HX : Hid (Sat w _ [Blk (b + 1) 40 [.int .i64 (3 + nl + sumO d k : Nat), .int .i64 (cpTo d k 0 : Nat), .int .i64 (cpTo d k 1 : Nat), .int .i64 (cpTo d k 2 : Nat), .int .i64 (cpTo d k 3 : Nat)], Blk q 40 (coC (3 + nl + sumO d k) d k), Blk b 24 [.string d.name, .slice AA k d.c], Old w]) := hx
          clear hS h9 hx
          go_wp2_with fail
          refine bodyPost_ret (res40 (by rfl) HX.out (by rfl)) rfl ?_
          exact ⟨rfl, by have h9 := HX.out.old (by simp); first | exact h9 | (rw [hb] at h9; exact h9)⟩
  · have t0 : (y != 0) = true := by simp [hy]
    obtain rfl := HNO.out hy
    have hx := ((((H3.out.set 0 (.int .i64 0)).set 1 (.int .i64 0)).set 2 (.int .i64 0)).set 3 (.int .i64 0)).set 4 (.int .i64 0)
    have HX : Hid (Sat w _ [Blk (b + 1) 40 [.int .i64 0, .int .i64 0, .int .i64 0, .int .i64 0, .int .i64 0], Blk b 24 [.string d.name, .slice AA n d.c], Old w]) := hx
    clear hy HYES HM HNO hx C12 C52 C18
    go_wp2_with fail
    refine bodyPost_ret (res40 (by rfl) HX.out (by rfl)) rfl ?_
    exact ⟨rfl, by have h9 := HX.out.old (by simp); first | exact h9 | (rw [hb] at h9; exact h9)⟩
end Go.Proofs.YtpmoanjeoaeabaaDoor
