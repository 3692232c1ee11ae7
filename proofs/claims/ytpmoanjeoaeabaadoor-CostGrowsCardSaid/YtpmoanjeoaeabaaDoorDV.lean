/- What a definition costs: the document's Of. -/
import Derived.Test.YtpmoanjeoaeabaaDoorDU
set_option linter.unusedVariables false
set_option linter.unusedSimpArgs false
set_option linter.unnecessarySimpa false
set_option maxRecDepth 100000
namespace Go.Proofs.YtpmoanjeoaeabaaDoor
open Go.RowKit Go.ChangeShapes Go.WideShapes Go.ChangeAt
/-- one for each participant that is among the first j named ones -/
def inTo (d : Df) (j p : Nat) : Nat := if (p : Int) ∈ (namedL d).take j then 1 else 0
def ro4 (o : Nat) (f : Nat → Nat) : List Value := [.int .i64 (o : Nat), .int .i64 (f 0 : Nat), .int .i64 (f 1 : Nat), .int .i64 (f 2 : Nat), .int .i64 (f 3 : Nat)]
theorem ro4_get (o : Nat) (f : Nat → Nat) (p : Nat) (hp : p < 4) : (ro4 o f)[1 + p]? = some (.int .i64 (f p : Nat)) := by
  have : p = 0 ∨ p = 1 ∨ p = 2 ∨ p = 3 := by omega
  rcases this with rfl | rfl | rfl | rfl <;> rfl
theorem ro4_set (o : Nat) (f g : Nat → Nat) (p : Nat) (hp : p < 4) (h : ∀ q, q < 4 → g q = if q = p then g p else f q) : (ro4 o f).set (1 + p) (.int .i64 (g p : Nat)) = ro4 o g := by
  unfold ro4
  have h0 := h 0 (by omega)
  have h1 := h 1 (by omega)
  have h2 := h 2 (by omega)
  have h3 := h 3 (by omega)
  have : p = 0 ∨ p = 1 ∨ p = 2 ∨ p = 3 := by omega
  rcases this with rfl | rfl | rfl | rfl
  · rw [if_neg (by omega)] at h1 h2 h3; rw [h1, h2, h3]; rfl
  · rw [if_neg (by omega)] at h0 h2 h3; rw [h0, h2, h3]; rfl
  · rw [if_neg (by omega)] at h0 h1 h3; rw [h0, h1, h3]; rfl
  · rw [if_neg (by omega)] at h0 h1 h2; rw [h0, h1, h2]; rfl
theorem ro4_ext (o : Nat) {f g : Nat → Nat} (h : ∀ q, q < 4 → f q = g q) : ro4 o f = ro4 o g := by
  unfold ro4
  rw [h 0 (by omega), h 1 (by omega), h 2 (by omega), h 3 (by omega)]
theorem inTo_next (d : Df) {j : Nat} (hj : j < (namedL d).length) {p : Nat} (hp : (namedL d)[j] = p) (q : Nat) : inTo d (j + 1) q = if q = p then 1 else inTo d j q := by
  unfold inTo
  rw [List.take_succ_eq_append_getElem hj, hp]
  by_cases e : q = p
  · subst e
    rw [if_pos (by simp), if_pos rfl]
  · rw [if_neg e]
    by_cases h : (q : Int) ∈ (namedL d).take j
    · rw [if_pos (List.mem_append_left _ h), if_pos h]
    · rw [if_neg h, if_neg]
      intro g
      rcases List.mem_append.1 g with g | g
      · exact h g
      · simp at g; omega
theorem inTo_all (d : Df) (p : Nat) (hp : p < 4) : inTo d (namedL d).length p = if 0 < cpTo d d.steps.length p then 1 else 0 := by
  unfold inTo
  rw [List.take_length]
  have : (p : Int) ∈ namedL d ↔ 0 < cpTo d d.steps.length p := by
    unfold namedL
    rw [List.mem_map]
    constructor
    · rintro ⟨q, hq, e⟩
      obtain rfl : q = p := by omega
      exact of_decide_eq_true (List.mem_filter.1 hq).2
    · intro h
      exact ⟨p, List.mem_filter.2 ⟨by simpa using hp, decide_eq_true h⟩, rfl⟩
  by_cases h : 0 < cpTo d d.steps.length p
  · rw [if_pos h, if_pos (this.2 h)]
  · rw [if_neg h, if_neg fun g => h (this.1 g)]
def Ro1 (W : World) (L : List HP) (q : Nat) (d : Df) (o m : Nat) (x : Value) (wr : World) : Prop :=
  ∃ j : Nat, j ≤ m ∧ x = .int .i64 j ∧ Sat W wr (Blk q 40 (ro4 o (inTo d j)) :: L)
def Ro2 (W : World) (L : List HP) (q : Nat) (d : Df) (n o : Nat) (x : Value) (wr : World) : Prop :=
  ∃ k : Nat, k ≤ n ∧ x = .int .i64 k ∧ Sat W wr (Blk q 40 (ro4 (o + sumO d k) fun p => inTo d (namedL d).length p + smTo d k p) :: L)
set_option maxHeartbeats 3200000 in
theorem rof_any {w : World} (d : Df) (hD : DefAt w d) (hz : Fits d) : Calls Tryd.prog 17 #[d.v] w (Quietly w (costN d)) := by
  have C13 : Hid (∀ w1, Below w.heap.size w w1 → Calls Tryd.prog 13 #[d.v] w1 fun e w' => e = .returned (.tuple #[.int .i64 (checkN d).1, .int .i64 (checkN d).2]) ∧ Below w1.heap.size w1 w') := fun w1 hb => rcheck_any d (hD.keep hb) hz.sized
  have C19 : Hid ((checkN d).2 = 0 → ∀ w1 F, Below w.heap.size w w1 → Sat w w1 F → Calls Tryd.prog 19 #[d.v] w1 fun e w' => ∃ (A : Option Addr) (c : Nat), e = .returned (.slice A (namedL d).length c) ∧ Sat w w' (Row 3 1 A (namedL d).length c (intV (namedL d)) :: F)) := fun h w1 F hb hS => by
    have h1 := rnamed_any d (hD.keep hb) hz hS
    rw [namesN_ok h] at h1
    exact h1
  have HNO : Hid ((checkN d).2 ≠ 0 → costN d = .tuple #[noCost, .int .i64 1]) := fun h => if_neg h
  have HYES : Hid ((checkN d).2 = 0 → costN d = .tuple #[costA d, .int .i64 0]) := fun h => if_pos h
  have HM : Hid ((checkN d).2 = 0 → Clean d) := fun h => (clean_of h).1
  have hnl := named_len d
  obtain ⟨R, hR⟩ : ∃ R, checkN d = R := ⟨_, rfl⟩
  rw [hR] at C13 C19 HNO HYES HM
  obtain ⟨x, y⟩ := R
  have h1 := (Sat.start w).new #[.string d.name, .slice d.A d.steps.length d.c] 24
  obtain ⟨b, hb⟩ : ∃ b, w.heap.size = b := ⟨_, rfl⟩
  have hs1 : (w.alloc (.cells #[.string d.name, .slice d.A d.steps.length d.c] 24)).heap.size = w.heap.size + 1 := by simp
  have h2 := h1.new #[.int .i64 0, .int .i64 0, .int .i64 0, .int .i64 0, .int .i64 0] 40
  rw [hs1, hb] at h2
  obtain ⟨cn, hcn⟩ : ∃ l, costN d = l := ⟨_, rfl⟩
  rw [hcn] at HNO HYES ⊢
  unfold Df.v at C13 C19 ⊢
  unfold costA at HYES
  unfold noCost at HNO
  unfold Quietly
  obtain ⟨n, hN⟩ : ∃ n, d.steps.length = n := ⟨_, rfl⟩
  have HN := Lib.hid hN
  have HD := Lib.hid hD
  simp only [hN] at h2 C13 C19 HYES ⊢
  obtain ⟨AA, hAA⟩ : ∃ x, d.A = x := ⟨_, rfl⟩
  have HAA := Lib.hid hAA
  simp only [hAA] at h2 C13 C19 ⊢
  obtain ⟨nl, hnl2⟩ : ∃ n, (namedL d).length = n := ⟨_, rfl⟩
  have HNL := Lib.hid hnl2
  simp only [hnl2] at hnl C19 HYES
  have H2 := Lib.hid h2
  clear h1 h2 hD hz hR hN hcn hs1 hnl2 hAA
  go_enter Tryd.func17, Tryd.ntmps17
  go_wp2_with fail
  try simp only [hb]
  refine (C13.out _ (H2.out.old (by simp))).mono ?_
  rintro e w1 ⟨rfl, hb1⟩
  have h3 := H2.out.below hb1
  have a0 := h3.r2.blk.cell 0
  have a1 := h3.r2.blk.cell 1
  have r0 := h3.blk.cell 0
  have r1 := h3.blk.cell 1
  have r2 := h3.blk.cell 2
  have r3 := h3.blk.cell 3
  have r4 := h3.blk.cell 4
  have f0 := h3.blk.free 0
  have f1 := h3.blk.free 1
  have f2 := h3.blk.free 2
  have f3 := h3.blk.free 3
  have f4 := h3.blk.free 4
  have H3 := Lib.hid h3
  clear h3 hb1 H2
  by_cases hy : y = 0
  · subst hy
    have hc := HYES.out rfl
    subst hc
    have HCL := Lib.hid (HM.out rfl)
    have hm8 : n ≤ 8 := by rw [← HN.out]; exact HCL.out.most
    have CC19 := Lib.hid (C19.out rfl)
    clear HNO HYES HM C19 C13 r0 r1 r2 r3 r4 f0 f1 f2 f3 f4
    go_wp2_with fail
    refine (CC19.out _ _ (H3.out.old (by simp)) H3.out).mono ?_
    rintro e w2 ⟨A, c, rfl, h4⟩
    obtain ⟨q, hq⟩ : ∃ q, w2.heap.size = q := ⟨_, rfl⟩
    have h5 := h4.new #[.int .i64 (3 + (nl : Int)), .int .i64 0, .int .i64 0, .int .i64 0, .int .i64 0] 40
    rw [hq] at h5
    have HI0 : [.int .i64 (3 + (nl : Int)), .int .i64 0, .int .i64 0, .int .i64 0, .int .i64 0] = ro4 (3 + nl) (inTo d 0) := by
      unfold ro4
      rw [Int.natCast_add]
      rfl
    have h55 : Sat w _ (Blk q 40 [.int .i64 (3 + (nl : Int)), .int .i64 0, .int .i64 0, .int .i64 0, .int .i64 0] :: Row 3 1 A nl c (intV (namedL d)) :: [Blk (b + 1) 40 [.int .i64 0, .int .i64 0, .int .i64 0, .int .i64 0, .int .i64 0], Blk b 24 [.string d.name, .slice AA n d.c], Old w]) := h5
    rw [HI0] at h55
    have H5 := Lib.hid h55
    clear h4 h5 h55 H3 CC19 a0 a1 HI0
    go_wp2_with fail
    try simp only [hq]
    go_loopw [8] (Ro1 w (Row 3 1 A nl c (intV (namedL d)) :: [Blk (b + 1) 40 [.int .i64 0, .int .i64 0, .int .i64 0, .int .i64 0, .int .i64 0], Blk b 24 [.string d.name, .slice AA n d.c], Old w]) q d (3 + nl) nl) (fun x _ => nl - (intOf x).toNat)
    case atStart => exact ⟨0, Nat.zero_le _, rfl, H5.out⟩
    case round =>
      obtain ⟨j, hj, rfl, hS⟩ := hrel
      clear H5
      by_cases hlt : j < nl
      · have hj1 : j < (namedL d).length := by rw [HNL.out]; exact hlt
        obtain ⟨p, hp, hpe⟩ := named_in d _ (List.getElem_mem hj1)
        have HSET := Lib.hid (ro4_set (3 + nl) (inTo d j) (inTo d (j + 1)) p hp (fun q hq => by rw [inTo_next d hj1 hpe q, inTo_next d hj1 hpe p, if_pos rfl]))
        rw [inTo_next d hj1 hpe p, if_pos rfl] at HSET
        have hil : (intV (namedL d)).length = nl := by unfold intV; rw [List.length_map]; exact HNL.out
        obtain ⟨g, rfl, hc, _⟩ := hS.r2.rowCell (by intro e; rw [e] at hil; simp at hil; omega)
        have c0 := hc j (by rw [hil]; exact hlt)
        have hv : (intV (namedL d))[j]? = some (.int .i64 p) := by unfold intV; rw [List.getElem?_map, List.getElem?_eq_getElem hj1, hpe]; rfl
        rw [hv] at c0
        have x0 : wr.cell? ⟨q, 1 + p, none⟩ = some (.int .i64 (inTo d j p : Nat)) := by rw [hS.blk.cell (1 + p), ro4_get _ _ p hp]
        have f0 := hS.blk.free (1 + p)
        have hx := hS.set (1 + p) (.int .i64 ((1 : Nat) : Int))
        rw [HSET.out] at hx
        have HX := Lib.hid hx
        have hp0 : (p : Int) < 4 := by omega
        clear hS hc hx hv hpe hj1 HSET
        go_wp2_with fail
        go_roundw
        case rel => exact ⟨j + 1, by omega, by go_num, HX.out⟩
        case measure => simp [intOf]; omega
      · obtain rfl : j = nl := by omega
        have HS2 : Hid (Sat w wr (Blk q 40 (ro4 (3 + j + sumO d 0) fun p => inTo d (namedL d).length p + smTo d 0 p) :: [Blk (b + 1) 40 [.int .i64 0, .int .i64 0, .int .i64 0, .int .i64 0, .int .i64 0], Blk b 24 [.string d.name, .slice AA n d.c], Old w])) := by
          show Sat _ _ _
          rw [HNL.out]
          exact hS.r2.tail
        clear hS
        go_wp2_with fail
        go_loopw [9] (Ro2 w [Blk (b + 1) 40 [.int .i64 0, .int .i64 0, .int .i64 0, .int .i64 0, .int .i64 0], Blk b 24 [.string d.name, .slice AA n d.c], Old w] q d n (3 + j)) (fun x _ => n - (intOf x).toNat)
        case atStart => exact ⟨0, Nat.zero_le _, rfl, HS2.out⟩
        case round =>
          obtain ⟨k, hk, rfl, hS⟩ := hrel
          clear HS2
          have h9 := hS.old (by simp)
          have b1 : wr.cell? ⟨b, 1, none⟩ = some (.slice AA n d.c) := hS.r3.blk.cell 1
          by_cases hlt2 : k < n
          · have hk1 : k < d.steps.length := by rw [HN.out]; exact hlt2
            obtain ⟨g, o, e1, s0, s1, s2, s3, s4⟩ := step_at d (HD.out.keep h9) k hk1
            obtain rfl : AA = some ⟨g, o, none⟩ := HAA.out.symm.trans e1
            obtain ⟨p, hp, hpe⟩ := HCL.out.parts k hk1
            rw [part_at d k hk1, hpe] at s2
            have hke := kind_at d k hk1
            obtain ⟨s, hs⟩ : ∃ x, d.steps[k] = x := ⟨_, rfl⟩
            rw [hs] at s0 s1 s3 s4 hke
            obtain ⟨f, hf⟩ : ∃ f, (fun p => inTo d (namedL d).length p + smTo d k p) = f := ⟨_, rfl⟩
            have HTOP := Lib.hid (sumO_top d k)
            have HST := Lib.hid (sm_top d p k)
            have hfp : f p ≤ 50 := by
              rw [← hf]
              show inTo d _ p + _ ≤ 50
              have h1 : inTo d (namedL d).length p ≤ 1 := by unfold inTo; split <;> omega
              have := HST.out
              omega
            have HNF : Hid ((fun p => inTo d (namedL d).length p + smTo d (k + 1) p) = fun q => if q = p then f p + ownK s.kind else f q) := by
              show _ = _
              funext q
              have e1 : f p = inTo d (namedL d).length p + smTo d k p := by rw [← hf]
              have e2 : f q = inTo d (namedL d).length q + smTo d k q := by rw [← hf]
              show inTo d _ q + (smTo d k q + if partAt d k = q then ownK (kindAt d k) else 0) = if q = p then f p + ownK s.kind else f q
              rw [e1, e2, hke, hpe]
              by_cases e : q = p
              · rw [e, if_pos rfl, if_pos rfl]; omega
              · rw [if_neg e, if_neg (by omega)]; omega
            rw [hf] at hS
            have c0 : wr.cell? ⟨q, 0, none⟩ = some (.int .i64 (3 + j + sumO d k : Nat)) := hS.blk.cell 0
            have x0 : wr.cell? ⟨q, 1 + p, none⟩ = some (.int .i64 (f p : Nat)) := by rw [hS.blk.cell (1 + p), ro4_get _ _ p hp]
            have f0 := hS.blk.free 0
            have f1 := hS.blk.free (1 + p)
            have HNXT : Hid (3 + j + sumO d (k + 1) = 3 + j + sumO d k + (ownK s.kind + 1)) := by
              show 3 + j + (sumO d k + (ownK (kindAt d k) + 1)) = _
              rw [← hke]
              omega
            obtain ⟨z, hz⟩ : ∃ c, 3 + j + sumO d k = c := ⟨_, rfl⟩
            have hct : z ≤ 60 := by have := HTOP.out; omega
            rw [hz] at c0 HNXT hS
            obtain ⟨v, hv⟩ : ∃ v, f p = v := ⟨_, rfl⟩
            rw [hv] at x0 hfp HNF
            have HS := Lib.hid hS
            clear hs hke hS hz hpe hk1 e1 hf HTOP HST
            obtain ⟨qq, hqq⟩ : ∃ q, wr.heap.size = q := ⟨_, rfl⟩
            have h3 := HS.out.new #[.string s.name, .int .i64 s.kind, .int .i64 p, .slice s.kA s.keys.length s.kc, .slice s.nA s.needs.length s.nc] 35
            rw [hqq] at h3
            have y0 := cell_alloc (.cells #[.string s.name, .int .i64 s.kind, .int .i64 p, .slice s.kA s.keys.length s.kc, .slice s.nA s.needs.length s.nc] 35) c0
            have y1 := cell_alloc (.cells #[.string s.name, .int .i64 s.kind, .int .i64 p, .slice s.kA s.keys.length s.kc, .slice s.nA s.needs.length s.nc] 35) x0
            have HB3 := Lib.hid h3
            have xf := HB3.out.r2.blk.free 0
            have xg := HB3.out.r2.blk.free (1 + p)
            have hp0 : (p : Int) < 4 := by omega
            clear h3
            by_cases hkd : s.kind = 1
            · have t : (s.kind == 1) = true := beq_iff_eq.2 hkd
              have hu : ownK s.kind = 2 := by unfold ownK; rw [if_pos hkd]
              rw [hu] at HNXT HNF
              clear hkd hu
              go_wp2_with fail
              try simp only [hqq]
              have h7 := HB3.out.r2.set 0 (.int .i64 ((z : Int) + 2 + 1))
              have HZ : Hid ((ro4 z f).set 0 (.int .i64 ((z : Int) + 2 + 1)) = ro4 (3 + j + sumO d (k + 1)) f) := by
                show _ = _
                rw [HNXT.out, show (z : Int) + 2 + 1 = ((z + (2 + 1) : Nat) : Int) by omega]
                rfl
              obtain ⟨W5, hW5⟩ : ∃ x, x = (wr.alloc (.cells #[.string s.name, .int .i64 s.kind, .int .i64 p, .slice s.kA s.keys.length s.kc, .slice s.nA s.needs.length s.nc] 35)).setCell ⟨q, 0, none⟩ (.int .i64 ((z : Int) + 2 + 1)) := ⟨_, rfl⟩
              rw [← hW5] at h7 ⊢
              rw [HZ.out] at h7
              clear hW5 HZ
              have m2 : W5.cell? ⟨qq, 2, none⟩ = some (.int .i64 p) := h7.r2.blk.cell 2
              have x1 : W5.cell? ⟨q, 1 + p, none⟩ = some (.int .i64 (v : Int)) := by rw [h7.blk.cell (1 + p), ro4_get _ _ p hp, hv]
              have xg5 := h7.blk.free (1 + p)
              have H7 := Lib.hid h7
              have HG : Hid ((ro4 (3 + j + sumO d (k + 1)) f).set (1 + p) (.int .i64 ((v : Int) + 2)) = ro4 (3 + j + sumO d (k + 1)) (fun p => inTo d (namedL d).length p + smTo d (k + 1) p)) := by
                show _ = _
                have h := ro4_set (3 + j + sumO d (k + 1)) f (fun q => if q = p then v + 2 else f q) p hp (fun q hq => by
                  by_cases e : q = p
                  · rw [if_pos e, if_pos e, if_pos rfl]
                  · rw [if_neg e, if_neg e])
                rw [if_pos rfl] at h
                rw [HNF.out, ← h, Int.natCast_add]
                rfl
              have SW : Hid (IntKind.i64.wrap ((v : Int) + 2) = (v : Int) + 2) := IntWalk.i64_in _ (by omega)
              clear h7 HNXT HNF y0 y1 c0 x0 hv
              go_region
              all_goals
                try rw [SW.out]
                have h8 := H7.out.set (1 + p) (.int .i64 ((v : Int) + 2))
                rw [HG.out] at h8
                have HF := Lib.hid h8.r2.tail.drew
                clear h8 m2 x1 xg5
                go_wp2_with fail
                go_roundw
                case rel => exact ⟨k + 1, by omega, by go_num, HF.out⟩
                case measure => simp [intOf]; omega
            · have t : (s.kind == 1) = false := beq_eq_false_iff_ne.2 hkd
              have hu : ownK s.kind = 1 := by unfold ownK; rw [if_neg hkd]
              rw [hu] at HNXT HNF
              clear hkd hu
              go_wp2_with fail
              try simp only [hqq]
              have h7 := HB3.out.r2.set 0 (.int .i64 ((z : Int) + 1 + 1))
              have HZ : Hid ((ro4 z f).set 0 (.int .i64 ((z : Int) + 1 + 1)) = ro4 (3 + j + sumO d (k + 1)) f) := by
                show _ = _
                rw [HNXT.out, show (z : Int) + 1 + 1 = ((z + (1 + 1) : Nat) : Int) by omega]
                rfl
              obtain ⟨W5, hW5⟩ : ∃ x, x = (wr.alloc (.cells #[.string s.name, .int .i64 s.kind, .int .i64 p, .slice s.kA s.keys.length s.kc, .slice s.nA s.needs.length s.nc] 35)).setCell ⟨q, 0, none⟩ (.int .i64 ((z : Int) + 1 + 1)) := ⟨_, rfl⟩
              rw [← hW5] at h7 ⊢
              rw [HZ.out] at h7
              clear hW5 HZ
              have m2 : W5.cell? ⟨qq, 2, none⟩ = some (.int .i64 p) := h7.r2.blk.cell 2
              have x1 : W5.cell? ⟨q, 1 + p, none⟩ = some (.int .i64 (v : Int)) := by rw [h7.blk.cell (1 + p), ro4_get _ _ p hp, hv]
              have xg5 := h7.blk.free (1 + p)
              have H7 := Lib.hid h7
              have HG : Hid ((ro4 (3 + j + sumO d (k + 1)) f).set (1 + p) (.int .i64 ((v : Int) + 1)) = ro4 (3 + j + sumO d (k + 1)) (fun p => inTo d (namedL d).length p + smTo d (k + 1) p)) := by
                show _ = _
                have h := ro4_set (3 + j + sumO d (k + 1)) f (fun q => if q = p then v + 1 else f q) p hp (fun q hq => by
                  by_cases e : q = p
                  · rw [if_pos e, if_pos e, if_pos rfl]
                  · rw [if_neg e, if_neg e])
                rw [if_pos rfl] at h
                rw [HNF.out, ← h, Int.natCast_add]
                rfl
              have SW : Hid (IntKind.i64.wrap ((v : Int) + 1) = (v : Int) + 1) := IntWalk.i64_in _ (by omega)
              clear h7 HNXT HNF y0 y1 c0 x0 hv
              go_region
              all_goals
                try rw [SW.out]
                have h8 := H7.out.set (1 + p) (.int .i64 ((v : Int) + 1))
                rw [HG.out] at h8
                have HF := Lib.hid h8.r2.tail.drew
                clear h8 m2 x1 xg5
                go_wp2_with fail
                go_roundw
                case rel => exact ⟨k + 1, by omega, by go_num, HF.out⟩
                case measure => simp [intOf]; omega
          · obtain rfl : k = n := by omega
            have HRO : Hid (ro4 (3 + j + sumO d k) (fun p => inTo d (namedL d).length p + smTo d k p) = [.int .i64 (3 + j + sumO d k : Nat), .int .i64 (cpTo d k 0 : Nat), .int .i64 (cpTo d k 1 : Nat), .int .i64 (cpTo d k 2 : Nat), .int .i64 (cpTo d k 3 : Nat)]) := by
              show _ = _
              have h := ro4_ext (3 + j + sumO d k) (f := fun p => inTo d (namedL d).length p + smTo d k p) (g := cpTo d k) (fun q hq => by
                show inTo d _ q + smTo d k q = _
                rw [inTo_all d q hq, HN.out]
                exact cp_end d k q)
              rw [h]
              rfl
            rw [HRO.out] at hS
            have c0 : wr.cell? ⟨q, 0, none⟩ = some (.int .i64 (3 + j + sumO d k : Nat)) := hS.blk.cell 0
            have c1 : wr.cell? ⟨q, 1, none⟩ = some (.int .i64 (cpTo d k 0 : Nat)) := hS.blk.cell 1
            have c2 : wr.cell? ⟨q, 2, none⟩ = some (.int .i64 (cpTo d k 1 : Nat)) := hS.blk.cell 2
            have c3 : wr.cell? ⟨q, 3, none⟩ = some (.int .i64 (cpTo d k 2 : Nat)) := hS.blk.cell 3
            have c4 : wr.cell? ⟨q, 4, none⟩ = some (.int .i64 (cpTo d k 3 : Nat)) := hS.blk.cell 4
            have r0 := hS.r2.blk.cell 0
            have r1 := hS.r2.blk.cell 1
            have r2 := hS.r2.blk.cell 2
            have r3 := hS.r2.blk.cell 3
            have r4 := hS.r2.blk.cell 4
            have f0 := hS.r2.blk.free 0
            have f1 := hS.r2.blk.free 1
            have f2 := hS.r2.blk.free 2
            have f3 := hS.r2.blk.free 3
            have f4 := hS.r2.blk.free 4
            have hx := ((((hS.r2.set 0 (.int .i64 (3 + j + sumO d k : Nat))).set 1 (.int .i64 (cpTo d k 0 : Nat))).set 2 (.int .i64 (cpTo d k 1 : Nat))).set 3 (.int .i64 (cpTo d k 2 : Nat))).set 4 (.int .i64 (cpTo d k 3 : Nat))
            have HX : Hid (Sat w _ [Blk (b + 1) 40 [.int .i64 (3 + j + sumO d k : Nat), .int .i64 (cpTo d k 0 : Nat), .int .i64 (cpTo d k 1 : Nat), .int .i64 (cpTo d k 2 : Nat), .int .i64 (cpTo d k 3 : Nat)], Blk q 40 [.int .i64 (3 + j + sumO d k : Nat), .int .i64 (cpTo d k 0 : Nat), .int .i64 (cpTo d k 1 : Nat), .int .i64 (cpTo d k 2 : Nat), .int .i64 (cpTo d k 3 : Nat)], Blk b 24 [.string d.name, .slice AA k d.c], Old w]) := hx
            clear hS h9 hx
            go_wp2_with fail
            refine bodyPost_ret (res40 (by rfl) HX.out (by rfl)) rfl ?_
            exact ⟨rfl, by have h9 := HX.out.old (by simp); first | exact h9 | (rw [hb] at h9; exact h9)⟩
  · have t0 : (y != 0) = true := by simp [hy]
    obtain rfl := HNO.out hy
    have hx := ((((H3.out.set 0 (.int .i64 0)).set 1 (.int .i64 0)).set 2 (.int .i64 0)).set 3 (.int .i64 0)).set 4 (.int .i64 0)
    have HX : Hid (Sat w _ [Blk (b + 1) 40 [.int .i64 0, .int .i64 0, .int .i64 0, .int .i64 0, .int .i64 0], Blk b 24 [.string d.name, .slice AA n d.c], Old w]) := hx
    clear hy HYES HM HNO hx C13 C19
    go_wp2_with fail
    refine bodyPost_ret (res40 (by rfl) HX.out (by rfl)) rfl ?_
    exact ⟨rfl, by have h9 := HX.out.old (by simp); first | exact h9 | (rw [hb] at h9; exact h9)⟩
end Go.Proofs.YtpmoanjeoaeabaaDoor
