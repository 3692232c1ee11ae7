/- The program's costs: own, parts. -/
import Derived.Test.YtpmoanjeoaeabaaDoorA8
import Derived.Deep.RegionHeld3
set_option linter.unusedVariables false
set_option linter.unusedSimpArgs false
set_option linter.unnecessarySimpa false
set_option maxRecDepth 100000
namespace Go.Proofs.YtpmoanjeoaeabaaDoor
open Go.RowKit Go.ChangeShapes Go.WideShapes Go.ChangeAt
theorem own_any {w : World} (s : St) : Calls Tryd.prog 53 #[s.v] w (Quietly w (.int .i64 (ownK s.kind : Nat))) := by
  have h1 := (Sat.start w).new #[.string s.name, .int .i64 s.kind, .int .i64 s.part, .slice s.kA s.keys.length s.kc, .slice s.nA s.needs.length s.nc] 35
  have c1 := h1.blk.cell 1
  have HB := Lib.hid (h1.old (by simp))
  unfold St.v Quietly
  clear h1
  by_cases hk : s.kind = 1
  · have t : (s.kind == 1) = true := beq_iff_eq.2 hk
    have e : ownK s.kind = 2 := by unfold ownK; rw [if_pos hk]
    rw [e]
    clear hk e
    go_enter Tryd.func53, Tryd.ntmps53
    go_wp2_with fail
    go_ret
    exact ⟨rfl, HB.out⟩
  · have t : (s.kind == 1) = false := beq_eq_false_iff_ne.2 hk
    have e : ownK s.kind = 1 := by unfold ownK; rw [if_neg hk]
    rw [e]
    clear hk e
    go_enter Tryd.func53, Tryd.ntmps53
    go_wp2_with fail
    go_ret
    exact ⟨rfl, HB.out⟩
/-- the costs of the four participants, as cells -/
def cp4 (d : Df) (k : Nat) : List Value := [.int .i64 (cpTo d k 0 : Nat), .int .i64 (cpTo d k 1 : Nat), .int .i64 (cpTo d k 2 : Nat), .int .i64 (cpTo d k 3 : Nat)]
theorem cp4_get (d : Df) (k p : Nat) (hp : p < 4) : (cp4 d k)[p]? = some (.int .i64 (cpTo d k p : Nat)) := by
  have : p = 0 ∨ p = 1 ∨ p = 2 ∨ p = 3 := by omega
  rcases this with rfl | rfl | rfl | rfl <;> rfl
theorem cp4_set (d : Df) (k p : Nat) (hp : p < 4) (h : partAt d k = p) : (cp4 d k).set p (.int .i64 (((if cpTo d k p = 0 then 1 else cpTo d k p) + ownK (kindAt d k) : Nat) : Int)) = cp4 d (k + 1) := by
  have key : ∀ q : Nat, cpTo d (k + 1) q = if p = q then (if cpTo d k q = 0 then 1 else cpTo d k q) + ownK (kindAt d k) else cpTo d k q := fun q => by
    show (if partAt d k = q then _ else _) = _
    rw [h]
    by_cases e : p = q
    · rw [if_pos e, if_pos (by rw [e])]
    · rw [if_neg e, if_neg (by omega)]
  unfold cp4
  rw [key 0, key 1, key 2, key 3]
  have : p = 0 ∨ p = 1 ∨ p = 2 ∨ p = 3 := by omega
  rcases this with rfl | rfl | rfl | rfl <;> rfl
def PaRel (W : World) (b : Nat) (V : List Value) (d : Df) (n : Nat) (x : Value) (wr : World) : Prop :=
  ∃ k : Nat, k ≤ n ∧ x = .int .i64 k ∧ Sat W wr [Blk (b + 1) 38 (cp4 d k), Blk b 24 V, Old W]
set_option maxHeartbeats 3200000 in
theorem parts_any {w : World} (d : Df) (hD : DefAt w d) (hc : Clean d) :
    Calls Tryd.prog 52 #[d.v] w (Quietly w (.agg #[.int .i64 (cpTo d d.steps.length 0 : Nat), .int .i64 (cpTo d d.steps.length 1 : Nat), .int .i64 (cpTo d d.steps.length 2 : Nat), .int .i64 (cpTo d d.steps.length 3 : Nat)])) := by
  have h1 := (Sat.start w).new #[.string d.name, .slice d.A d.steps.length d.c] 24
  have hs1 : (w.alloc (.cells #[.string d.name, .slice d.A d.steps.length d.c] 24)).heap.size = w.heap.size + 1 := by simp
  have h2 := h1.new #[.int .i64 0, .int .i64 0, .int .i64 0, .int .i64 0] 38
  obtain ⟨b, hb⟩ : ∃ b, w.heap.size = b := ⟨_, rfl⟩
  rw [hs1, hb] at h2
  have hm := hc.most
  have HP := Lib.hid hc.parts
  have HD := Lib.hid hD
  obtain ⟨n, hN⟩ : ∃ n, d.steps.length = n := ⟨_, rfl⟩
  have HN := Lib.hid hN
  unfold Df.v Quietly
  rw [hN] at h2 hm ⊢
  obtain ⟨AA, hAA⟩ : ∃ x, d.A = x := ⟨_, rfl⟩
  have HAA := Lib.hid hAA
  rw [hAA] at h2 ⊢
  have H2 : Hid (Sat w _ [Blk (b + 1) 38 (cp4 d 0), Blk b 24 [.string d.name, .slice AA n d.c], Old w]) := h2
  have b1 := (show Sat w _ _ from h2).r2.blk.cell 1
  clear h1 h2 hs1 hD hc hN hAA
  go_enter Tryd.func52, Tryd.ntmps52
  go_wp2_with fail
  try simp only [hb]
  go_loopw [4, 8] (fun _ x => PaRel w b [.string d.name, .slice AA n d.c] d n x) (fun _ x _ => n - (intOf x).toNat)
  case atStart => exact ⟨0, Nat.zero_le _, rfl, H2.out⟩
  case round =>
    obtain ⟨k, hk, rfl, hS⟩ := hrel
    clear H2 b1
    have h9 := hS.old (by simp)
    by_cases hlt : k < n
    · have hk1 : k < d.steps.length := by rw [HN.out]; exact hlt
      obtain ⟨g, o, e1, s0, s1, s2, s3, s4⟩ := step_at d (HD.out.keep h9) k hk1
      obtain rfl : AA = some ⟨g, o, none⟩ := HAA.out.symm.trans e1
      obtain ⟨p, hp, hpe⟩ := HP.out k hk1
      rw [part_at d k hk1, hpe] at s2
      have hke := kind_at d k hk1
      obtain ⟨s, hs⟩ : ∃ x, d.steps[k] = x := ⟨_, rfl⟩
      rw [hs] at s0 s1 s3 s4 hke
      have hsp : s.part = p := by rw [← hs, part_at d k hk1, hpe]
      have c0 : wr.cell? ⟨b + 1, p, none⟩ = some (.int .i64 (cpTo d k p : Nat)) := by rw [hS.blk.cell p, cp4_get d k p hp]
      have f0 := hS.blk.free p
      have HSET := Lib.hid (cp4_set d k p hp hpe)
      have HTOP := Lib.hid (cp_top d p k)
      have HOW := Lib.hid (ownK_pos (kindAt d k))
      have HOWN : Hid (∀ w1, Calls Tryd.prog 53 #[.agg #[.string s.name, .int .i64 s.kind, .int .i64 p, .slice s.kA s.keys.length s.kc, .slice s.nA s.needs.length s.nc]] w1 fun e w' => e = .returned (.int .i64 (ownK (kindAt d k) : Nat)) ∧ Below w1.heap.size w1 w') := fun w1 => by
        rw [← hke, ← hsp]
        exact own_any s
      obtain ⟨c, hcc⟩ : ∃ c, cpTo d k p = c := ⟨_, rfl⟩
      obtain ⟨u, hu⟩ : ∃ u, ownK (kindAt d k) = u := ⟨_, rfl⟩
      rw [hcc] at c0 HSET HTOP
      rw [hu] at HSET HOW HOWN
      have hp0 : (p : Int) < 4 := by omega
      have hct := HTOP.out
      have hu2 := HOW.out.2
      have HS := Lib.hid hS
      clear hs hsp hke hS hcc hu hpe hk1 e1
      obtain ⟨q, hq⟩ : ∃ q, wr.heap.size = q := ⟨_, rfl⟩
      have h3 := HS.out.new #[.string s.name, .int .i64 s.kind, .int .i64 p, .slice s.kA s.keys.length s.kc, .slice s.nA s.needs.length s.nc] 35
      rw [hq] at h3
      have x0 := cell_alloc (.cells #[.string s.name, .int .i64 s.kind, .int .i64 p, .slice s.kA s.keys.length s.kc, .slice s.nA s.needs.length s.nc] 35) c0
      have H3 := Lib.hid h3
      have b1 : wr.cell? ⟨b, 1, none⟩ = some (.slice (some ⟨g, o, none⟩) n d.c) := HS.out.r2.blk.cell 1
      have xf := (H3.out.r2.blk).free p
      clear h3
      by_cases hz : c = 0
      · have c0' : wr.cell? ⟨b + 1, p, none⟩ = some (.int .i64 0) := by rw [c0, hz]; rfl
        have x0' := cell_alloc (.cells #[.string s.name, .int .i64 s.kind, .int .i64 p, .slice s.kA s.keys.length s.kc, .slice s.nA s.needs.length s.nc] 35) c0'
        rw [if_pos hz] at HSET
        have H4 := Lib.hid (H3.out.r2.set p (.int .i64 1))
        clear c0 x0 hz
        go_wp2_with fail
        try simp only [hq]
        obtain ⟨W5, hW5⟩ : ∃ x, x = (wr.alloc (.cells #[.string s.name, .int .i64 s.kind, .int .i64 p, .slice s.kA s.keys.length s.kc, .slice s.nA s.needs.length s.nc] 35)).setCell ⟨b + 1, p, none⟩ (.int .i64 1) := ⟨_, rfl⟩
        rw [← hW5] at H4 ⊢
        clear hW5
        as_aux_lemma =>
          have m0 : W5.cell? ⟨q, 0, none⟩ = some (.string s.name) := H4.out.r2.blk.cell 0
          have m1 : W5.cell? ⟨q, 1, none⟩ = some (.int .i64 s.kind) := H4.out.r2.blk.cell 1
          have m2 : W5.cell? ⟨q, 2, none⟩ = some (.int .i64 p) := H4.out.r2.blk.cell 2
          have m3 : W5.cell? ⟨q, 3, none⟩ = some (.slice s.kA s.keys.length s.kc) := H4.out.r2.blk.cell 3
          have m4 : W5.cell? ⟨q, 4, none⟩ = some (.slice s.nA s.needs.length s.nc) := H4.out.r2.blk.cell 4
          have x1 : W5.cell? ⟨b + 1, p, none⟩ = some (.int .i64 (1)) := by
            rw [H4.out.blk.cell p, List.getElem?_set_self (by show p < 4; exact hp)]
          have HV : Hid (((cp4 d k).set p (.int .i64 1)).set p (.int .i64 (1 + u)) = cp4 d (k + 1)) := by
            show _ = _
            rw [← HSET.out]
            rw [List.set_set]; congr 2
          have sw : IntKind.i64.wrap (1 + (u : Int)) = 1 + u := IntWalk.i64_in _ (by omega)
          have SW := Lib.hid sw
          clear HSET sw
          go_region_with (first | (go_at_call 53; refine (HOWN.out _).mono ?_; rintro e w6 ⟨rfl, hb6⟩; have h6 := H4.out.drew.below hb6; have n0 : w6.cell? ⟨q, 0, none⟩ = some (.string s.name) := h6.r2.blk.cell 0; have n1 : w6.cell? ⟨q, 1, none⟩ = some (.int .i64 s.kind) := h6.r2.blk.cell 1; have n2 : w6.cell? ⟨q, 2, none⟩ = some (.int .i64 p) := h6.r2.blk.cell 2; have n3 : w6.cell? ⟨q, 3, none⟩ = some (.slice s.kA s.keys.length s.kc) := h6.r2.blk.cell 3; have n4 : w6.cell? ⟨q, 4, none⟩ = some (.slice s.nA s.needs.length s.nc) := h6.r2.blk.cell 4; have x2 : w6.cell? ⟨b + 1, p, none⟩ = some (.int .i64 (1)) := old_cell hb6 x1; have xf2 := h6.blk.free p))
          all_goals
            rw [SW.out]
            have h7 := h6.set p (.int .i64 (1 + u))
            rw [HV.out] at h7
            have HF := Lib.hid h7.r2.tail
            clear h6 h7 n0 n1 n2 n3 n4 x2 xf2 m0 m1 m2 m3 m4 x1 hb6
            go_wp2_with fail
            go_roundw
            case rel => exact ⟨k + 1, by omega, by go_num, HF.out⟩
            case measure => simp [intOf]; omega
      · have c0' : wr.cell? ⟨b + 1, p, none⟩ = some (.int .i64 c) := c0
        have t : ((c : Int) == 0) = false := beq_eq_false_iff_ne.2 (by omega)
        rw [if_neg hz] at HSET
        have H4 := H3
        clear hz H3
        go_wp2_with fail
        try simp only [hq]
        obtain ⟨W5, hW5⟩ : ∃ x, x = wr.alloc (.cells #[.string s.name, .int .i64 s.kind, .int .i64 p, .slice s.kA s.keys.length s.kc, .slice s.nA s.needs.length s.nc] 35) := ⟨_, rfl⟩
        rw [← hW5] at H4 x0 ⊢
        clear hW5
        as_aux_lemma =>
          have m0 : W5.cell? ⟨q, 0, none⟩ = some (.string s.name) := H4.out.blk.cell 0
          have m1 : W5.cell? ⟨q, 1, none⟩ = some (.int .i64 s.kind) := H4.out.blk.cell 1
          have m2 : W5.cell? ⟨q, 2, none⟩ = some (.int .i64 p) := H4.out.blk.cell 2
          have m3 : W5.cell? ⟨q, 3, none⟩ = some (.slice s.kA s.keys.length s.kc) := H4.out.blk.cell 3
          have m4 : W5.cell? ⟨q, 4, none⟩ = some (.slice s.nA s.needs.length s.nc) := H4.out.blk.cell 4
          have x1 : W5.cell? ⟨b + 1, p, none⟩ = some (.int .i64 ((c : Int))) := by
            exact x0
          have HV : Hid (((cp4 d k)).set p (.int .i64 ((c : Int) + u)) = cp4 d (k + 1)) := by
            show _ = _
            rw [← HSET.out]
            rw [Int.natCast_add]
          have sw : IntKind.i64.wrap ((c : Int) + (u : Int)) = (c : Int) + u := IntWalk.i64_in _ (by omega)
          have SW := Lib.hid sw
          clear HSET sw
          go_region_with (first | (go_at_call 53; refine (HOWN.out _).mono ?_; rintro e w6 ⟨rfl, hb6⟩; have h6 := H4.out.drew.below hb6; have n0 : w6.cell? ⟨q, 0, none⟩ = some (.string s.name) := h6.blk.cell 0; have n1 : w6.cell? ⟨q, 1, none⟩ = some (.int .i64 s.kind) := h6.blk.cell 1; have n2 : w6.cell? ⟨q, 2, none⟩ = some (.int .i64 p) := h6.blk.cell 2; have n3 : w6.cell? ⟨q, 3, none⟩ = some (.slice s.kA s.keys.length s.kc) := h6.blk.cell 3; have n4 : w6.cell? ⟨q, 4, none⟩ = some (.slice s.nA s.needs.length s.nc) := h6.blk.cell 4; have x2 : w6.cell? ⟨b + 1, p, none⟩ = some (.int .i64 ((c : Int))) := old_cell hb6 x1; have xf2 := h6.r2.blk.free p))
          all_goals
            rw [SW.out]
            have h7 := h6.r2.set p (.int .i64 ((c : Int) + u))
            rw [HV.out] at h7
            have HF := Lib.hid h7.r2.tail
            clear h6 h7 n0 n1 n2 n3 n4 x2 xf2 m0 m1 m2 m3 m4 x1 hb6
            go_wp2_with fail
            go_roundw
            case rel => exact ⟨k + 1, by omega, by go_num, HF.out⟩
            case measure => simp [intOf]; omega
    · obtain rfl : k = n := by omega
      have b1 : wr.cell? ⟨b, 1, none⟩ = some (.slice AA k d.c) := hS.r2.blk.cell 1
      have c0 : wr.cell? ⟨b + 1, 0, none⟩ = some (.int .i64 (cpTo d k 0 : Nat)) := hS.blk.cell 0
      have c1 : wr.cell? ⟨b + 1, 1, none⟩ = some (.int .i64 (cpTo d k 1 : Nat)) := hS.blk.cell 1
      have c2 : wr.cell? ⟨b + 1, 2, none⟩ = some (.int .i64 (cpTo d k 2 : Nat)) := hS.blk.cell 2
      have c3 : wr.cell? ⟨b + 1, 3, none⟩ = some (.int .i64 (cpTo d k 3 : Nat)) := hS.blk.cell 3
      have f0 := hS.blk.free 0
      have f1 := hS.blk.free 1
      have f2 := hS.blk.free 2
      have f3 := hS.blk.free 3
      have hx := (((hS.set 0 (.int .i64 (cpTo d k 0 : Nat))).set 1 (.int .i64 (cpTo d k 1 : Nat))).set 2 (.int .i64 (cpTo d k 2 : Nat))).set 3 (.int .i64 (cpTo d k 3 : Nat))
      have HX : Hid (Sat w _ [Blk (b + 1) 38 (cp4 d k), Blk b 24 [.string d.name, .slice AA k d.c], Old w]) := hx
      clear hS h9 hx
      go_wp2_with fail
      refine bodyPost_ret (res38 (by rfl) HX.out (by rfl)) rfl ?_
      exact ⟨rfl, by have h9 := HX.out.old (by simp); first | exact h9 | (rw [hb] at h9; exact h9)⟩
end Go.Proofs.YtpmoanjeoaeabaaDoor
