/- The program's search along the needs. -/
import Derived.Test.YtpmoanjeoaeabaaDoorCV
set_option linter.unusedVariables false
set_option linter.unusedSimpArgs false
set_option linter.unnecessarySimpa false
set_option maxRecDepth 100000
namespace Go.Proofs.YtpmoanjeoaeabaaDoor
open Go.RowKit Go.ChangeShapes Go.WideShapes Go.ChangeAt
/-- how many of the first n steps are not met -/
def zs (M : Nat → Int) : Nat → Nat
  | 0 => 0
  | k + 1 => zs M k + if M k = 0 then 1 else 0
theorem zs_le {M M' : Nat → Int} (h : ∀ x, M' x = 0 → M x = 0) : ∀ k, zs M' k ≤ zs M k
  | 0 => Nat.le_refl _
  | k + 1 => by
    have ih := zs_le h k
    unfold zs
    by_cases h1 : M' k = 0
    · rw [if_pos h1, if_pos (h k h1)]; omega
    · rw [if_neg h1]; omega
theorem zs_lt {M M' : Nat → Int} (h : ∀ x, M' x = 0 → M x = 0) {n : Nat} (h0 : M n = 0) (h1 : M' n ≠ 0) : ∀ k, n < k → zs M' k < zs M k
  | 0, hk => absurd hk (Nat.not_lt_zero _)
  | k + 1, hk => by
    have hle := zs_le h k
    show zs M' k + (if M' k = 0 then 1 else 0) < zs M k + (if M k = 0 then 1 else 0)
    by_cases e : n = k
    · subst e
      rw [if_neg h1, if_pos h0]; omega
    · have ih := zs_lt h h0 h1 k (by omega)
      by_cases h2 : M' k = 0
      · rw [if_pos h2, if_pos (h k h2)]; omega
      · rw [if_neg h2]; omega
theorem zs_top (M : Nat → Int) : ∀ k, zs M k ≤ k
  | 0 => Nat.le_refl _
  | k + 1 => by
    have ih := zs_top M k
    unfold zs
    split <;> omega
/-- how much a search adds to a count, at most -/
def grow : Nat → Nat
  | 0 => 0
  | u + 1 => 8 * (1 + grow u)
/-- the eight counts -/
def metV (M : Nat → Int) : List Value := (List.range 8).map fun x => .int .i64 (M x)
theorem met_len (M : Nat → Int) : (metV M).length = 8 := by simp [metV]
theorem met_get (M : Nat → Int) (x : Nat) (h : x < 8) : (metV M)[x]? = some (.int .i64 (M x)) := by
  unfold metV
  rw [List.getElem?_map, List.getElem?_eq_getElem (by rw [List.length_range]; exact h), List.getElem_range]
  rfl
def bump (M : Nat → Int) (n : Nat) : Nat → Int := fun x => if x = n then M x + 1 else M x
theorem met_bump (M : Nat → Int) (n : Nat) (h : n < 8) : (metV M).set n (.int .i64 (M n + 1)) = metV (bump M n) := by
  apply List.ext_getElem?
  intro i
  by_cases hi : i < 8
  · rw [met_get _ _ hi]
    unfold bump
    by_cases e : i = n
    · subst e
      rw [List.getElem?_set_self (by rw [met_len]; exact hi), if_pos rfl]
    · rw [List.getElem?_set_ne (fun g => e g.symm), met_get _ _ hi, if_neg e]
  · rw [List.getElem?_eq_none (by rw [List.length_set, met_len]; omega), List.getElem?_eq_none (by rw [met_len]; omega)]
def AlRel (W : World) (L : List HP) (mt : Nat) (N : Nat → List Nat) (n : Nat) (M : Nat → Int) (B c u : Nat) (k : Nat) (x : Value) (wr : World) : Prop :=
  ∃ (j : Nat) (M' : Nat → Int), j ≤ (N k).length ∧ x = .int .i64 j ∧ Along N M M' ((N k).take j) k ∧ (∀ x, 0 ≤ M' x ∧ M' x ≤ (B + j * c : Nat)) ∧ zs M' n ≤ u ∧ Sat W wr (Blk mt 93 (metV M') :: L)
def alV (b mt ab : Nat) : List Value := [.func (.func 71) #[] #[.pointer (some ⟨b, 0, none⟩), .pointer (some ⟨mt, 0, none⟩), .pointer (some ⟨ab, 0, none⟩)]]
/-- what the search does where at most u steps are not met -/
def AlongC (w0 : World) (F : List HP) (b mt ab : Nat) (d : Df) (u : Nat) : Prop :=
  ∀ (w : World) (k : Nat) (M : Nat → Int) (B : Nat), k < d.steps.length → zs M d.steps.length ≤ u → (∀ x, 0 ≤ M x ∧ M x ≤ (B : Nat)) → B + grow (u + 1) ≤ 1000000000 →
    Sat w0 w (Blk mt 93 (metV M) :: Blk ab 94 (alV b mt ab) :: Blk b 24 (boxV d) :: F) →
    Calls Tryd.prog 71 #[.int .i64 k, .pointer (some ⟨b, 0, none⟩), .pointer (some ⟨mt, 0, none⟩), .pointer (some ⟨ab, 0, none⟩)] w fun e w' => e = .returned (.tuple #[]) ∧ ∃ M', Along (needN d) M M' (needN d k) k ∧ (∀ x, 0 ≤ M' x ∧ M' x ≤ (B + grow (u + 1) : Nat)) ∧
      Sat w0 w' (Blk mt 93 (metV M') :: Blk ab 94 (alV b mt ab) :: Blk b 24 (boxV d) :: F)
theorem take_next {l : List Nat} {j : Nat} (h : j < l.length) : l.take (j + 1) = l.take j ++ [l.getD j 0] := by
  rw [List.take_succ_eq_append_getElem h, ← List.getElem_eq_getD (h := h)]
theorem bump_at (M : Nat → Int) (n : Nat) : bump M n n = M n + 1 := if_pos rfl
theorem bump_ge (M : Nat → Int) (n x : Nat) : M x ≤ bump M n x ∧ bump M n x ≤ M x + 1 := by
  unfold bump
  split <;> omega
set_option maxHeartbeats 6400000 in
theorem along_step {w0 : World} {F : List HP} {b mt ab : Nat} {d : Df} (hD : DefAt w0 d) (hO : Old w0 ∈ F) (hz : Small d) (h8 : d.steps.length ≤ 8) (hl : ∀ k, (needN d k).length ≤ 8) (u : Nat)
    (hr : ∀ v, u = v + 1 → AlongC w0 F b mt ab d v) : AlongC w0 F b mt ab d u := by
  intro w k M B hk hzs hM hB hS
  have HNC : Hid (∀ w', Below w0.heap.size w0 w' → ∀ j, j < (needN d k).length → ∃ b o, nAat d k = some ⟨b, o, none⟩ ∧ w'.cell? ⟨b, o + j, none⟩ = some (.int .i64 ((needN d k).getD j 0 : Nat)) ∧ (needN d k).getD j 0 < d.steps.length) := fun w' hb j hj => by
    have hj' : j < (needsAt d k).length := by rw [← needN_len]; exact hj
    obtain ⟨b, o, e, h⟩ := need_cell d (hD.keep hb) k hk j hj'
    obtain ⟨h1, h2⟩ := need_nat hz.need hk hj'
    rw [h1] at h
    exact ⟨b, o, e, h, h2⟩
  have HOL : Hid (∀ (w' : World) (A B C : HP), Sat w0 w' (A :: B :: C :: F) → Below w0.heap.size w0 w') := fun w' A B C h => h.old (by simp [hO])
  obtain ⟨g, o, hA, _, _, _, _, s4⟩ := step_at d (hD.keep (HOL.out _ _ _ _ hS)) k hk
  rw [(nA_at d k hk).1, (nA_at d k hk).2, needs_at d k hk, ← needN_len] at s4
  have b1 : w.cell? ⟨b, 1, none⟩ = some (.slice d.A d.steps.length d.c) := hS.r3.blk.cell 1
  rw [hA] at b1
  have hlk := hl k
  have HR : Hid (∀ v, u = v + 1 → ∀ (w : World) (k : Nat) (M : Nat → Int) (B : Nat), k < d.steps.length → zs M d.steps.length ≤ v → (∀ x, 0 ≤ M x ∧ M x ≤ (B : Nat)) → B + grow (v + 1) ≤ 1000000000 →
    Sat w0 w (Blk mt 93 (metV M) :: Blk ab 94 (alV b mt ab) :: Blk b 24 (boxV d) :: F) →
    Calls Tryd.prog 71 #[.int .i64 k, .pointer (some ⟨b, 0, none⟩), .pointer (some ⟨mt, 0, none⟩), .pointer (some ⟨ab, 0, none⟩)] w fun e w' => e = .returned (.tuple #[]) ∧ ∃ M', Along (needN d) M M' (needN d k) k ∧ (∀ x, 0 ≤ M' x ∧ M' x ≤ (B + grow (v + 1) : Nat)) ∧
      Sat w0 w' (Blk mt 93 (metV M') :: Blk ab 94 (alV b mt ab) :: Blk b 24 (boxV d) :: F)) := hr
  obtain ⟨L, hL⟩ : ∃ L, L = Blk ab 94 (alV b mt ab) :: Blk b 24 (boxV d) :: F := ⟨_, rfl⟩
  rw [← hL] at hS HR ⊢
  have HOP : Hid (∀ (w' : World) (A : HP), Sat w0 w' (A :: L) → Below w0.heap.size w0 w' ∧ w'.cell? ⟨ab, 0, none⟩ = some (.func (.func 71) #[] #[.pointer (some ⟨b, 0, none⟩), .pointer (some ⟨mt, 0, none⟩), .pointer (some ⟨ab, 0, none⟩)])) := fun w' A h => by
    rw [hL] at h
    exact ⟨HOL.out _ _ _ _ h, h.r2.blk.cell 0⟩
  obtain ⟨n, hN⟩ : ∃ n, d.steps.length = n := ⟨_, rfl⟩
  obtain ⟨N, hNN⟩ : ∃ N, needN d = N := ⟨_, rfl⟩
  rw [hN] at hk hzs b1 h8
  simp only [hN, hNN] at HNC HR s4 hlk ⊢
  obtain ⟨nA, hnA⟩ : ∃ N, nAat d k = N := ⟨_, rfl⟩
  obtain ⟨nc, hnc⟩ : ∃ N, ncat d k = N := ⟨_, rfl⟩
  rw [hnA] at HNC s4
  rw [hnc] at s4
  obtain ⟨c, hc⟩ : ∃ c, c = 1 + grow u := ⟨_, rfl⟩
  have hgr : grow (u + 1) = 8 * c := by rw [hc]; rfl
  rw [hgr] at hB ⊢
  have HCP : Hid (1 ≤ c) := by show 1 ≤ c; omega
  have HC : Hid (∀ v, u = v + 1 → grow (v + 1) + 1 = c) := fun v hv => by rw [hc, hv]; omega
  have HM := Lib.hid hM
  have HZ := Lib.hid hzs
  have HS := Lib.hid hS
  have H8 := Lib.hid h8
  have i0 : (0 : Int) ≤ (k : Int) := by omega
  have i1 : (k : Int) < (n : Int) := by omega
  have hl1 : (N k).length ≤ 1000000000 := by omega
  clear hD hO hz hl hr hS hL hN hNN hnA hnc hc hgr hM hzs hA HOL
  go_enter Tryd.func71, Tryd.ntmps71
  go_wp2_with fail
  go_loopw [14] (AlRel w0 L mt N n M B c u k) (fun x _ => (N k).length - (intOf x).toNat)
  case atStart => exact ⟨0, M, Nat.zero_le _, rfl, by rw [List.take_zero]; exact Along.nil N M k, by rw [Nat.zero_mul, Nat.add_zero]; exact HM.out, HZ.out, HS.out⟩
  case round =>
    obtain ⟨j, M1, hj, rfl, hal, hM1, hz1, hT⟩ := hrel
    clear HS b1 s4 HM HZ
    obtain ⟨h9, ha⟩ := HOP.out _ _ hT
    by_cases hlt : j < (N k).length
    · obtain ⟨b2, o2, hnA, c0, hx⟩ := HNC.out _ h9 j hlt
      have htn := take_next hlt
      have hjc : (j + 1) * c = j * c + c := Nat.succ_mul j c
      have hjc8 : (j + 1) * c ≤ 8 * c := Nat.mul_le_mul_right c (by omega)
      obtain ⟨x, hX⟩ : ∃ x, (N k).getD j 0 = x := ⟨_, rfl⟩
      rw [hX] at c0 hx htn
      have hx8 : x < 8 := by omega
      have m0 := hT.blk.cell x
      rw [met_get _ _ hx8] at m0
      have mf := hT.blk.free x
      have hT2 := hT.set x (.int .i64 (M1 x + 1))
      rw [met_bump _ _ hx8] at hT2
      have hmx := hM1 x
      have hlt1 : M1 x + 1 ≤ 9223372036854775807 := by omega
      have sw : IntKind.i64.wrap (M1 x + 1) = M1 x + 1 := IntWalk.i64_in _ (by omega)
      have m1 : (wr.setCell ⟨mt, x, none⟩ (.int .i64 (M1 x + 1))).cell? ⟨mt, x, none⟩ = some (.int .i64 (M1 x + 1)) := by
        rw [hT2.blk.cell x, met_get _ _ hx8, bump_at]
      have hb1 : ∀ y, 0 ≤ bump M1 x y ∧ bump M1 x y ≤ (B + j * c + 1 : Nat) := fun y => by
        have h1 := hM1 y
        have h2 := bump_ge M1 x y
        omega
      have HT2 := Lib.hid hT2
      have HB1 := Lib.hid hb1
      have HA2 := Lib.hid (HOP.out _ _ hT2).2
      have HAL := Lib.hid hal
      have HM1 := Lib.hid hM1
      have HZ1 := Lib.hid hz1
      have HTN := Lib.hid htn
      have HJC := Lib.hid hjc
      have HJ8 := Lib.hid hjc8
      have HBB := Lib.hid hB
      have HXN := Lib.hid hx
      have HX8 := Lib.hid hx8
      rw [hnA]
      have x0 : (0 : Int) ≤ (x : Int) := by omega
      have x1 : (x : Int) < 8 := by omega
      by_cases h0 : M1 x = 0
      · have t1 : (M1 x + 1 == 1) = true := by rw [beq_iff_eq]; omega
        have hzl : zs (bump M1 x) n < zs M1 n := zs_lt (fun y hy => by
          have h1 := hM1 y
          have h2 := bump_ge M1 x y
          omega) h0 (by rw [bump_at]; omega) n hx
        obtain ⟨v, hv⟩ : ∃ v, u = v + 1 := ⟨u - 1, by omega⟩
        have hcv := HC.out v hv
        have HCALL := Lib.hid (HR.out v hv _ x (bump M1 x) (B + j * c + 1) hx (by omega) hb1 (by omega) hT2)
        have HV := Lib.hid hcv
        have H0 := Lib.hid h0
        have ha2 := HA2.out
        obtain ⟨y, hy⟩ : ∃ y, M1 x = y := ⟨_, rfl⟩
        rw [hy] at m0 m1 ha2 sw t1 hlt1 HCALL
        have HY := Lib.hid hy
        have hyb : 0 ≤ y := by omega
        clear hT hT2 hal hM1 hz1 htn hjc hjc8 hX h9 ha hmx hb1 hzl hcv h0 hy hB hx hx8 hv
        go_wp2_with fail
        refine HCALL.out.mono ?_
        rintro e w2 ⟨rfl, M2, hal2, hM2, hT3⟩
        have HAL2 : Hid (Along N M M2 ((N k).take (j + 1)) k) := by
          show Along N M M2 ((N k).take (j + 1)) k
          have e0 : M1 x = 0 := H0.out
          rw [HTN.out]
          exact HAL.out.fresh e0 (by have := HAL.out.more x; omega) hal2
        have HT3 := Lib.hid hT3
        have HZ3 : Hid (zs M2 n ≤ u) := by
          show zs M2 n ≤ u
          have h1 := zs_le (M := M1) (M' := M2) (fun y hy => by
            have h2 := hal2.more y
            have h3 := (HM1.out y).1
            have h4 : M1 y ≤ M2 y := Int.le_trans (by show M1 y ≤ (if y = x then M1 y + 1 else M1 y); split <;> omega) h2
            omega) n
          have := HZ1.out
          omega
        have HM3 : Hid (∀ y, 0 ≤ M2 y ∧ M2 y ≤ (B + (j + 1) * c : Nat)) := fun y => by
          have h1 := hM2 y
          have h2 := HJC.out
          have h3 := HV.out
          rw [h2]
          omega
        clear hal2 hM2 hT3
        go_wp2_with fail
        go_roundw
        case rel => exact ⟨j + 1, M2, by omega, by go_num, HAL2.out, HM3.out, HZ3.out, HT3.out⟩
        case measure => simp [intOf]; omega
      · have t1 : (M1 x + 1 == 1) = false := by rw [beq_eq_false_iff_ne]; omega
        have hp : 0 < M1 x := by omega
        have HAL2 : Hid (Along N M (bump M1 x) ((N k).take (j + 1)) k) := by
          show Along N M (bump M1 x) ((N k).take (j + 1)) k
          rw [htn]
          exact hal.old hp
        have HZ3 : Hid (zs (bump M1 x) n ≤ u) := by
          show zs (bump M1 x) n ≤ u
          have h1 := zs_le (M := M1) (M' := bump M1 x) (fun y hy => by
            have h2 := bump_ge M1 x y
            have h3 := hM1 y
            omega) n
          omega
        have HM3 : Hid (∀ y, 0 ≤ bump M1 x y ∧ bump M1 x y ≤ (B + (j + 1) * c : Nat)) := fun y => by
          have h1 := hM1 y
          have h2 := bump_ge M1 x y
          have h3 := HCP.out
          rw [hjc]
          omega
        have ha2 := HA2.out
        obtain ⟨y, hy⟩ : ∃ y, M1 x = y := ⟨_, rfl⟩
        rw [hy] at m0 m1 ha2 sw t1 hlt1 HT2
        clear hT hT2 hal hM1 hz1 htn hjc hjc8 hX h9 ha hmx hb1 h0 hp hy hB hx hx8
        go_wp2_with fail
        go_roundw
        case rel => exact ⟨j + 1, bump M1 x, by omega, by go_num, HAL2.out, HM3.out, HZ3.out, HT2.out⟩
        case measure => simp [intOf]; omega
    · have hjl : j = (N k).length := by omega
      rw [hjl, List.take_length] at hal
      have HAL := Lib.hid hal
      have HT := Lib.hid hT
      have HM3 : Hid (∀ y, 0 ≤ M1 y ∧ M1 y ≤ (B + 8 * c : Nat)) := fun y => by
        have h1 := hM1 y
        have h2 : j * c ≤ 8 * c := Nat.mul_le_mul_right c (by omega)
        omega
      clear hal hT hM1 hz1 hjl hj h9 ha
      go_wp2_with fail
      go_end0
      exact ⟨rfl, M1, HAL.out, HM3.out, HT.out⟩
theorem along_any {w0 : World} {F : List HP} {b mt ab : Nat} {d : Df} (hD : DefAt w0 d) (hO : Old w0 ∈ F) (hz : Small d) (h8 : d.steps.length ≤ 8) (hl : ∀ k, (needN d k).length ≤ 8) :
    ∀ u, AlongC w0 F b mt ab d u
  | 0 => along_step hD hO hz h8 hl 0 fun v e => by omega
  | u + 1 => along_step hD hO hz h8 hl (u + 1) fun v e => by
    have e2 : v = u := by omega
    rw [e2]
    exact along_any hD hO hz h8 hl u
end Go.Proofs.YtpmoanjeoaeabaaDoor
