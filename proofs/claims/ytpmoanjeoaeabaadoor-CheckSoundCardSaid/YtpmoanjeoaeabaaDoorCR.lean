/- What is wrong with the steps together: the document's together. -/
import Derived.Test.YtpmoanjeoaeabaaDoorCQ
import Derived.Test.YtpmoanjeoaeabaaDoorCN
import Derived.Test.YtpmoanjeoaeabaaDoorCI
set_option linter.unusedVariables false
set_option linter.unusedSimpArgs false
set_option linter.unnecessarySimpa false
set_option maxRecDepth 100000
namespace Go.Proofs.YtpmoanjeoaeabaaDoor
open Go.RowKit Go.ChangeShapes Go.WideShapes Go.ChangeAt
/-- how many of the first k steps are pivots -/
def pivTo (d : Df) : Nat → Nat
  | 0 => 0
  | k + 1 => pivTo d k + if kindAt d k = 2 then 1 else 0
def pivB (d : Df) (i : Nat) : Bool := decide (1 < pivTo d (i + 1))
noncomputable def togetherN (d : Df) : Int × Int :=
  if fstI d.steps.length (pivB d) < d.steps.length then ((fstI d.steps.length (pivB d) : Int), 117)
  else if fstI d.steps.length (orderB d) < d.steps.length then ((fstI d.steps.length (orderB d) : Int), 118)
  else if fstI d.steps.length (ringB d) < d.steps.length then ((fstI d.steps.length (ringB d) : Int), 119)
  else if fstI d.steps.length (looseB d) < d.steps.length then ((fstI d.steps.length (looseB d) : Int), 115)
  else (-1, 0)
section
variable {d : Df} {k : Nat}
theorem tog_piv (hk : k < d.steps.length) (h : pivB d k = true) (ha : ∀ j, j < k → pivB d j = false) : togetherN d = ((k : Int), 117) := by
  unfold togetherN
  rw [fst_hit hk h ha, if_pos hk]
theorem tog_order (h1 : ∀ j, j < d.steps.length → pivB d j = false) (hk : k < d.steps.length) (h : orderB d k = true) (ha : ∀ j, j < k → orderB d j = false) : togetherN d = ((k : Int), 118) := by
  unfold togetherN
  rw [fst_none h1, if_neg (Nat.lt_irrefl _), fst_hit hk h ha, if_pos hk]
theorem tog_ring (h1 : ∀ j, j < d.steps.length → pivB d j = false) (h2 : ∀ j, j < d.steps.length → orderB d j = false) (hk : k < d.steps.length) (h : ringB d k = true) (ha : ∀ j, j < k → ringB d j = false) : togetherN d = ((k : Int), 119) := by
  unfold togetherN
  rw [fst_none h1, if_neg (Nat.lt_irrefl _), fst_none h2, if_neg (Nat.lt_irrefl _), fst_hit hk h ha, if_pos hk]
theorem tog_loose (h1 : ∀ j, j < d.steps.length → pivB d j = false) (h2 : ∀ j, j < d.steps.length → orderB d j = false) (h3 : ∀ j, j < d.steps.length → ringB d j = false) (hk : k < d.steps.length) (h : looseB d k = true) (ha : ∀ j, j < k → looseB d j = false) : togetherN d = ((k : Int), 115) := by
  unfold togetherN
  rw [fst_none h1, if_neg (Nat.lt_irrefl _), fst_none h2, if_neg (Nat.lt_irrefl _), fst_none h3, if_neg (Nat.lt_irrefl _), fst_hit hk h ha, if_pos hk]
theorem tog_ok (h1 : ∀ j, j < d.steps.length → pivB d j = false) (h2 : ∀ j, j < d.steps.length → orderB d j = false) (h3 : ∀ j, j < d.steps.length → ringB d j = false) (h4 : ∀ j, j < d.steps.length → looseB d j = false) : togetherN d = (-1, 0) := by
  unfold togetherN
  rw [fst_none h1, if_neg (Nat.lt_irrefl _), fst_none h2, if_neg (Nat.lt_irrefl _), fst_none h3, if_neg (Nat.lt_irrefl _), fst_none h4, if_neg (Nat.lt_irrefl _)]
theorem piv_le (ha : ∀ j, j < k → pivB d j = false) : pivTo d k ≤ 1 := by
  cases k with
  | zero => exact Nat.zero_le _
  | succ k =>
    have h := ha k (by omega)
    unfold pivB at h
    have := of_decide_eq_false h
    omega
theorem none_next {p : Nat → Bool} (h : p k = false) (ha : ∀ j, j < k → p j = false) : ∀ j, j < k + 1 → p j = false := fun j hj => by
  by_cases e : j = k
  · subst e; exact h
  · exact ha j (by omega)
end
def Tg1 (W : World) (b : Nat) (V : List Value) (d : Df) (n : Nat) (pv x : Value) (wr : World) : Prop :=
  ∃ k : Nat, k ≤ n ∧ x = .int .i64 k ∧ pv = .int .i64 (pivTo d k : Nat) ∧ Sat W wr [Blk b 24 V, Old W] ∧ ∀ j, j < k → pivB d j = false
def TgR (W : World) (b : Nat) (V : List Value) (p : Nat → Bool) (n : Nat) (x : Value) (wr : World) : Prop :=
  ∃ k : Nat, k ≤ n ∧ x = .int .i64 k ∧ Sat W wr [Blk b 24 V, Old W] ∧ ∀ j, j < k → p j = false
/-- sizes of what the checks of the steps together come to -/
structure Small (d : Df) : Prop where
  steps : d.steps.length ≤ 1000000
  needs : ∀ k, (needsAt d k).length ≤ 1000000000000000000
  keys : ∀ k, (keysAt d k).length ≤ 1000000000000000000
  need : NeedIn d
set_option maxHeartbeats 6400000 in
theorem rtogether_any {w : World} (d : Df) (hD : DefAt w d) (hz : Small d) :
    Calls Tryd.prog 49 #[d.v] w (Quietly w (.tuple #[.int .i64 (togetherN d).1, .int .i64 (togetherN d).2])) := by
  have C78 : Hid (∀ k w1, Below w.heap.size w w1 → k < d.steps.length → Calls Tryd.prog 78 #[d.v, .int .i64 (k : Nat)] w1 fun e w' => e = .returned (.bool (orderB d k)) ∧ Below w1.heap.size w1 w') := fun k w1 hb hk => rorder_any d k (hD.keep hb) hk (by have := hz.steps; omega) (hz.needs k) (hz.need k hk)
  have C79 : Hid (∀ k w1, Below w.heap.size w w1 → k < d.steps.length → Calls Tryd.prog 79 #[d.v, .int .i64 (k : Nat)] w1 fun e w' => e = .returned (.bool (ringB d k)) ∧ Below w1.heap.size w1 w') := fun k w1 hb hk => rring_any d k (hD.keep hb) hk hz.steps hz.need hz.needs
  have C80 : Hid (∀ k w1, Below w.heap.size w w1 → k < d.steps.length → Calls Tryd.prog 80 #[d.v, .int .i64 (k : Nat)] w1 fun e w' => e = .returned (.bool (looseB d k)) ∧ Below w1.heap.size w1 w') := fun k w1 hb hk => rloose_any d k (hD.keep hb) hk hz.steps hz.keys
  have HC1 : Hid (∀ w', Below w.heap.size w w' → ∀ k, k < d.steps.length → ∃ g o, d.A = some ⟨g, o, none⟩ ∧ w'.cell? ⟨g, o + k * 5 + 1, none⟩ = some (.int .i64 (kindAt d k))) := fun w' hb k hk => by
    obtain ⟨g, o, hA, hc⟩ := step_cells hD (by omega)
    rw [← kind_at d k hk]
    exact ⟨g, o, hA, old_cell hb (hc k hk).2.1⟩
  have HPV : Hid (∀ k, k < d.steps.length → pivB d k = true → (∀ j, j < k → pivB d j = false) → togetherN d = ((k : Int), 117)) := fun k hk h ha => tog_piv hk h ha
  have HOR : Hid (∀ k, (∀ j, j < d.steps.length → pivB d j = false) → k < d.steps.length → orderB d k = true → (∀ j, j < k → orderB d j = false) → togetherN d = ((k : Int), 118)) := fun k h1 hk h ha => tog_order h1 hk h ha
  have HRI : Hid (∀ k, (∀ j, j < d.steps.length → pivB d j = false) → (∀ j, j < d.steps.length → orderB d j = false) → k < d.steps.length → ringB d k = true → (∀ j, j < k → ringB d j = false) → togetherN d = ((k : Int), 119)) := fun k h1 h2 hk h ha => tog_ring h1 h2 hk h ha
  have HLO : Hid (∀ k, (∀ j, j < d.steps.length → pivB d j = false) → (∀ j, j < d.steps.length → orderB d j = false) → (∀ j, j < d.steps.length → ringB d j = false) → k < d.steps.length → looseB d k = true → (∀ j, j < k → looseB d j = false) → togetherN d = ((k : Int), 115)) := fun k h1 h2 h3 hk h ha => tog_loose h1 h2 h3 hk h ha
  have HOKK : Hid ((∀ j, j < d.steps.length → pivB d j = false) → (∀ j, j < d.steps.length → orderB d j = false) → (∀ j, j < d.steps.length → ringB d j = false) → (∀ j, j < d.steps.length → looseB d j = false) → togetherN d = (-1, 0)) := fun h1 h2 h3 h4 => tog_ok h1 h2 h3 h4
  have hn := hz.steps
  obtain ⟨R, hR⟩ : ∃ R, togetherN d = R := ⟨_, rfl⟩
  rw [hR] at HPV HOR HRI HLO HOKK ⊢
  have h1 := (Sat.start w).new #[.string d.name, .slice d.A d.steps.length d.c] 24
  obtain ⟨b, hb⟩ : ∃ b, w.heap.size = b := ⟨_, rfl⟩
  unfold Df.v at C78 C79 C80 ⊢
  unfold Quietly
  obtain ⟨n, hN⟩ : ∃ n, d.steps.length = n := ⟨_, rfl⟩
  simp only [hN] at h1 C78 C79 C80 HC1 HPV HOR HRI HLO HOKK hn ⊢
  obtain ⟨x, y⟩ := R
  rw [hb] at h1
  have H1 := Lib.hid h1
  have HV : ∀ w', Sat w w' [Blk b 24 [.string d.name, .slice d.A n d.c], Old w] → Below w.heap.size w w' := fun w' h => h.old (by simp)
  have HVV := Lib.hid HV
  clear h1 hD hz hR HV hN
  go_enter Tryd.func49, Tryd.ntmps49
  go_wp2_with fail
  try simp only [hb]
  go_loopw [4, 5] (Tg1 w b [.string d.name, .slice d.A n d.c] d n) (fun _ x _ => n - (intOf x).toNat)
  case atStart => exact ⟨0, Nat.zero_le _, rfl, rfl, H1.out, fun j hj => by omega⟩
  case round =>
    obtain ⟨k, hk, rfl, rfl, hT, ha⟩ := hrel
    clear H1
    have h9 := HVV.out _ hT
    have a1 : wr.cell? ⟨b, 1, none⟩ = some (.slice d.A n d.c) := hT.blk.cell 1
    by_cases hlt : k < n
    · obtain ⟨g, o, hA, c1⟩ := HC1.out _ h9 k hlt
      have hle := piv_le ha
      have HPS : Hid (pivTo d (k + 1) = pivTo d k + if kindAt d k = 2 then 1 else 0) := rfl
      have HPB : Hid (pivB d k = decide (1 < pivTo d (k + 1))) := rfl
      have HA := Lib.hid ha
      have HT := Lib.hid hT
      have H9 := Lib.hid h9
      rw [hA] at a1 ⊢
      obtain ⟨P, hP⟩ : ∃ x, pivTo d k = x := ⟨_, rfl⟩
      obtain ⟨kd, hkd⟩ : ∃ x, kindAt d k = x := ⟨_, rfl⟩
      rw [hP] at HPS hle ⊢
      rw [hkd] at HPS c1
      clear ha hT h9 hP hkd
      by_cases h2 : kd = 2
      · have t2 : (kd == 2) = true := by rw [beq_iff_eq]; exact h2
        rw [if_pos h2] at HPS
        clear h2
        by_cases hp : P = 1
        · subst hp
          have HY := Lib.hid (HPV.out k hlt (by rw [HPB.out, HPS.out]; rfl) HA.out)
          go_wp2_with fail
          go_ret2
          exact ⟨by rw [show x = ((k : Nat) : Int) from congrArg Prod.fst HY.out, show y = 117 from congrArg Prod.snd HY.out]; rfl, by have h9 := H9.out; first | exact h9 | (rw [hb] at h9; exact h9)⟩
        · have hp0 : P = 0 := by omega
          subst hp0
          have HY : Hid (pivB d k = false) := by show _ = _; rw [HPB.out, HPS.out]; rfl
          go_wp2_with fail
          go_roundw
          case rel => exact ⟨k + 1, by omega, by go_num, by rw [HPS.out]; rfl, by rw [← hA]; exact HT.out, none_next HY.out HA.out⟩
          case measure => simp [intOf]; omega
      · have t2 : (kd == 2) = false := by rw [beq_eq_false_iff_ne]; exact h2
        rw [if_neg h2, Nat.add_zero] at HPS
        have HY : Hid (pivB d k = false) := by show _ = _; rw [HPB.out, HPS.out]; exact decide_eq_false (by omega)
        have t3 : ((P : Int) == 2) = false := by rw [beq_eq_false_iff_ne]; omega
        clear h2
        go_wp2_with fail
        go_roundw
        case rel => exact ⟨k + 1, by omega, by go_num, by rw [HPS.out]; first | done | rfl, by rw [← hA]; exact HT.out, none_next HY.out HA.out⟩
        case measure => simp [intOf]; omega
    · have hkn : k = n := by omega
      have HA1 : Hid (∀ j, j < n → pivB d j = false) := fun j hj => ha j (by omega)
      have HT := Lib.hid hT
      clear ha hT h9 hkn
      go_wp2_with fail
      go_loopw [6] (TgR w b [.string d.name, .slice d.A n d.c] (orderB d) n) (fun x _ => n - (intOf x).toNat)
      case atStart => exact ⟨0, Nat.zero_le _, rfl, HT.out, fun j hj => by omega⟩
      case round =>
        obtain ⟨k, hk, rfl, hT, ha⟩ := hrel
        clear HT
        have h9 := HVV.out _ hT
        have a0 : wr.cell? ⟨b, 0, none⟩ = some (.string d.name) := hT.blk.cell 0
        have a1 : wr.cell? ⟨b, 1, none⟩ = some (.slice d.A n d.c) := hT.blk.cell 1
        by_cases hlt : k < n
        · have CC := Lib.hid (C78.out k _ h9 hlt)
          have HA := Lib.hid ha
          have HT := Lib.hid hT
          have HY := Lib.hid (fun h => HOR.out k HA1.out hlt h HA.out)
          have HX := Lib.hid (fun h => none_next (p := orderB d) (k := k) h HA.out)
          obtain ⟨v, hv⟩ : ∃ v, orderB d k = v := ⟨_, rfl⟩
          rw [hv] at CC HY HX
          clear ha hT h9 hv
          go_wp2_with fail
          refine CC.out.mono ?_
          rintro e w1 ⟨rfl, hb1⟩
          have HT2 := Lib.hid (HT.out.below hb1)
          clear hb1 HT
          cases v with
          | true =>
            have HE := Lib.hid (HY.out rfl)
            go_wp2_with fail
            go_ret2
            exact ⟨by rw [show x = ((k : Nat) : Int) from congrArg Prod.fst HE.out, show y = 118 from congrArg Prod.snd HE.out]; rfl, by have h9 := HVV.out _ HT2.out; first | exact h9 | (rw [hb] at h9; exact h9)⟩
          | false =>
            have HE := Lib.hid (HX.out rfl)
            go_wp2_with fail
            go_roundw
            case rel => exact ⟨k + 1, by omega, by go_num, HT2.out, HE.out⟩
            case measure => simp [intOf]; omega
        · have hkn : k = n := by omega
          have HA2 : Hid (∀ j, j < n → orderB d j = false) := fun j hj => ha j (by omega)
          have HT := Lib.hid hT
          clear ha hT h9 hkn
          go_wp2_with fail
          go_loopw [8] (TgR w b [.string d.name, .slice d.A n d.c] (ringB d) n) (fun x _ => n - (intOf x).toNat)
          case atStart => exact ⟨0, Nat.zero_le _, rfl, HT.out, fun j hj => by omega⟩
          case round =>
            obtain ⟨k, hk, rfl, hT, ha⟩ := hrel
            clear HT
            have h9 := HVV.out _ hT
            have a0 : wr.cell? ⟨b, 0, none⟩ = some (.string d.name) := hT.blk.cell 0
            have a1 : wr.cell? ⟨b, 1, none⟩ = some (.slice d.A n d.c) := hT.blk.cell 1
            by_cases hlt : k < n
            · have CC := Lib.hid (C79.out k _ h9 hlt)
              have HA := Lib.hid ha
              have HT := Lib.hid hT
              have HY := Lib.hid (fun h => HRI.out k HA1.out HA2.out hlt h HA.out)
              have HX := Lib.hid (fun h => none_next (p := ringB d) (k := k) h HA.out)
              obtain ⟨v, hv⟩ : ∃ v, ringB d k = v := ⟨_, rfl⟩
              rw [hv] at CC HY HX
              clear ha hT h9 hv
              go_wp2_with fail
              refine CC.out.mono ?_
              rintro e w1 ⟨rfl, hb1⟩
              have HT2 := Lib.hid (HT.out.below hb1)
              clear hb1 HT
              cases v with
              | true =>
                have HE := Lib.hid (HY.out rfl)
                go_wp2_with fail
                go_ret2
                exact ⟨by rw [show x = ((k : Nat) : Int) from congrArg Prod.fst HE.out, show y = 119 from congrArg Prod.snd HE.out]; rfl, by have h9 := HVV.out _ HT2.out; first | exact h9 | (rw [hb] at h9; exact h9)⟩
              | false =>
                have HE := Lib.hid (HX.out rfl)
                go_wp2_with fail
                go_roundw
                case rel => exact ⟨k + 1, by omega, by go_num, HT2.out, HE.out⟩
                case measure => simp [intOf]; omega
            · have hkn : k = n := by omega
              have HA3 : Hid (∀ j, j < n → ringB d j = false) := fun j hj => ha j (by omega)
              have HT := Lib.hid hT
              clear ha hT h9 hkn
              go_wp2_with fail
              go_loopw [10] (TgR w b [.string d.name, .slice d.A n d.c] (looseB d) n) (fun x _ => n - (intOf x).toNat)
              case atStart => exact ⟨0, Nat.zero_le _, rfl, HT.out, fun j hj => by omega⟩
              case round =>
                obtain ⟨k, hk, rfl, hT, ha⟩ := hrel
                clear HT
                have h9 := HVV.out _ hT
                have a0 : wr.cell? ⟨b, 0, none⟩ = some (.string d.name) := hT.blk.cell 0
                have a1 : wr.cell? ⟨b, 1, none⟩ = some (.slice d.A n d.c) := hT.blk.cell 1
                by_cases hlt : k < n
                · have CC := Lib.hid (C80.out k _ h9 hlt)
                  have HA := Lib.hid ha
                  have HT := Lib.hid hT
                  have HY := Lib.hid (fun h => HLO.out k HA1.out HA2.out HA3.out hlt h HA.out)
                  have HX := Lib.hid (fun h => none_next (p := looseB d) (k := k) h HA.out)
                  obtain ⟨v, hv⟩ : ∃ v, looseB d k = v := ⟨_, rfl⟩
                  rw [hv] at CC HY HX
                  clear ha hT h9 hv
                  go_wp2_with fail
                  refine CC.out.mono ?_
                  rintro e w1 ⟨rfl, hb1⟩
                  have HT2 := Lib.hid (HT.out.below hb1)
                  clear hb1 HT
                  cases v with
                  | true =>
                    have HE := Lib.hid (HY.out rfl)
                    go_wp2_with fail
                    go_ret2
                    exact ⟨by rw [show x = ((k : Nat) : Int) from congrArg Prod.fst HE.out, show y = 115 from congrArg Prod.snd HE.out]; rfl, by have h9 := HVV.out _ HT2.out; first | exact h9 | (rw [hb] at h9; exact h9)⟩
                  | false =>
                    have HE := Lib.hid (HX.out rfl)
                    go_wp2_with fail
                    go_roundw
                    case rel => exact ⟨k + 1, by omega, by go_num, HT2.out, HE.out⟩
                    case measure => simp [intOf]; omega
                · have hkn : k = n := by omega
                  have HA4 : Hid (∀ j, j < n → looseB d j = false) := fun j hj => ha j (by omega)
                  have HT := Lib.hid hT
                  clear ha hT h9 hkn
                  go_wp2_with fail
                  go_ret2
                  have HE := HOKK.out HA1.out HA2.out HA3.out HA4.out
                  exact ⟨by rw [show x = -1 from congrArg Prod.fst HE, show y = 0 from congrArg Prod.snd HE]; rfl, by have h9 := HVV.out _ HT.out; first | exact h9 | (rw [hb] at h9; exact h9)⟩
end Go.Proofs.YtpmoanjeoaeabaaDoor
