import Derived.Test.YtpmoanjeoaeabaaDoorA5
import Derived.Test.YtpmoanjeoaeabaaDoorA4
import Derived.Test.YtpmoanjeoaeabaaDoorA1
import Derived.Laws.EntriesVeiled
section
/- What is wrong with the steps together: the document's together. -/
set_option linter.unusedVariables false
set_option linter.unusedSimpArgs false
set_option linter.unnecessarySimpa false
set_option maxRecDepth 100000
namespace Go.Proofs.YtpmoanjeoaeabaaDoor
open Go.RowKit Go.ChangeShapes Go.WideShapes Go.ChangeAt
/-- how many of the first k steps are pivots -/
def pivTo (d : Df) : Nat → Nat
  | 0 => 0
  | k + 1 => pivTo d k + if kindAt d k = 2 then 1 else 0
def pivB (d : Df) (i : Nat) : Bool := decide (1 < pivTo d (i + 1))
noncomputable def togetherN (d : Df) : Int × Int :=
  if fstI d.steps.length (pivB d) < d.steps.length then ((fstI d.steps.length (pivB d) : Int), 117)
  else if fstI d.steps.length (orderB d) < d.steps.length then ((fstI d.steps.length (orderB d) : Int), 118)
  else if fstI d.steps.length (ringB d) < d.steps.length then ((fstI d.steps.length (ringB d) : Int), 119)
  else if fstI d.steps.length (looseB d) < d.steps.length then ((fstI d.steps.length (looseB d) : Int), 115)
  else (-1, 0)
section
variable {d : Df} {k : Nat}
theorem tog_piv (hk : k < d.steps.length) (h : pivB d k = true) (ha : ∀ j, j < k → pivB d j = false) : togetherN d = ((k : Int), 117) := by
  unfold togetherN
  rw [fst_hit hk h ha, if_pos hk]
theorem tog_order (h1 : ∀ j, j < d.steps.length → pivB d j = false) (hk : k < d.steps.length) (h : orderB d k = true) (ha : ∀ j, j < k → orderB d j = false) : togetherN d = ((k : Int), 118) := by
  unfold togetherN
  rw [fst_none h1, if_neg (Nat.lt_irrefl _), fst_hit hk h ha, if_pos hk]
theorem tog_ring (h1 : ∀ j, j < d.steps.length → pivB d j = false) (h2 : ∀ j, j < d.steps.length → orderB d j = false) (hk : k < d.steps.length) (h : ringB d k = true) (ha : ∀ j, j < k → ringB d j = false) : togetherN d = ((k : Int), 119) := by
  unfold togetherN
  rw [fst_none h1, if_neg (Nat.lt_irrefl _), fst_none h2, if_neg (Nat.lt_irrefl _), fst_hit hk h ha, if_pos hk]
theorem tog_loose (h1 : ∀ j, j < d.steps.length → pivB d j = false) (h2 : ∀ j, j < d.steps.length → orderB d j = false) (h3 : ∀ j, j < d.steps.length → ringB d j = false) (hk : k < d.steps.length) (h : looseB d k = true) (ha : ∀ j, j < k → looseB d j = false) : togetherN d = ((k : Int), 115) := by
  unfold togetherN
  rw [fst_none h1, if_neg (Nat.lt_irrefl _), fst_none h2, if_neg (Nat.lt_irrefl _), fst_none h3, if_neg (Nat.lt_irrefl _), fst_hit hk h ha, if_pos hk]
theorem tog_ok (h1 : ∀ j, j < d.steps.length → pivB d j = false) (h2 : ∀ j, j < d.steps.length → orderB d j = false) (h3 : ∀ j, j < d.steps.length → ringB d j = false) (h4 : ∀ j, j < d.steps.length → looseB d j = false) : togetherN d = (-1, 0) := by
  unfold togetherN
  rw [fst_none h1, if_neg (Nat.lt_irrefl _), fst_none h2, if_neg (Nat.lt_irrefl _), fst_none h3, if_neg (Nat.lt_irrefl _), fst_none h4, if_neg (Nat.lt_irrefl _)]
theorem piv_le (ha : ∀ j, j < k → pivB d j = false) : pivTo d k ≤ 1 := by
  cases k with
  | zero => exact Nat.zero_le _
  | succ k =>
    have h := ha k (by omega)
    unfold pivB at h
    have := of_decide_eq_false h
    omega
theorem none_next {p : Nat → Bool} (h : p k = false) (ha : ∀ j, j < k → p j = false) : ∀ j, j < k + 1 → p j = false := fun j hj => by
  by_cases e : j = k
  · subst e; exact h
  · exact ha j (by omega)
end
def Tg1 (W : World) (b : Nat) (V : List Value) (d : Df) (n : Nat) (pv x : Value) (wr : World) : Prop :=
  ∃ k : Nat, k ≤ n ∧ x = .int .i64 k ∧ pv = .int .i64 (pivTo d k : Nat) ∧ Sat W wr [Blk b 24 V, Old W] ∧ ∀ j, j < k → pivB d j = false
def TgR (W : World) (b : Nat) (V : List Value) (p : Nat → Bool) (n : Nat) (x : Value) (wr : World) : Prop :=
  ∃ k : Nat, k ≤ n ∧ x = .int .i64 k ∧ Sat W wr [Blk b 24 V, Old W] ∧ ∀ j, j < k → p j = false
/-- sizes of what the checks of the steps together come to -/
structure Small (d : Df) : Prop where
  steps : d.steps.length ≤ 1000000
  needs : ∀ k, (needsAt d k).length ≤ 1000000000000000000
  keys : ∀ k, (keysAt d k).length ≤ 1000000000000000000
  need : NeedIn d
set_option maxHeartbeats 6400000 in
theorem rtogether_any {w : World} (d : Df) (hD : DefAt w d) (hz : Small d) :
    Calls Tryd.prog 49 #[d.v] w (Quietly w (.tuple #[.int .i64 (togetherN d).1, .int .i64 (togetherN d).2])) := by
  have C78 : Hid (∀ k w1, Below w.heap.size w w1 → k < d.steps.length → Calls Tryd.prog 78 #[d.v, .int .i64 (k : Nat)] w1 fun e w' => e = .returned (.bool (orderB d k)) ∧ Below w1.heap.size w1 w') := fun k w1 hb hk => rorder_any d k (hD.keep hb) hk (by have := hz.steps; omega) (hz.needs k) (hz.need k hk)
  have C79 : Hid (∀ k w1, Below w.heap.size w w1 → k < d.steps.length → Calls Tryd.prog 79 #[d.v, .int .i64 (k : Nat)] w1 fun e w' => e = .returned (.bool (ringB d k)) ∧ Below w1.heap.size w1 w') := fun k w1 hb hk => rring_any d k (hD.keep hb) hk hz.steps hz.need hz.needs
  have C80 : Hid (∀ k w1, Below w.heap.size w w1 → k < d.steps.length → Calls Tryd.prog 80 #[d.v, .int .i64 (k : Nat)] w1 fun e w' => e = .returned (.bool (looseB d k)) ∧ Below w1.heap.size w1 w') := fun k w1 hb hk => rloose_any d k (hD.keep hb) hk hz.steps hz.keys
  have HC1 : Hid (∀ w', Below w.heap.size w w' → ∀ k, k < d.steps.length → ∃ g o, d.A = some ⟨g, o, none⟩ ∧ w'.cell? ⟨g, o + k * 5 + 1, none⟩ = some (.int .i64 (kindAt d k))) := fun w' hb k hk => by
    obtain ⟨g, o, hA, hc⟩ := step_cells hD (by omega)
    rw [← kind_at d k hk]
    exact ⟨g, o, hA, old_cell hb (hc k hk).2.1⟩
  have HPV : Hid (∀ k, k < d.steps.length → pivB d k = true → (∀ j, j < k → pivB d j = false) → togetherN d = ((k : Int), 117)) := fun k hk h ha => tog_piv hk h ha
  have HOR : Hid (∀ k, (∀ j, j < d.steps.length → pivB d j = false) → k < d.steps.length → orderB d k = true → (∀ j, j < k → orderB d j = false) → togetherN d = ((k : Int), 118)) := fun k h1 hk h ha => tog_order h1 hk h ha
  have HRI : Hid (∀ k, (∀ j, j < d.steps.length → pivB d j = false) → (∀ j, j < d.steps.length → orderB d j = false) → k < d.steps.length → ringB d k = true → (∀ j, j < k → ringB d j = false) → togetherN d = ((k : Int), 119)) := fun k h1 h2 hk h ha => tog_ring h1 h2 hk h ha
  have HLO : Hid (∀ k, (∀ j, j < d.steps.length → pivB d j = false) → (∀ j, j < d.steps.length → orderB d j = false) → (∀ j, j < d.steps.length → ringB d j = false) → k < d.steps.length → looseB d k = true → (∀ j, j < k → looseB d j = false) → togetherN d = ((k : Int), 115)) := fun k h1 h2 h3 hk h ha => tog_loose h1 h2 h3 hk h ha
  have HOKK : Hid ((∀ j, j < d.steps.length → pivB d j = false) → (∀ j, j < d.steps.length → orderB d j = false) → (∀ j, j < d.steps.length → ringB d j = false) → (∀ j, j < d.steps.length → looseB d j = false) → togetherN d = (-1, 0)) := fun h1 h2 h3 h4 => tog_ok h1 h2 h3 h4
  have hn := hz.steps
  obtain ⟨R, hR⟩ : ∃ R, togetherN d = R := ⟨_, rfl⟩
  rw [hR] at HPV HOR HRI HLO HOKK ⊢
  have h1 := (Sat.start w).new #[.string d.name, .slice d.A d.steps.length d.c] 24
  obtain ⟨b, hb⟩ : ∃ b, w.heap.size = b := ⟨_, rfl⟩
  unfold Df.v at C78 C79 C80 ⊢
  unfold Quietly
  obtain ⟨n, hN⟩ : ∃ n, d.steps.length = n := ⟨_, rfl⟩
  simp only [hN] at h1 C78 C79 C80 HC1 HPV HOR HRI HLO HOKK hn ⊢
  obtain ⟨x, y⟩ := R
  rw [hb] at h1
  have H1 := Lib.hid h1
  have HV : ∀ w', Sat w w' [Blk b 24 [.string d.name, .slice d.A n d.c], Old w] → Below w.heap.size w w' := fun w' h => h.old (by simp)
  have HVV := Lib.hid HV
  clear h1 hD hz hR HV hN
  go_enter Tryd.func49, Tryd.ntmps49
  go_wp2_with fail
  try simp only [hb]
  go_loopw [4, 5] (Tg1 w b [.string d.name, .slice d.A n d.c] d n) (fun _ x _ => n - (intOf x).toNat)
  case atStart => exact ⟨0, Nat.zero_le _, rfl, rfl, H1.out, fun j hj => by omega⟩
  case round =>
    obtain ⟨k, hk, rfl, rfl, hT, ha⟩ := hrel
    clear H1
    have h9 := HVV.out _ hT
    have a1 : wr.cell? ⟨b, 1, none⟩ = some (.slice d.A n d.c) := hT.blk.cell 1
    by_cases hlt : k < n
    · obtain ⟨g, o, hA, c1⟩ := HC1.out _ h9 k hlt
      have hle := piv_le ha
      have HPS : Hid (pivTo d (k + 1) = pivTo d k + if kindAt d k = 2 then 1 else 0) := rfl
      have HPB : Hid (pivB d k = decide (1 < pivTo d (k + 1))) := rfl
      have HA := Lib.hid ha
      have HT := Lib.hid hT
      have H9 := Lib.hid h9
      rw [hA] at a1 ⊢
      obtain ⟨P, hP⟩ : ∃ x, pivTo d k = x := ⟨_, rfl⟩
      obtain ⟨kd, hkd⟩ : ∃ x, kindAt d k = x := ⟨_, rfl⟩
      rw [hP] at HPS hle ⊢
      rw [hkd] at HPS c1
      clear ha hT h9 hP hkd
      by_cases h2 : kd = 2
      · have t2 : (kd == 2) = true := by rw [beq_iff_eq]; exact h2
        rw [if_pos h2] at HPS
        clear h2
        by_cases hp : P = 1
        · subst hp
          have HY := Lib.hid (HPV.out k hlt (by rw [HPB.out, HPS.out]; rfl) HA.out)
          go_wp2_with fail
          go_ret2
          exact ⟨by rw [show x = ((k : Nat) : Int) from congrArg Prod.fst HY.out, show y = 117 from congrArg Prod.snd HY.out]; rfl, by have h9 := H9.out; first | exact h9 | (rw [hb] at h9; exact h9)⟩
        · have hp0 : P = 0 := by omega
          subst hp0
          have HY : Hid (pivB d k = false) := by show _ = _; rw [HPB.out, HPS.out]; rfl
          go_wp2_with fail
          go_roundw
          case rel => exact ⟨k + 1, by omega, by go_num, by rw [HPS.out]; rfl, by rw [← hA]; exact HT.out, none_next HY.out HA.out⟩
          case measure => simp [intOf]; omega
      · have t2 : (kd == 2) = false := by rw [beq_eq_false_iff_ne]; exact h2
        rw [if_neg h2, Nat.add_zero] at HPS
        have HY : Hid (pivB d k = false) := by show _ = _; rw [HPB.out, HPS.out]; exact decide_eq_false (by omega)
        have t3 : ((P : Int) == 2) = false := by rw [beq_eq_false_iff_ne]; omega
        clear h2
        go_wp2_with fail
        go_roundw
        case rel => exact ⟨k + 1, by omega, by go_num, by rw [HPS.out]; first | done | rfl, by rw [← hA]; exact HT.out, none_next HY.out HA.out⟩
        case measure => simp [intOf]; omega
    · have hkn : k = n := by omega
      have HA1 : Hid (∀ j, j < n → pivB d j = false) := fun j hj => ha j (by omega)
      have HT := Lib.hid hT
      clear ha hT h9 hkn
      go_wp2_with fail
      go_loopw [6] (TgR w b [.string d.name, .slice d.A n d.c] (orderB d) n) (fun x _ => n - (intOf x).toNat)
      case atStart => exact ⟨0, Nat.zero_le _, rfl, HT.out, fun j hj => by omega⟩
      case round =>
        obtain ⟨k, hk, rfl, hT, ha⟩ := hrel
        clear HT
        have h9 := HVV.out _ hT
        have a0 : wr.cell? ⟨b, 0, none⟩ = some (.string d.name) := hT.blk.cell 0
        have a1 : wr.cell? ⟨b, 1, none⟩ = some (.slice d.A n d.c) := hT.blk.cell 1
        by_cases hlt : k < n
        · have CC := Lib.hid (C78.out k _ h9 hlt)
          have HA := Lib.hid ha
          have HT := Lib.hid hT
          have HY := Lib.hid (fun h => HOR.out k HA1.out hlt h HA.out)
          have HX := Lib.hid (fun h => none_next (p := orderB d) (k := k) h HA.out)
          obtain ⟨v, hv⟩ : ∃ v, orderB d k = v := ⟨_, rfl⟩
          rw [hv] at CC HY HX
          clear ha hT h9 hv
          go_wp2_with fail
          refine CC.out.mono ?_
          rintro e w1 ⟨rfl, hb1⟩
          have HT2 := Lib.hid (HT.out.below hb1)
          clear hb1 HT
          cases v with
          | true =>
            have HE := Lib.hid (HY.out rfl)
            go_wp2_with fail
            go_ret2
            exact ⟨by rw [show x = ((k : Nat) : Int) from congrArg Prod.fst HE.out, show y = 118 from congrArg Prod.snd HE.out]; rfl, by have h9 := HVV.out _ HT2.out; first | exact h9 | (rw [hb] at h9; exact h9)⟩
          | false =>
            have HE := Lib.hid (HX.out rfl)
            go_wp2_with fail
            go_roundw
            case rel => exact ⟨k + 1, by omega, by go_num, HT2.out, HE.out⟩
            case measure => simp [intOf]; omega
        · have hkn : k = n := by omega
          have HA2 : Hid (∀ j, j < n → orderB d j = false) := fun j hj => ha j (by omega)
          have HT := Lib.hid hT
          clear ha hT h9 hkn
          go_wp2_with fail
          go_loopw [8] (TgR w b [.string d.name, .slice d.A n d.c] (ringB d) n) (fun x _ => n - (intOf x).toNat)
          case atStart => exact ⟨0, Nat.zero_le _, rfl, HT.out, fun j hj => by omega⟩
          case round =>
            obtain ⟨k, hk, rfl, hT, ha⟩ := hrel
            clear HT
            have h9 := HVV.out _ hT
            have a0 : wr.cell? ⟨b, 0, none⟩ = some (.string d.name) := hT.blk.cell 0
            have a1 : wr.cell? ⟨b, 1, none⟩ = some (.slice d.A n d.c) := hT.blk.cell 1
            by_cases hlt : k < n
            · have CC := Lib.hid (C79.out k _ h9 hlt)
              have HA := Lib.hid ha
              have HT := Lib.hid hT
              have HY := Lib.hid (fun h => HRI.out k HA1.out HA2.out hlt h HA.out)
              have HX := Lib.hid (fun h => none_next (p := ringB d) (k := k) h HA.out)
              obtain ⟨v, hv⟩ : ∃ v, ringB d k = v := ⟨_, rfl⟩
              rw [hv] at CC HY HX
              clear ha hT h9 hv
              go_wp2_with fail
              refine CC.out.mono ?_
              rintro e w1 ⟨rfl, hb1⟩
              have HT2 := Lib.hid (HT.out.below hb1)
              clear hb1 HT
              cases v with
              | true =>
                have HE := Lib.hid (HY.out rfl)
                go_wp2_with fail
                go_ret2
                exact ⟨by rw [show x = ((k : Nat) : Int) from congrArg Prod.fst HE.out, show y = 119 from congrArg Prod.snd HE.out]; rfl, by have h9 := HVV.out _ HT2.out; first | exact h9 | (rw [hb] at h9; exact h9)⟩
              | false =>
                have HE := Lib.hid (HX.out rfl)
                go_wp2_with fail
                go_roundw
                case rel => exact ⟨k + 1, by omega, by go_num, HT2.out, HE.out⟩
                case measure => simp [intOf]; omega
            · have hkn : k = n := by omega
              have HA3 : Hid (∀ j, j < n → ringB d j = false) := fun j hj => ha j (by omega)
              have HT := Lib.hid hT
              clear ha hT h9 hkn
              go_wp2_with fail
              go_loopw [10] (TgR w b [.string d.name, .slice d.A n d.c] (looseB d) n) (fun x _ => n - (intOf x).toNat)
              case atStart => exact ⟨0, Nat.zero_le _, rfl, HT.out, fun j hj => by omega⟩
              case round =>
                obtain ⟨k, hk, rfl, hT, ha⟩ := hrel
                clear HT
                have h9 := HVV.out _ hT
                have a0 : wr.cell? ⟨b, 0, none⟩ = some (.string d.name) := hT.blk.cell 0
                have a1 : wr.cell? ⟨b, 1, none⟩ = some (.slice d.A n d.c) := hT.blk.cell 1
                by_cases hlt : k < n
                · have CC := Lib.hid (C80.out k _ h9 hlt)
                  have HA := Lib.hid ha
                  have HT := Lib.hid hT
                  have HY := Lib.hid (fun h => HLO.out k HA1.out HA2.out HA3.out hlt h HA.out)
                  have HX := Lib.hid (fun h => none_next (p := looseB d) (k := k) h HA.out)
                  obtain ⟨v, hv⟩ : ∃ v, looseB d k = v := ⟨_, rfl⟩
                  rw [hv] at CC HY HX
                  clear ha hT h9 hv
                  go_wp2_with fail
                  refine CC.out.mono ?_
                  rintro e w1 ⟨rfl, hb1⟩
                  have HT2 := Lib.hid (HT.out.below hb1)
                  clear hb1 HT
                  cases v with
                  | true =>
                    have HE := Lib.hid (HY.out rfl)
                    go_wp2_with fail
                    go_ret2
                    exact ⟨by rw [show x = ((k : Nat) : Int) from congrArg Prod.fst HE.out, show y = 115 from congrArg Prod.snd HE.out]; rfl, by have h9 := HVV.out _ HT2.out; first | exact h9 | (rw [hb] at h9; exact h9)⟩
                  | false =>
                    have HE := Lib.hid (HX.out rfl)
                    go_wp2_with fail
                    go_roundw
                    case rel => exact ⟨k + 1, by omega, by go_num, HT2.out, HE.out⟩
                    case measure => simp [intOf]; omega
                · have hkn : k = n := by omega
                  have HA4 : Hid (∀ j, j < n → looseB d j = false) := fun j hj => ha j (by omega)
                  have HT := Lib.hid hT
                  clear ha hT h9 hkn
                  go_wp2_with fail
                  go_ret2
                  have HE := HOKK.out HA1.out HA2.out HA3.out HA4.out
                  exact ⟨by rw [show x = -1 from congrArg Prod.fst HE, show y = 0 from congrArg Prod.snd HE]; rfl, by have h9 := HVV.out _ HT.out; first | exact h9 | (rw [hb] at h9; exact h9)⟩
end Go.Proofs.YtpmoanjeoaeabaaDoor
end

section
/- The document's Check. -/
set_option linter.unusedVariables false
set_option linter.unusedSimpArgs false
set_option linter.unnecessarySimpa false
set_option maxRecDepth 100000
namespace Go.Proofs.YtpmoanjeoaeabaaDoor
open Go.RowKit Go.ChangeShapes Go.WideShapes Go.ChangeAt
def badB (d : Df) (i : Nat) : Bool := decide (aloneE d i ≠ 0)
/-- what is wrong with a definition, and where -/
noncomputable def checkN (d : Df) : Int × Int :=
  if isN d.name = false then (-1, 110) else if d.steps.length < 1 ∨ 8 < d.steps.length then (-1, 111)
  else if fstI d.steps.length (badB d) < d.steps.length then ((fstI d.steps.length (badB d) : Int), aloneE d (fstI d.steps.length (badB d)))
  else togetherN d
section
variable {d : Df} {k : Nat}
theorem check_name (h : isN d.name = false) : checkN d = (-1, 110) := by
  unfold checkN
  rw [if_pos h]
theorem check_steps (h : isN d.name = true) (h2 : d.steps.length < 1 ∨ 8 < d.steps.length) : checkN d = (-1, 111) := by
  unfold checkN
  rw [if_neg (by rw [h]; decide), if_pos h2]
theorem check_alone (h : isN d.name = true) (h2 : 1 ≤ d.steps.length ∧ d.steps.length ≤ 8) (hk : k < d.steps.length) (hb : badB d k = true) (ha : ∀ j, j < k → badB d j = false) : checkN d = ((k : Int), aloneE d k) := by
  unfold checkN
  rw [if_neg (by rw [h]; decide), if_neg (by omega), fst_hit hk hb ha, if_pos hk]
theorem check_all (h : isN d.name = true) (h2 : 1 ≤ d.steps.length ∧ d.steps.length ≤ 8) (ha : ∀ j, j < d.steps.length → badB d j = false) : checkN d = togetherN d := by
  unfold checkN
  rw [if_neg (by rw [h]; decide), if_neg (by omega), fst_none ha, if_neg (Nat.lt_irrefl _)]
theorem bad_no (h : badB d k = false) : isN (nameAt d k) = true ∧ twiceB d k = false ∧ (1 ≤ kindAt d k ∧ kindAt d k ≤ 3) ∧ (0 ≤ partAt d k ∧ partAt d k ≤ 3) ∧ keysB (keysAt d k) (partAt d k) = true ∧ needsB (needsAt d k) k d.steps.length = true := by
  have h0 : aloneE d k = 0 := by simpa using of_decide_eq_false h
  unfold aloneE at h0
  split at h0
  · cases h0
  split at h0
  · cases h0
  split at h0
  · cases h0
  split at h0
  · cases h0
  split at h0
  · cases h0
  split at h0
  · cases h0
  refine ⟨by simp_all, by simp_all, by omega, by omega, by simp_all, by simp_all⟩
theorem ok_getD {l : List Int} {i n : Nat} (h : needsB l i n = true) : ∀ m ∈ l, 0 ≤ m ∧ m < n ∧ m ≠ i := by
  intro m hm
  obtain ⟨j, hj, rfl⟩ := List.getElem_of_mem hm
  have := (of_decide_eq_true h) j hj
  unfold okAt at this
  rw [← List.getElem_eq_getD (h := hj)] at this
  exact ⟨this.1, this.2.1, this.2.2.1⟩
theorem needIn_of (ha : ∀ j, j < d.steps.length → badB d j = false) : NeedIn d := fun k hk m hm => by
  have := ok_getD (bad_no (ha k hk)).2.2.2.2.2 m hm
  exact ⟨this.1, this.2.1⟩
theorem needsAt_len (hz : Sized d) (k : Nat) : (needsAt d k).length ≤ 17592186043904 := by
  by_cases hk : k < d.steps.length
  · rw [← needs_at d k hk]
    exact hz.needs _ (List.getElem_mem hk)
  · unfold needsAt
    rw [List.getD_eq_getElem?_getD, List.getElem?_eq_none (by omega)]
    exact Nat.zero_le _
theorem keysAt_len (hz : Sized d) (k : Nat) : (keysAt d k).length ≤ 17592186043904 := by
  by_cases hk : k < d.steps.length
  · rw [← keys_at d k hk]
    exact hz.keyn _ (List.getElem_mem hk)
  · unfold keysAt
    rw [List.getD_eq_getElem?_getD, List.getElem?_eq_none (by omega)]
    exact Nat.zero_le _
theorem small_of (hz : Sized d) (h8 : d.steps.length ≤ 8) (ha : ∀ j, j < d.steps.length → badB d j = false) : Small d :=
  ⟨by omega, fun k => by have := needsAt_len hz k; omega, fun k => by have := keysAt_len hz k; omega, needIn_of ha⟩
end
set_option maxHeartbeats 3200000 in
theorem rcheck_any {w : World} (d : Df) (hD : DefAt w d) (hz : Sized d) :
    Calls Tryd.prog 13 #[d.v] w (Quietly w (.tuple #[.int .i64 (checkN d).1, .int .i64 (checkN d).2])) := by
  have C47 : Hid (∀ w1, Calls Tryd.prog 47 #[.string d.name] w1 fun e w' => e = .returned (.bool (isN d.name)) ∧ w' = w1) := fun w1 => ris_any _ w1 hz.name
  have C48 : Hid (∀ k w1, Below w.heap.size w w1 → k < d.steps.length → Calls Tryd.prog 48 #[d.v, .int .i64 (k : Nat)] w1 fun e w' => e = .returned (.int .i64 (aloneE d k)) ∧ Below w1.heap.size w1 w') := fun k w1 hb hk => ralone_any d k (hD.keep hb) hk hz
  have C49 : Hid (d.steps.length ≤ 8 → (∀ j, j < d.steps.length → badB d j = false) → ∀ w1, Below w.heap.size w w1 → Calls Tryd.prog 49 #[d.v] w1 fun e w' => e = .returned (.tuple #[.int .i64 (togetherN d).1, .int .i64 (togetherN d).2]) ∧ Below w1.heap.size w1 w') := fun h8 ha w1 hb => rtogether_any d (hD.keep hb) (small_of hz h8 ha)
  have HNA : Hid (isN d.name = false → checkN d = (-1, 110)) := fun h => check_name h
  have HST : Hid (isN d.name = true → (d.steps.length < 1 ∨ 8 < d.steps.length) → checkN d = (-1, 111)) := fun h h2 => check_steps h h2
  have HAL : Hid (∀ k, isN d.name = true → 1 ≤ d.steps.length ∧ d.steps.length ≤ 8 → k < d.steps.length → aloneE d k ≠ 0 → (∀ j, j < k → badB d j = false) → checkN d = ((k : Int), aloneE d k)) := fun k h h2 hk hb ha => check_alone h h2 hk (decide_eq_true hb) ha
  have HTO : Hid (isN d.name = true → 1 ≤ d.steps.length ∧ d.steps.length ≤ 8 → (∀ j, j < d.steps.length → badB d j = false) → checkN d = togetherN d) := fun h h2 ha => check_all h h2 ha
  have HBB : Hid (∀ k, aloneE d k = 0 → badB d k = false) := fun k h => decide_eq_false (by simpa using h)
  have hnn := hz.steps
  obtain ⟨R, hR⟩ : ∃ R, checkN d = R := ⟨_, rfl⟩
  obtain ⟨T, hT⟩ : ∃ R, togetherN d = R := ⟨_, rfl⟩
  rw [hR] at HNA HST HAL HTO ⊢
  rw [hT] at C49 HTO
  have h1 := (Sat.start w).new #[.string d.name, .slice d.A d.steps.length d.c] 24
  obtain ⟨b, hb⟩ : ∃ b, w.heap.size = b := ⟨_, rfl⟩
  unfold Df.v at C48 C49 ⊢
  unfold Quietly
  obtain ⟨n, hN⟩ : ∃ n, d.steps.length = n := ⟨_, rfl⟩
  simp only [hN] at h1 C48 C49 HST HAL HTO hnn ⊢
  obtain ⟨x, y⟩ := R
  obtain ⟨tx, ty⟩ := T
  rw [hb] at h1
  have H1 := Lib.hid h1
  have HVV : Hid (∀ w', Sat w w' [Blk b 24 [.string d.name, .slice d.A n d.c], Old w] → Below w.heap.size w w') := fun w' h => h.old (by simp)
  have a1 := h1.blk.cell 1
  obtain ⟨iv, hiv⟩ : ∃ v, isN d.name = v := ⟨_, rfl⟩
  rw [hiv] at C47 HNA HST HAL HTO
  clear h1 hD hz hR hN hT hiv
  go_enter Tryd.func13, Tryd.ntmps13
  go_wp2_with fail
  try simp only [hb]
  refine (C47.out _).mono ?_
  rintro e w1 ⟨rfl, rfl⟩
  cases iv with
  | false =>
    have HE := Lib.hid (HNA.out rfl)
    go_wp2_with fail
    go_ret2
    exact ⟨by rw [show x = -1 from congrArg Prod.fst HE.out, show y = 110 from congrArg Prod.snd HE.out]; rfl, by have h9 := HVV.out _ H1.out; first | exact h9 | (rw [hb] at h9; exact h9)⟩
  | true =>
    by_cases h0 : n < 1
    · have t0 : decide ((n : Int) < 1) = true := decide_eq_true (by omega)
      have HE := Lib.hid (HST.out rfl (.inl h0))
      clear h0
      go_wp2_with fail
      go_ret2
      exact ⟨by rw [show x = -1 from congrArg Prod.fst HE.out, show y = 111 from congrArg Prod.snd HE.out]; rfl, by have h9 := HVV.out _ H1.out; first | exact h9 | (rw [hb] at h9; exact h9)⟩
    have t0 : decide ((n : Int) < 1) = false := decide_eq_false (by omega)
    by_cases h8 : 8 < n
    · have t8 : decide ((8 : Int) < (n : Int)) = true := decide_eq_true (by omega)
      have HE := Lib.hid (HST.out rfl (.inr h8))
      clear h0 h8
      go_wp2_with fail
      go_ret2
      exact ⟨by rw [show x = -1 from congrArg Prod.fst HE.out, show y = 111 from congrArg Prod.snd HE.out]; rfl, by have h9 := HVV.out _ H1.out; first | exact h9 | (rw [hb] at h9; exact h9)⟩
    have t8 : decide ((8 : Int) < (n : Int)) = false := decide_eq_false (by omega)
    have HN8 : Hid (1 ≤ n ∧ n ≤ 8) := ⟨by omega, by omega⟩
    clear h0 h8
    go_wp2_with fail
    go_loopw [5] (TgR w b [.string d.name, .slice d.A n d.c] (badB d) n) (fun x _ => n - (intOf x).toNat)
    case atStart => exact ⟨0, Nat.zero_le _, rfl, H1.out, fun j hj => by omega⟩
    case round =>
      obtain ⟨k, hk, rfl, hT, ha⟩ := hrel
      clear H1 a1
      have h9 := HVV.out _ hT
      have a0 : wr.cell? ⟨b, 0, none⟩ = some (.string d.name) := hT.blk.cell 0
      have a1 : wr.cell? ⟨b, 1, none⟩ = some (.slice d.A n d.c) := hT.blk.cell 1
      by_cases hlt : k < n
      · have CC := Lib.hid (C48.out k _ h9 hlt)
        have HA := Lib.hid ha
        have HT := Lib.hid hT
        have HY := Lib.hid (fun h => HAL.out k (by first | trivial | rfl) HN8.out hlt h HA.out)
        have HX := Lib.hid (fun h => none_next (p := badB d) (k := k) (HBB.out k h) HA.out)
        obtain ⟨v, hv⟩ : ∃ v, aloneE d k = v := ⟨_, rfl⟩
        rw [hv] at CC HY HX
        clear ha hT h9 hv
        go_wp2_with fail
        refine CC.out.mono ?_
        rintro e w2 ⟨rfl, hb1⟩
        have HT2 := Lib.hid (HT.out.below hb1)
        clear hb1 HT
        by_cases hv0 : v = 0
        · have tv : (v != 0) = false := by rw [hv0]; rfl
          have HE := Lib.hid (HX.out hv0)
          clear hv0
          go_wp2_with fail
          go_roundw
          case rel => exact ⟨k + 1, by omega, by go_num, HT2.out, HE.out⟩
          case measure => simp [intOf]; omega
        · have tv : (v != 0) = true := by rw [bne_iff_ne]; exact hv0
          have HE := Lib.hid (HY.out hv0)
          clear hv0
          go_wp2_with fail
          go_ret2
          exact ⟨by rw [show x = (k : Int) from congrArg Prod.fst HE.out, show y = v from congrArg Prod.snd HE.out]; rfl, by have h9 := HVV.out _ HT2.out; first | exact h9 | (rw [hb] at h9; exact h9)⟩
      · have hkn : k = n := by omega
        have HA : Hid (∀ j, j < n → badB d j = false) := fun j hj => ha j (by omega)
        have HT := Lib.hid hT
        have HE := Lib.hid (HTO.out (by first | trivial | rfl) HN8.out HA.out)
        have CC := Lib.hid (C49.out HN8.out.2 HA.out _ h9)
        clear ha hT h9 hkn
        go_wp2_with fail
        refine CC.out.mono ?_
        rintro e w2 ⟨rfl, hb1⟩
        have HT2 := Lib.hid (HT.out.below hb1)
        clear hb1 HT
        go_wp2_with fail
        go_ret2
        exact ⟨by rw [show x = tx from congrArg Prod.fst HE.out, show y = ty from congrArg Prod.snd HE.out]; rfl, by have h9 := HVV.out _ HT2.out; first | exact h9 | (rw [hb] at h9; exact h9)⟩
end Go.Proofs.YtpmoanjeoaeabaaDoor
end

section
/- The program's function values of Check that look at pivots, at the order and at the keys. -/
set_option linter.unusedVariables false
set_option linter.unusedSimpArgs false
set_option linter.unnecessarySimpa false
set_option maxRecDepth 100000
namespace Go.Proofs.YtpmoanjeoaeabaaDoor
open Go.RowKit Go.ChangeShapes Go.WideShapes Go.ChangeAt
def boxV (d : Df) : List Value := [.string d.name, .slice d.A d.steps.length d.c]
section
variable {w0 w : World} {F : List HP} {b pb hb mb : Nat} {d : Df}
set_option maxHeartbeats 1600000 in
theorem tells39 (hD : DefAt w0 d) (hO : Old w0 ∈ F) (k : Nat) (hk : k < d.steps.length) (hn : d.steps.length ≤ 1000000) (hP : pivTo d k ≤ 1000000) (hS : Sat w0 w (Blk pb 3 [.int .i64 (pivTo d k : Nat)] :: Blk b 24 (boxV d) :: F)) :
    Calls Tryd.prog 39 #[.int .i64 k, .pointer (some ⟨b, 0, none⟩), .pointer (some ⟨pb, 0, none⟩)] w fun e w' => e = .returned (.bool (pivB d k)) ∧ Sat w0 w' (Blk pb 3 [.int .i64 (pivTo d (k + 1) : Nat)] :: Blk b 24 (boxV d) :: F) := by
  obtain ⟨g, o, hA, _, s1, _⟩ := step_at d (hD.keep (hS.old (by simp [hO]))) k hk
  rw [kind_at d k hk] at s1
  have HPS : Hid (pivTo d (k + 1) = pivTo d k + if kindAt d k = 2 then 1 else 0) := rfl
  have HPB : Hid (pivB d k = decide (1 < pivTo d (k + 1))) := rfl
  have b1 := hS.r2.blk.cell 1
  have p0 := hS.blk.cell 0
  have pf := hS.blk.free 0
  have HS := Lib.hid hS
  unfold boxV at b1
  rw [hA] at b1
  obtain ⟨n, hN⟩ : ∃ n, d.steps.length = n := ⟨_, rfl⟩
  rw [hN] at hk b1 hn
  rw [HPB.out, HPS.out]
  obtain ⟨P, hPP⟩ : ∃ x, pivTo d k = x := ⟨_, rfl⟩
  rw [hPP] at p0 hP HS HPS ⊢
  obtain ⟨kd, hkd⟩ : ∃ x, kindAt d k = x := ⟨_, rfl⟩
  rw [hkd] at s1 ⊢
  clear hS hN hPP hkd HPS HPB
  have i0 : (0 : Int) ≤ (k : Int) := by omega
  have i1 : (k : Int) < (n : Int) := by omega
  by_cases h2 : kd = 2
  · have t2 : (kd == 2) = true := by rw [beq_iff_eq]; exact h2
    rw [if_pos h2]
    have sw : IntKind.i64.wrap ((P : Int) + 1) = (P : Int) + 1 := IntWalk.i64_in _ (by omega)
    have HT := Lib.hid (HS.out.set 0 (.int .i64 ((P + 1 : Nat) : Int)))
    by_cases h1 : 1 < P + 1
    · have t1 : decide ((1 : Int) < (P : Int) + 1) = true := decide_eq_true (by omega)
      have t3 : decide (1 < P + 1) = true := decide_eq_true h1
      rw [t3]
      clear h2 h1 t3
      go_enter Tryd.func39, Tryd.ntmps39
      go_wp2_with fail
      go_ret
      exact ⟨rfl, HT.out⟩
    · have t1 : decide ((1 : Int) < (P : Int) + 1) = false := decide_eq_false (by omega)
      have t3 : decide (1 < P + 1) = false := decide_eq_false h1
      rw [t3]
      clear h2 h1 t3
      go_enter Tryd.func39, Tryd.ntmps39
      go_wp2_with fail
      go_ret
      exact ⟨rfl, HT.out⟩
  · have t2 : (kd == 2) = false := by rw [beq_eq_false_iff_ne]; exact h2
    rw [if_neg h2, Nat.add_zero]
    by_cases h1 : 1 < P
    · have t1 : decide ((1 : Int) < (P : Int)) = true := decide_eq_true (by omega)
      have t3 : decide (1 < P) = true := decide_eq_true h1
      rw [t3]
      clear h2 h1 t3
      go_enter Tryd.func39, Tryd.ntmps39
      go_wp2_with fail
      go_ret
      exact ⟨rfl, HS.out⟩
    · have t1 : decide ((1 : Int) < (P : Int)) = false := decide_eq_false (by omega)
      have t3 : decide (1 < P) = false := decide_eq_false h1
      rw [t3]
      clear h2 h1 t3
      go_enter Tryd.func39, Tryd.ntmps39
      go_wp2_with fail
      go_ret
      exact ⟨rfl, HS.out⟩
set_option maxHeartbeats 1600000 in
theorem tells42 (hD : DefAt w0 d) (hO : Old w0 ∈ F) (m : Nat) (hm : m < d.steps.length) (hn : d.steps.length ≤ 1000000) (hS : Sat w0 w (Blk b 24 (boxV d) :: F)) :
    Calls Tryd.prog 42 #[.int .i64 m, .pointer (some ⟨b, 0, none⟩)] w fun e w' => e = .returned (.bool (decide (kindAt d m ≠ 1))) ∧ Sat w0 w' (Blk b 24 (boxV d) :: F) := by
  obtain ⟨g, o, hA, _, s1, _⟩ := step_at d (hD.keep (hS.old (by simp [hO]))) m hm
  rw [kind_at d m hm] at s1
  have b1 := hS.blk.cell 1
  have HS := Lib.hid hS
  unfold boxV at b1
  rw [hA] at b1
  obtain ⟨n, hN⟩ : ∃ n, d.steps.length = n := ⟨_, rfl⟩
  rw [hN] at hm b1 hn
  obtain ⟨kd, hkd⟩ : ∃ x, kindAt d m = x := ⟨_, rfl⟩
  rw [hkd] at s1 ⊢
  clear hS hN hkd
  have i0 : (0 : Int) ≤ (m : Int) := by omega
  have i1 : (m : Int) < (n : Int) := by omega
  have t1 : (kd != 1) = decide (kd ≠ 1) := by
    by_cases h : kd = 1
    · rw [h]; rfl
    · rw [decide_eq_true h, bne_iff_ne]; exact h
  obtain ⟨v, hv⟩ : ∃ v, decide (kd ≠ 1) = v := ⟨_, rfl⟩
  rw [hv] at t1 ⊢
  clear hv
  go_enter Tryd.func42, Tryd.ntmps42
  go_wp2_with fail
  go_ret
  exact ⟨rfl, HS.out⟩
theorem any_need {l : List Int} {q : Int → Prop} [DecidablePred q] (h : ∀ m ∈ l, 0 ≤ m) : decide (∃ k, k < l.length ∧ decide (q (l.getD k 0)) = true) = decide (∃ m ∈ l, q m) := by
  apply decide_eq_decide.2
  constructor
  · rintro ⟨k, hk, hq⟩
    refine ⟨l[k], List.getElem_mem hk, ?_⟩
    rw [← List.getElem_eq_getD (h := hk)] at hq
    exact of_decide_eq_true hq
  · rintro ⟨m, hm, hq⟩
    obtain ⟨k, hk, rfl⟩ := List.getElem_of_mem hm
    exact ⟨k, hk, by rw [← List.getElem_eq_getD (h := hk)]; exact decide_eq_true hq⟩
set_option maxHeartbeats 1600000 in
theorem tells40 (hD : DefAt w0 d) (hO : Old w0 ∈ F) (hz : Small d) (k : Nat) (hk : k < d.steps.length) (hS : Sat w0 w (Blk b 24 (boxV d) :: F)) :
    Calls Tryd.prog 40 #[.int .i64 k, .pointer (some ⟨b, 0, none⟩)] w fun e w' => e = .returned (.bool (orderB d k)) ∧ Sat w0 w' (Blk b 24 (boxV d) :: F) := by
  obtain ⟨g, o, hA, _, s1, _, _, s4⟩ := step_at d (hD.keep (hS.old (by simp [hO]))) k hk
  rw [kind_at d k hk] at s1
  rw [(nA_at d k hk).1, (nA_at d k hk).2, needs_at d k hk] at s4
  have hcont := contains42 (w := w) (A := nAat d k) (needsAt d k).length (ncat d k) (fun j => (needsAt d k).getD j 0) #[.pointer (some ⟨b, 0, none⟩)] (fun j => decide (kindAt d ((needsAt d k).getD j 0).toNat ≠ 1))
    (fun w1 => Sat w0 w1 (Blk b 24 (boxV d) :: F)) hS (hz.needs k)
    (fun w1 h1 j hj => need_cell d (hD.keep (h1.old (by simp [hO]))) k hk j hj)
    (fun j w1 hj h1 => by
      obtain ⟨e1, e2⟩ := need_nat hz.need hk hj
      have h := tells42 hD hO _ e2 hz.steps h1
      rw [← e1] at h
      have e3 : ((needsAt d k).getD j 0).toNat = (needN d k).getD j 0 := by rw [e1]; rfl
      rw [e3]
      exact h)
  have e := any_need (l := needsAt d k) (q := fun m => kindAt d m.toNat ≠ 1) (fun m hm => (hz.need k hk m hm).1)
  rw [e] at hcont
  have HB : Hid (orderB d k = (decide (kindAt d k ≠ 3) && decide (∃ m ∈ needsAt d k, kindAt d m.toNat ≠ 1))) := by show _ = _; unfold orderB; rw [Bool.decide_and]
  have HC := Lib.hid hcont
  have b1 := hS.blk.cell 1
  have HS := Lib.hid hS
  unfold boxV at b1
  rw [hA] at b1
  have hn := hz.steps
  rw [HB.out]
  obtain ⟨n, hN⟩ : ∃ n, d.steps.length = n := ⟨_, rfl⟩
  rw [hN] at hk b1 hn
  obtain ⟨kd, hkd⟩ : ∃ x, kindAt d k = x := ⟨_, rfl⟩
  rw [hkd] at s1 ⊢
  obtain ⟨v, hv⟩ : ∃ v, decide (∃ m ∈ needsAt d k, kindAt d m.toNat ≠ 1) = v := ⟨_, rfl⟩
  rw [hv] at HC ⊢
  obtain ⟨l, hl⟩ : ∃ v, (needsAt d k).length = v := ⟨_, rfl⟩
  rw [hl] at s4 HC
  clear hS hN hkd hcont e hz hv hl hD HB
  have i0 : (0 : Int) ≤ (k : Int) := by omega
  have i1 : (k : Int) < (n : Int) := by omega
  by_cases h3 : kd = 3
  · have t3 : (kd != 3) = false := by rw [h3]; rfl
    rw [decide_eq_false (by simpa using h3), Bool.false_and]
    clear h3
    go_enter Tryd.func40, Tryd.ntmps40
    go_wp2_with fail
    go_ret
    exact ⟨rfl, HS.out⟩
  · have t3 : (kd != 3) = true := by rw [bne_iff_ne]; exact h3
    rw [decide_eq_true h3, Bool.true_and]
    clear h3
    go_enter Tryd.func40, Tryd.ntmps40
    go_wp2_with fail
    refine HC.out.mono ?_
    rintro e w1 ⟨rfl, h1⟩
    have H1 := Lib.hid h1
    clear h1
    go_wp2_with fail
    go_ret
    exact ⟨rfl, H1.out⟩
set_option maxHeartbeats 1600000 in
theorem tells46 {f : ByteArray → Int} {q : Nat} (s : ByteArray) (hs : s.size ≤ maxLen) (hS : Sat w0 w (MapC mb q f :: Blk hb 66 [.map (some mb)] :: F)) :
    Calls Tryd.prog 46 #[.string s, .pointer (some ⟨hb, 0, none⟩)] w fun e w' => e = .returned (.bool (decide (f s = 0))) ∧ Sat w0 w' (MapC mb q f :: Blk hb 66 [.map (some mb)] :: F) := by
  have hr := hS.mapLook hs
  have b0 := hS.r2.blk.cell 0
  have HS := Lib.hid hS
  obtain ⟨x, hx⟩ : ∃ x, f s = x := ⟨_, rfl⟩
  rw [hx] at hr ⊢
  clear hS hx
  have t1 : (x == 0) = decide (x = 0) := by
    by_cases h : x = 0
    · rw [h]; rfl
    · rw [decide_eq_false h, beq_eq_false_iff_ne]; exact h
  obtain ⟨v, hv⟩ : ∃ v, decide (x = 0) = v := ⟨_, rfl⟩
  rw [hv] at t1 ⊢
  clear hv
  go_enter Tryd.func46, Tryd.ntmps46
  go_wp2_with fail
  go_ret
  exact ⟨rfl, HS.out⟩
/-- has a step a key at which nothing stands? -/
def keyNo (d : Df) (f : ByteArray → Int) (k : Nat) : Bool := decide (∃ j, j < (keysAt d k).length ∧ decide (f (keyAt (keysAt d k) j) = 0) = true)
set_option maxHeartbeats 1600000 in
theorem tells44 {f : ByteArray → Int} {q : Nat} (hD : DefAt w0 d) (hO : Old w0 ∈ F) (hz : Small d) (hks : ∀ k j, (keyAt (keysAt d k) j).size ≤ maxLen) (k : Nat) (hk : k < d.steps.length) (hS : Sat w0 w (MapC mb q f :: Blk hb 66 [.map (some mb)] :: Blk b 24 (boxV d) :: F)) :
    Calls Tryd.prog 44 #[.int .i64 k, .pointer (some ⟨b, 0, none⟩), .pointer (some ⟨hb, 0, none⟩)] w fun e w' => e = .returned (.bool (keyNo d f k)) ∧ Sat w0 w' (MapC mb q f :: Blk hb 66 [.map (some mb)] :: Blk b 24 (boxV d) :: F) := by
  obtain ⟨g, o, hA, _, _, _, s3, _⟩ := step_at d (hD.keep (hS.old (by simp [hO]))) k hk
  rw [(kA_at d k hk).1, (kA_at d k hk).2, keys_at d k hk] at s3
  have hcont := contains46 (w := w) (A := kAat d k) (keysAt d k).length (kcat d k) (fun j => keyAt (keysAt d k) j) #[.pointer (some ⟨hb, 0, none⟩)] (fun j => decide (f (keyAt (keysAt d k) j) = 0))
    (fun w1 => Sat w0 w1 (MapC mb q f :: Blk hb 66 [.map (some mb)] :: Blk b 24 (boxV d) :: F)) hS (hz.keys k)
    (fun w1 h1 j hj => key_cell d (hD.keep (h1.old (by simp [hO]))) k hk j hj)
    (fun j w1 hj h1 => tells46 _ (hks k j) h1)
  have HB : Hid (keyNo d f k = decide (∃ j, j < (keysAt d k).length ∧ decide (f (keyAt (keysAt d k) j) = 0) = true)) := rfl
  have HC := Lib.hid hcont
  have b1 := hS.r3.blk.cell 1
  have HS := Lib.hid hS
  unfold boxV at b1
  rw [hA] at b1
  have hn := hz.steps
  rw [HB.out]
  obtain ⟨n, hN⟩ : ∃ n, d.steps.length = n := ⟨_, rfl⟩
  rw [hN] at hk b1 hn
  obtain ⟨v, hv⟩ : ∃ v, decide (∃ j, j < (keysAt d k).length ∧ decide (f (keyAt (keysAt d k) j) = 0) = true) = v := ⟨_, rfl⟩
  rw [hv] at HC ⊢
  obtain ⟨l, hl⟩ : ∃ v, (keysAt d k).length = v := ⟨_, rfl⟩
  rw [hl] at s3 HC
  clear hS hN hcont hz hv hl hD HB
  have i0 : (0 : Int) ≤ (k : Int) := by omega
  have i1 : (k : Int) < (n : Int) := by omega
  go_enter Tryd.func44, Tryd.ntmps44
  go_wp2_with fail
  refine HC.out.mono ?_
  rintro e w1 ⟨rfl, h1⟩
  have H1 := Lib.hid h1
  clear h1
  go_wp2_with fail
  go_ret
  exact ⟨rfl, H1.out⟩
end
end Go.Proofs.YtpmoanjeoaeabaaDoor
end

section
/- The program's search along the needs. -/
set_option linter.unusedVariables false
set_option linter.unusedSimpArgs false
set_option linter.unnecessarySimpa false
set_option maxRecDepth 100000
namespace Go.Proofs.YtpmoanjeoaeabaaDoor
open Go.RowKit Go.ChangeShapes Go.WideShapes Go.ChangeAt
/-- how many of the first n steps are not met -/
def zs (M : Nat → Int) : Nat → Nat
  | 0 => 0
  | k + 1 => zs M k + if M k = 0 then 1 else 0
theorem zs_le {M M' : Nat → Int} (h : ∀ x, M' x = 0 → M x = 0) : ∀ k, zs M' k ≤ zs M k
  | 0 => Nat.le_refl _
  | k + 1 => by
    have ih := zs_le h k
    unfold zs
    by_cases h1 : M' k = 0
    · rw [if_pos h1, if_pos (h k h1)]; omega
    · rw [if_neg h1]; omega
theorem zs_lt {M M' : Nat → Int} (h : ∀ x, M' x = 0 → M x = 0) {n : Nat} (h0 : M n = 0) (h1 : M' n ≠ 0) : ∀ k, n < k → zs M' k < zs M k
  | 0, hk => absurd hk (Nat.not_lt_zero _)
  | k + 1, hk => by
    have hle := zs_le h k
    show zs M' k + (if M' k = 0 then 1 else 0) < zs M k + (if M k = 0 then 1 else 0)
    by_cases e : n = k
    · subst e
      rw [if_neg h1, if_pos h0]; omega
    · have ih := zs_lt h h0 h1 k (by omega)
      by_cases h2 : M' k = 0
      · rw [if_pos h2, if_pos (h k h2)]; omega
      · rw [if_neg h2]; omega
theorem zs_top (M : Nat → Int) : ∀ k, zs M k ≤ k
  | 0 => Nat.le_refl _
  | k + 1 => by
    have ih := zs_top M k
    unfold zs
    split <;> omega
/-- how much a search adds to a count, at most -/
def grow : Nat → Nat
  | 0 => 0
  | u + 1 => 8 * (1 + grow u)
/-- the eight counts -/
def metV (M : Nat → Int) : List Value := (List.range 8).map fun x => .int .i64 (M x)
theorem met_len (M : Nat → Int) : (metV M).length = 8 := by simp [metV]
theorem met_get (M : Nat → Int) (x : Nat) (h : x < 8) : (metV M)[x]? = some (.int .i64 (M x)) := by
  unfold metV
  rw [List.getElem?_map, List.getElem?_eq_getElem (by rw [List.length_range]; exact h), List.getElem_range]
  rfl
def bump (M : Nat → Int) (n : Nat) : Nat → Int := fun x => if x = n then M x + 1 else M x
theorem met_bump (M : Nat → Int) (n : Nat) (h : n < 8) : (metV M).set n (.int .i64 (M n + 1)) = metV (bump M n) := by
  apply List.ext_getElem?
  intro i
  by_cases hi : i < 8
  · rw [met_get _ _ hi]
    unfold bump
    by_cases e : i = n
    · subst e
      rw [List.getElem?_set_self (by rw [met_len]; exact hi), if_pos rfl]
    · rw [List.getElem?_set_ne (fun g => e g.symm), met_get _ _ hi, if_neg e]
  · rw [List.getElem?_eq_none (by rw [List.length_set, met_len]; omega), List.getElem?_eq_none (by rw [met_len]; omega)]
def AlRel (W : World) (L : List HP) (mt : Nat) (N : Nat → List Nat) (n : Nat) (M : Nat → Int) (B c u : Nat) (k : Nat) (x : Value) (wr : World) : Prop :=
  ∃ (j : Nat) (M' : Nat → Int), j ≤ (N k).length ∧ x = .int .i64 j ∧ Along N M M' ((N k).take j) k ∧ (∀ x, 0 ≤ M' x ∧ M' x ≤ (B + j * c : Nat)) ∧ zs M' n ≤ u ∧ Sat W wr (Blk mt 93 (metV M') :: L)
def alV (b mt ab : Nat) : List Value := [.func (.func 71) #[] #[.pointer (some ⟨b, 0, none⟩), .pointer (some ⟨mt, 0, none⟩), .pointer (some ⟨ab, 0, none⟩)]]
/-- what the search does where at most u steps are not met -/
def AlongC (w0 : World) (F : List HP) (b mt ab : Nat) (d : Df) (u : Nat) : Prop :=
  ∀ (w : World) (k : Nat) (M : Nat → Int) (B : Nat), k < d.steps.length → zs M d.steps.length ≤ u → (∀ x, 0 ≤ M x ∧ M x ≤ (B : Nat)) → B + grow (u + 1) ≤ 1000000000 →
    Sat w0 w (Blk mt 93 (metV M) :: Blk ab 94 (alV b mt ab) :: Blk b 24 (boxV d) :: F) →
    Calls Tryd.prog 71 #[.int .i64 k, .pointer (some ⟨b, 0, none⟩), .pointer (some ⟨mt, 0, none⟩), .pointer (some ⟨ab, 0, none⟩)] w fun e w' => e = .returned (.tuple #[]) ∧ ∃ M', Along (needN d) M M' (needN d k) k ∧ (∀ x, 0 ≤ M' x ∧ M' x ≤ (B + grow (u + 1) : Nat)) ∧
      Sat w0 w' (Blk mt 93 (metV M') :: Blk ab 94 (alV b mt ab) :: Blk b 24 (boxV d) :: F)
theorem take_next {l : List Nat} {j : Nat} (h : j < l.length) : l.take (j + 1) = l.take j ++ [l.getD j 0] := by
  rw [List.take_succ_eq_append_getElem h, ← List.getElem_eq_getD (h := h)]
theorem bump_at (M : Nat → Int) (n : Nat) : bump M n n = M n + 1 := if_pos rfl
theorem bump_ge (M : Nat → Int) (n x : Nat) : M x ≤ bump M n x ∧ bump M n x ≤ M x + 1 := by
  unfold bump
  split <;> omega
set_option maxHeartbeats 6400000 in
theorem along_step {w0 : World} {F : List HP} {b mt ab : Nat} {d : Df} (hD : DefAt w0 d) (hO : Old w0 ∈ F) (hz : Small d) (h8 : d.steps.length ≤ 8) (hl : ∀ k, (needN d k).length ≤ 8) (u : Nat)
    (hr : ∀ v, u = v + 1 → AlongC w0 F b mt ab d v) : AlongC w0 F b mt ab d u := by
  intro w k M B hk hzs hM hB hS
  have HNC : Hid (∀ w', Below w0.heap.size w0 w' → ∀ j, j < (needN d k).length → ∃ b o, nAat d k = some ⟨b, o, none⟩ ∧ w'.cell? ⟨b, o + j, none⟩ = some (.int .i64 ((needN d k).getD j 0 : Nat)) ∧ (needN d k).getD j 0 < d.steps.length) := fun w' hb j hj => by
    have hj' : j < (needsAt d k).length := by rw [← needN_len]; exact hj
    obtain ⟨b, o, e, h⟩ := need_cell d (hD.keep hb) k hk j hj'
    obtain ⟨h1, h2⟩ := need_nat hz.need hk hj'
    rw [h1] at h
    exact ⟨b, o, e, h, h2⟩
  have HOL : Hid (∀ (w' : World) (A B C : HP), Sat w0 w' (A :: B :: C :: F) → Below w0.heap.size w0 w') := fun w' A B C h => h.old (by simp [hO])
  obtain ⟨g, o, hA, _, _, _, _, s4⟩ := step_at d (hD.keep (HOL.out _ _ _ _ hS)) k hk
  rw [(nA_at d k hk).1, (nA_at d k hk).2, needs_at d k hk, ← needN_len] at s4
  have b1 : w.cell? ⟨b, 1, none⟩ = some (.slice d.A d.steps.length d.c) := hS.r3.blk.cell 1
  rw [hA] at b1
  have hlk := hl k
  have HR : Hid (∀ v, u = v + 1 → ∀ (w : World) (k : Nat) (M : Nat → Int) (B : Nat), k < d.steps.length → zs M d.steps.length ≤ v → (∀ x, 0 ≤ M x ∧ M x ≤ (B : Nat)) → B + grow (v + 1) ≤ 1000000000 →
    Sat w0 w (Blk mt 93 (metV M) :: Blk ab 94 (alV b mt ab) :: Blk b 24 (boxV d) :: F) →
    Calls Tryd.prog 71 #[.int .i64 k, .pointer (some ⟨b, 0, none⟩), .pointer (some ⟨mt, 0, none⟩), .pointer (some ⟨ab, 0, none⟩)] w fun e w' => e = .returned (.tuple #[]) ∧ ∃ M', Along (needN d) M M' (needN d k) k ∧ (∀ x, 0 ≤ M' x ∧ M' x ≤ (B + grow (v + 1) : Nat)) ∧
      Sat w0 w' (Blk mt 93 (metV M') :: Blk ab 94 (alV b mt ab) :: Blk b 24 (boxV d) :: F)) := hr
  obtain ⟨L, hL⟩ : ∃ L, L = Blk ab 94 (alV b mt ab) :: Blk b 24 (boxV d) :: F := ⟨_, rfl⟩
  rw [← hL] at hS HR ⊢
  have HOP : Hid (∀ (w' : World) (A : HP), Sat w0 w' (A :: L) → Below w0.heap.size w0 w' ∧ w'.cell? ⟨ab, 0, none⟩ = some (.func (.func 71) #[] #[.pointer (some ⟨b, 0, none⟩), .pointer (some ⟨mt, 0, none⟩), .pointer (some ⟨ab, 0, none⟩)])) := fun w' A h => by
    rw [hL] at h
    exact ⟨HOL.out _ _ _ _ h, h.r2.blk.cell 0⟩
  obtain ⟨n, hN⟩ : ∃ n, d.steps.length = n := ⟨_, rfl⟩
  obtain ⟨N, hNN⟩ : ∃ N, needN d = N := ⟨_, rfl⟩
  rw [hN] at hk hzs b1 h8
  simp only [hN, hNN] at HNC HR s4 hlk ⊢
  obtain ⟨nA, hnA⟩ : ∃ N, nAat d k = N := ⟨_, rfl⟩
  obtain ⟨nc, hnc⟩ : ∃ N, ncat d k = N := ⟨_, rfl⟩
  rw [hnA] at HNC s4
  rw [hnc] at s4
  obtain ⟨c, hc⟩ : ∃ c, c = 1 + grow u := ⟨_, rfl⟩
  have hgr : grow (u + 1) = 8 * c := by rw [hc]; rfl
  rw [hgr] at hB ⊢
  have HCP : Hid (1 ≤ c) := by show 1 ≤ c; omega
  have HC : Hid (∀ v, u = v + 1 → grow (v + 1) + 1 = c) := fun v hv => by rw [hc, hv]; omega
  have HM := Lib.hid hM
  have HZ := Lib.hid hzs
  have HS := Lib.hid hS
  have H8 := Lib.hid h8
  have i0 : (0 : Int) ≤ (k : Int) := by omega
  have i1 : (k : Int) < (n : Int) := by omega
  have hl1 : (N k).length ≤ 1000000000 := by omega
  clear hD hO hz hl hr hS hL hN hNN hnA hnc hc hgr hM hzs hA HOL
  go_enter Tryd.func71, Tryd.ntmps71
  go_wp2_with fail
  go_loopw [14] (AlRel w0 L mt N n M B c u k) (fun x _ => (N k).length - (intOf x).toNat)
  case atStart => exact ⟨0, M, Nat.zero_le _, rfl, by rw [List.take_zero]; exact Along.nil N M k, by rw [Nat.zero_mul, Nat.add_zero]; exact HM.out, HZ.out, HS.out⟩
  case round =>
    obtain ⟨j, M1, hj, rfl, hal, hM1, hz1, hT⟩ := hrel
    clear HS b1 s4 HM HZ
    obtain ⟨h9, ha⟩ := HOP.out _ _ hT
    by_cases hlt : j < (N k).length
    · obtain ⟨b2, o2, hnA, c0, hx⟩ := HNC.out _ h9 j hlt
      have htn := take_next hlt
      have hjc : (j + 1) * c = j * c + c := Nat.succ_mul j c
      have hjc8 : (j + 1) * c ≤ 8 * c := Nat.mul_le_mul_right c (by omega)
      obtain ⟨x, hX⟩ : ∃ x, (N k).getD j 0 = x := ⟨_, rfl⟩
      rw [hX] at c0 hx htn
      have hx8 : x < 8 := by omega
      have m0 := hT.blk.cell x
      rw [met_get _ _ hx8] at m0
      have mf := hT.blk.free x
      have hT2 := hT.set x (.int .i64 (M1 x + 1))
      rw [met_bump _ _ hx8] at hT2
      have hmx := hM1 x
      have hlt1 : M1 x + 1 ≤ 9223372036854775807 := by omega
      have sw : IntKind.i64.wrap (M1 x + 1) = M1 x + 1 := IntWalk.i64_in _ (by omega)
      have m1 : (wr.setCell ⟨mt, x, none⟩ (.int .i64 (M1 x + 1))).cell? ⟨mt, x, none⟩ = some (.int .i64 (M1 x + 1)) := by
        rw [hT2.blk.cell x, met_get _ _ hx8, bump_at]
      have hb1 : ∀ y, 0 ≤ bump M1 x y ∧ bump M1 x y ≤ (B + j * c + 1 : Nat) := fun y => by
        have h1 := hM1 y
        have h2 := bump_ge M1 x y
        omega
      have HT2 := Lib.hid hT2
      have HB1 := Lib.hid hb1
      have HA2 := Lib.hid (HOP.out _ _ hT2).2
      have HAL := Lib.hid hal
      have HM1 := Lib.hid hM1
      have HZ1 := Lib.hid hz1
      have HTN := Lib.hid htn
      have HJC := Lib.hid hjc
      have HJ8 := Lib.hid hjc8
      have HBB := Lib.hid hB
      have HXN := Lib.hid hx
      have HX8 := Lib.hid hx8
      rw [hnA]
      have x0 : (0 : Int) ≤ (x : Int) := by omega
      have x1 : (x : Int) < 8 := by omega
      by_cases h0 : M1 x = 0
      · have t1 : (M1 x + 1 == 1) = true := by rw [beq_iff_eq]; omega
        have hzl : zs (bump M1 x) n < zs M1 n := zs_lt (fun y hy => by
          have h1 := hM1 y
          have h2 := bump_ge M1 x y
          omega) h0 (by rw [bump_at]; omega) n hx
        obtain ⟨v, hv⟩ : ∃ v, u = v + 1 := ⟨u - 1, by omega⟩
        have hcv := HC.out v hv
        have HCALL := Lib.hid (HR.out v hv _ x (bump M1 x) (B + j * c + 1) hx (by omega) hb1 (by omega) hT2)
        have HV := Lib.hid hcv
        have H0 := Lib.hid h0
        have ha2 := HA2.out
        obtain ⟨y, hy⟩ : ∃ y, M1 x = y := ⟨_, rfl⟩
        rw [hy] at m0 m1 ha2 sw t1 hlt1 HCALL
        have HY := Lib.hid hy
        have hyb : 0 ≤ y := by omega
        clear hT hT2 hal hM1 hz1 htn hjc hjc8 hX h9 ha hmx hb1 hzl hcv h0 hy hB hx hx8 hv
        go_wp2_with fail
        refine HCALL.out.mono ?_
        rintro e w2 ⟨rfl, M2, hal2, hM2, hT3⟩
        have HAL2 : Hid (Along N M M2 ((N k).take (j + 1)) k) := by
          show Along N M M2 ((N k).take (j + 1)) k
          have e0 : M1 x = 0 := H0.out
          rw [HTN.out]
          exact HAL.out.fresh e0 (by have := HAL.out.more x; omega) hal2
        have HT3 := Lib.hid hT3
        have HZ3 : Hid (zs M2 n ≤ u) := by
          show zs M2 n ≤ u
          have h1 := zs_le (M := M1) (M' := M2) (fun y hy => by
            have h2 := hal2.more y
            have h3 := (HM1.out y).1
            have h4 : M1 y ≤ M2 y := Int.le_trans (by show M1 y ≤ (if y = x then M1 y + 1 else M1 y); split <;> omega) h2
            omega) n
          have := HZ1.out
          omega
        have HM3 : Hid (∀ y, 0 ≤ M2 y ∧ M2 y ≤ (B + (j + 1) * c : Nat)) := fun y => by
          have h1 := hM2 y
          have h2 := HJC.out
          have h3 := HV.out
          rw [h2]
          omega
        clear hal2 hM2 hT3
        go_wp2_with fail
        go_roundw
        case rel => exact ⟨j + 1, M2, by omega, by go_num, HAL2.out, HM3.out, HZ3.out, HT3.out⟩
        case measure => simp [intOf]; omega
      · have t1 : (M1 x + 1 == 1) = false := by rw [beq_eq_false_iff_ne]; omega
        have hp : 0 < M1 x := by omega
        have HAL2 : Hid (Along N M (bump M1 x) ((N k).take (j + 1)) k) := by
          show Along N M (bump M1 x) ((N k).take (j + 1)) k
          rw [htn]
          exact hal.old hp
        have HZ3 : Hid (zs (bump M1 x) n ≤ u) := by
          show zs (bump M1 x) n ≤ u
          have h1 := zs_le (M := M1) (M' := bump M1 x) (fun y hy => by
            have h2 := bump_ge M1 x y
            have h3 := hM1 y
            omega) n
          omega
        have HM3 : Hid (∀ y, 0 ≤ bump M1 x y ∧ bump M1 x y ≤ (B + (j + 1) * c : Nat)) := fun y => by
          have h1 := hM1 y
          have h2 := bump_ge M1 x y
          have h3 := HCP.out
          rw [hjc]
          omega
        have ha2 := HA2.out
        obtain ⟨y, hy⟩ : ∃ y, M1 x = y := ⟨_, rfl⟩
        rw [hy] at m0 m1 ha2 sw t1 hlt1 HT2
        clear hT hT2 hal hM1 hz1 htn hjc hjc8 hX h9 ha hmx hb1 h0 hp hy hB hx hx8
        go_wp2_with fail
        go_roundw
        case rel => exact ⟨j + 1, bump M1 x, by omega, by go_num, HAL2.out, HM3.out, HZ3.out, HT2.out⟩
        case measure => simp [intOf]; omega
    · have hjl : j = (N k).length := by omega
      rw [hjl, List.take_length] at hal
      have HAL := Lib.hid hal
      have HT := Lib.hid hT
      have HM3 : Hid (∀ y, 0 ≤ M1 y ∧ M1 y ≤ (B + 8 * c : Nat)) := fun y => by
        have h1 := hM1 y
        have h2 : j * c ≤ 8 * c := Nat.mul_le_mul_right c (by omega)
        omega
      clear hal hT hM1 hz1 hjl hj h9 ha
      go_wp2_with fail
      go_end0
      exact ⟨rfl, M1, HAL.out, HM3.out, HT.out⟩
theorem along_any {w0 : World} {F : List HP} {b mt ab : Nat} {d : Df} (hD : DefAt w0 d) (hO : Old w0 ∈ F) (hz : Small d) (h8 : d.steps.length ≤ 8) (hl : ∀ k, (needN d k).length ≤ 8) :
    ∀ u, AlongC w0 F b mt ab d u
  | 0 => along_step hD hO hz h8 hl 0 fun v e => by omega
  | u + 1 => along_step hD hO hz h8 hl (u + 1) fun v e => by
    have e2 : v = u := by omega
    rw [e2]
    exact along_any hD hO hz h8 hl u
end Go.Proofs.YtpmoanjeoaeabaaDoor
end

section
/- The program's rings. -/
set_option linter.unusedVariables false
set_option linter.unusedSimpArgs false
set_option linter.unnecessarySimpa false
set_option maxRecDepth 100000
namespace Go.Proofs.YtpmoanjeoaeabaaDoor
open Go.RowKit Go.ChangeShapes Go.WideShapes Go.ChangeAt
theorem within_of {d : Df} (h : NeedIn d) : Within (needN d) d.steps.length := fun k x hx => needN_in h k x hx
theorem ringB_iff {d : Df} (h : NeedIn d) (i : Nat) : ringB d i = true ↔ Reach (needN d) i i := ring_iff (within_of h) i i
section
variable {w0 w : World} {F : List HP} {b : Nat} {d : Df}
set_option maxHeartbeats 3200000 in
theorem tells70 (hD : DefAt w0 d) (hO : Old w0 ∈ F) (hz : Small d) (h8 : d.steps.length ≤ 8) (hl : ∀ k, (needN d k).length ≤ 8) (k : Nat) (hk : k < d.steps.length) (hS : Sat w0 w (Blk b 24 (boxV d) :: F)) :
    Calls Tryd.prog 70 #[.int .i64 k, .pointer (some ⟨b, 0, none⟩)] w fun e w' => e = .returned (.bool (ringB d k)) ∧ Sat w0 w' (Blk b 24 (boxV d) :: F) := by
  have h1 := hS.new #[.int .i64 0, .int .i64 0, .int .i64 0, .int .i64 0, .int .i64 0, .int .i64 0, .int .i64 0, .int .i64 0] 93
  have e8 : (#[.int .i64 0, .int .i64 0, .int .i64 0, .int .i64 0, .int .i64 0, .int .i64 0, .int .i64 0, .int .i64 0] : Array Value).toList = metV (fun _ => 0) := rfl
  rw [e8] at h1
  have hsz : (w.alloc (.cells #[.int .i64 0, .int .i64 0, .int .i64 0, .int .i64 0, .int .i64 0, .int .i64 0, .int .i64 0, .int .i64 0] 93)).heap.size = w.heap.size + 1 := by simp
  have h3 := h1.new #[.func (.func 71) #[] #[.pointer (some ⟨b, 0, none⟩), .pointer (some ⟨w.heap.size, 0, none⟩), .pointer (some ⟨w.heap.size + 1, 0, none⟩)]] 94
  rw [hsz] at h3
  have h4 := h3.r2
  have hc := along_any (b := b) (mt := w.heap.size) (ab := w.heap.size + 1) hD hO hz h8 hl 8 _ k (fun _ => 0) 0 hk (Nat.le_trans (zs_top _ _) h8) (fun _ => ⟨Int.le_refl _, Int.le_refl _⟩) (by decide) h4
  have HC := Lib.hid hc
  have HB : Hid (∀ M' : Nat → Int, Along (needN d) (fun _ => 0) M' (needN d k) k → decide (0 < M' k) = ringB d k) := fun M' ha => by
    by_cases h : 0 < M' k
    · rw [decide_eq_true h, (ringB_iff hz.need k).2 ((ha.whole (fun _ => Int.le_refl _) k).1 h)]
    · rw [decide_eq_false h]
      cases hr : ringB d k with
      | false => rfl
      | true => exact absurd ((ha.whole (fun _ => Int.le_refl _) k).2 ((ringB_iff hz.need k).1 hr)) h
  obtain ⟨v, hv⟩ : ∃ v, ringB d k = v := ⟨_, rfl⟩
  rw [hv] at HB ⊢
  clear hv
  have hk8 : k < 8 := by omega
  have i0 : (0 : Int) ≤ (k : Int) := by omega
  have i1 : (k : Int) < 8 := by omega
  clear h1 h3 h4 hS hc hD hO hz h8 hl hk hsz e8
  go_enter Tryd.func70, Tryd.ntmps70
  go_wp2_with fail
  refine HC.out.mono ?_
  rintro e w2 ⟨rfl, M2, hal, _, hT⟩
  have m0 := hT.blk.cell k
  rw [met_get _ _ hk8] at m0
  have hv := HB.out M2 hal
  have HT := Lib.hid hT.tail.tail
  obtain ⟨y, hy⟩ : ∃ y, M2 k = y := ⟨_, rfl⟩
  rw [hy] at m0 hv
  clear hal hT hy
  go_wp2_with fail
  go_ret
  exact ⟨rfl, HT.out⟩
end
end Go.Proofs.YtpmoanjeoaeabaaDoor
end

section
/- The program's Check: what the walk needs; rings; which keys are held. -/
set_option linter.unusedVariables false
set_option linter.unusedSimpArgs false
set_option linter.unnecessarySimpa false
set_option maxRecDepth 100000
namespace Go.Proofs.YtpmoanjeoaeabaaDoor
open Go.RowKit Go.ChangeShapes Go.WideShapes Go.ChangeAt
theorem ok_len {l : List Int} {i n : Nat} (h : needsB l i n = true) : l.length ≤ n := by
  have hk := of_decide_eq_true h
  have key : ∀ j, j < l.length → (j : Int) ≤ l.getD j 0 := by
    intro j
    induction j with
    | zero => intro hj; exact (hk 0 hj).1
    | succ j ih =>
      intro hj
      have h1 := ih (by omega)
      have h2 := (hk (j + 1) hj).2.2.2 (by omega)
      rw [Nat.add_sub_cancel] at h2
      omega
  by_cases h0 : l.length = 0
  · omega
  · have h1 := key (l.length - 1) (by omega)
    have h2 := (hk (l.length - 1) (by omega)).2.1
    omega
section
variable {d : Df} {n : Nat} {p q : Nat → Bool}
theorem ret_congr (h : ∀ k, k < n → p k = q k) : retI n p = retI n q := by
  have : fstI n p = fstI n q := by
    rcases Nat.lt_or_ge (fstI n q) n with hlt | hge
    · exact fst_hit hlt (by rw [h _ hlt]; exact fst_is hlt) fun j hj => by rw [h j (by omega)]; exact fst_no hj
    · have e : fstI n q = n := by have := fst_le n q; omega
      rw [e]
      exact fst_none fun j hj => by rw [h j hj]; exact fst_no (n := n) (by omega)
  unfold retI
  rw [this]
theorem ret_fst : (0 ≤ retI n p ↔ fstI n p < n) ∧ (fstI n p < n → retI n p = fstI n p) := by
  unfold retI
  by_cases h : fstI n p < n
  · rw [if_pos h]
    exact ⟨⟨fun _ => h, fun _ => by omega⟩, fun _ => rfl⟩
  · rw [if_neg h]
    exact ⟨⟨fun g => by omega, fun g => absurd g h⟩, fun g => absurd g h⟩
theorem tog_ret : togetherN d = if 0 ≤ retI d.steps.length (pivB d) then (retI d.steps.length (pivB d), 117) else if 0 ≤ retI d.steps.length (orderB d) then (retI d.steps.length (orderB d), 118)
    else if 0 ≤ retI d.steps.length (ringB d) then (retI d.steps.length (ringB d), 119) else if 0 ≤ retI d.steps.length (looseB d) then (retI d.steps.length (looseB d), 115) else (-1, 0) := by
  unfold togetherN
  have h1 := ret_fst (n := d.steps.length) (p := pivB d)
  have h2 := ret_fst (n := d.steps.length) (p := orderB d)
  have h3 := ret_fst (n := d.steps.length) (p := ringB d)
  have h4 := ret_fst (n := d.steps.length) (p := looseB d)
  by_cases c1 : fstI d.steps.length (pivB d) < d.steps.length
  · rw [if_pos c1, if_pos (h1.1.2 c1), h1.2 c1]
  rw [if_neg c1, if_neg (fun g => c1 (h1.1.1 g))]
  by_cases c2 : fstI d.steps.length (orderB d) < d.steps.length
  · rw [if_pos c2, if_pos (h2.1.2 c2), h2.2 c2]
  rw [if_neg c2, if_neg (fun g => c2 (h2.1.1 g))]
  by_cases c3 : fstI d.steps.length (ringB d) < d.steps.length
  · rw [if_pos c3, if_pos (h3.1.2 c3), h3.2 c3]
  rw [if_neg c3, if_neg (fun g => c3 (h3.1.1 g))]
  by_cases c4 : fstI d.steps.length (looseB d) < d.steps.length
  · rw [if_pos c4, if_pos (h4.1.2 c4), h4.2 c4]
  rw [if_neg c4, if_neg (fun g => c4 (h4.1.1 g))]
theorem piv_top (d : Df) : ∀ k, pivTo d k ≤ k
  | 0 => Nat.le_refl _
  | k + 1 => by
    have ih := piv_top d k
    unfold pivTo
    split <;> omega
theorem key_mem {l : List ByteArray} {j : Nat} (h : j < l.length) : keyAt l j ∈ l := by
  unfold keyAt
  rw [← List.getElem_eq_getD (h := h)]
  exact List.getElem_mem h
/- where the map tells which keys are held, its zeros tell the loose keys -/
open Classical in
theorem keyNo_loose {f : ByteArray → Int} (h0 : ∀ s, 0 ≤ f s) (hf : ∀ s, decide (0 < f s) = heldB d s) {k : Nat} (hk : k < d.steps.length) : keyNo d f k = looseB d k := by
  have hz : ∀ s, f s = 0 ↔ heldB d s = false := fun s => by
    have h1 := h0 s
    have h2 := hf s
    constructor
    · intro h
      rw [← h2]
      exact decide_eq_false (by omega)
    · intro h
      rw [h] at h2
      have := of_decide_eq_false h2
      omega
  unfold keyNo looseB
  by_cases h3 : kindAt d k = 3
  · apply decide_eq_decide.2
    constructor
    · rintro ⟨j, hj, e⟩
      exact ⟨h3, _, key_mem hj, (hz _).1 (of_decide_eq_true e)⟩
    · rintro ⟨_, key, hm, hh⟩
      obtain ⟨j, hj, rfl⟩ := List.getElem_of_mem hm
      refine ⟨j, hj, decide_eq_true ((hz _).2 ?_)⟩
      unfold keyAt
      rwa [← List.getElem_eq_getD (h := hj)]
  · apply decide_eq_decide.2
    constructor
    · rintro ⟨j, hj, e⟩
      have h4 := (hz _).1 (of_decide_eq_true e)
      have h5 : heldB d (keyAt (keysAt d k) j) = true := decide_eq_true ⟨k, hk, h3, key_mem hj⟩
      rw [h4] at h5
      cases h5
    · rintro ⟨h, _⟩
      exact absurd h h3
end
/-- rings: a definition is boxed, and the function value comes back -/
theorem rings_any {w : World} (d : Df) : Calls Tryd.prog 43 #[d.v] w fun e w' => e = .returned (.func (.func 70) #[] #[.pointer (some ⟨w.heap.size, 0, none⟩)]) ∧ w' = w.alloc (.cells #[.string d.name, .slice d.A d.steps.length d.c] 24) := by
  unfold Df.v
  go_enter Tryd.func43, Tryd.ntmps43
  go_wp2_with fail
  go_ret
  exact ⟨rfl, rfl⟩
def HdRel (W : World) (L : List HP) (mb : Nat) (d : Df) (n : Nat) (x : Value) (wr : World) : Prop :=
  ∃ (k q : Nat) (f : ByteArray → Int), k ≤ n ∧ x = .int .i64 k ∧ q ≤ 2 * k ∧ (∀ s, 0 ≤ f s ∧ f s ≤ q) ∧ (∀ s, decide (0 < f s) = foundTo d s k) ∧ Sat W wr (MapC mb q f :: L)
def HeRel (W : World) (L : List HP) (mb : Nat) (d : Df) (k : Nat) (x : Value) (wr : World) : Prop :=
  ∃ (m q : Nat) (f : ByteArray → Int), m ≤ (keysAt d k).length ∧ x = .int .i64 m ∧ q ≤ 2 * k + m ∧ (∀ s, 0 ≤ f s ∧ f s ≤ q) ∧ (∀ s, decide (0 < f s) = foundIn d s k m) ∧ Sat W wr (MapC mb q f :: L)
theorem held_next {d : Df} {k m q : Nat} {f : ByteArray → Int} (h3 : kindAt d k ≠ 3) (hm : m < (keysAt d k).length) (h0 : ∀ s, 0 ≤ f s ∧ f s ≤ q) (hf : ∀ s, decide (0 < f s) = foundIn d s k m) :
    (∀ s, 0 ≤ (if s = keyAt (keysAt d k) m then f (keyAt (keysAt d k) m) + 1 else f s) ∧ (if s = keyAt (keysAt d k) m then f (keyAt (keysAt d k) m) + 1 else f s) ≤ (q + 1 : Nat)) ∧
    ∀ s, decide (0 < (if s = keyAt (keysAt d k) m then f (keyAt (keysAt d k) m) + 1 else f s)) = foundIn d s k (m + 1) := by
  refine ⟨fun s => ?_, fun s => ?_⟩
  · have h1 := h0 s
    have h2 := h0 (keyAt (keysAt d k) m)
    split <;> omega
  · rw [foundIn_next h3 hm, ← hf s]
    have h2 := h0 (keyAt (keysAt d k) m)
    by_cases e : s = keyAt (keysAt d k) m
    · rw [if_pos e, decide_eq_true e.symm, Bool.or_true]
      exact decide_eq_true (by omega)
    · have e2 : decide (keyAt (keysAt d k) m = s) = false := decide_eq_false fun g => e g.symm
      rw [if_neg e, e2, Bool.or_false]
end Go.Proofs.YtpmoanjeoaeabaaDoor
end
