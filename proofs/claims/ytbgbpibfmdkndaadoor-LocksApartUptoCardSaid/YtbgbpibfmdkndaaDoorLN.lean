/- The document's Take. -/
import Derived.Test.YtbgbpibfmdkndaaDoorLM
import Derived.Deep.RegionHeld3
import Derived.BigQuiet
set_option linter.unusedVariables false
set_option linter.unusedSimpArgs false
set_option linter.unnecessarySimpa false
set_option maxRecDepth 100000
namespace Go.Proofs.YtbgbpibfmdkndaaDoor
open Go.RowKit Go.ChangeShapes Go.WideShapes Go.ChangeAt
theorem run_from51 (w : World) (A : Option Addr) (n c k : Nat) (hk : k ≤ n) (hn : n ≤ c) :
    (Instr.sliceAt 51 (.slice A n c) (some (.int .i64 k)) none none).run Tryd.prog w = .ok (.slice (if c = k then A else A.map (·.add (k * 2))) (n - k) (c - k)) w := by
  have h1 : (0 : Int) ≤ (k : Int) ∧ (k : Int) ≤ (n : Int) := by omega
  have hs : (sizeOf 56).run Tryd.prog w = .ok 2 w := by kernel_rfl
  have h2 : ¬ n < k := by omega
  simp [Instr.sliceAt, Instr.slice, Instr.sliceBounds, Instr.sliceBound, asIntOf, Sem.run_bind, run_underlying Tryd.underlying51, h1, h2, hk, hs]
theorem Rd.takeS {w : World} {A : Option Addr} {n k sz : Nat} {ys : List Value} (h : Rd w A n sz ys) (hk : k ≤ n) : Rd w A k sz (ys.take (k * sz)) := by
  have hl := h.1
  have hm : k * sz ≤ n * sz := Nat.mul_le_mul_right sz hk
  refine ⟨by rw [List.length_take]; omega, fun j u hu => ?_⟩
  rw [List.getElem?_take] at hu
  split at hu
  · exact h.2 j u hu
  · cases hu
theorem Rd.dropS {w : World} {A : Option Addr} {n c k sz : Nat} {ys : List Value} (h : Rd w A n sz ys) (hk : k ≤ n) (hc : n ≤ c) : Rd w (if c = k then A else A.map (·.add (k * sz))) (n - k) sz (ys.drop (k * sz)) := by
  have hl := h.1
  have hm : k * sz ≤ n * sz := Nat.mul_le_mul_right sz hk
  refine ⟨by rw [List.length_drop, Nat.sub_mul]; omega, fun j u hu => ?_⟩
  rw [List.getElem?_drop] at hu
  obtain ⟨ad, rfl, hcl⟩ := h.2 (k * sz + j) u hu
  by_cases hck : c = k
  · have : n = k := by omega
    subst this
    have := (List.getElem?_eq_some_iff.1 hu).1
    omega
  · rw [if_neg hck]
    refine ⟨ad.add (k * sz), rfl, ?_⟩
    have e1 : ad.add (k * sz + j) = (ad.add (k * sz)).add j := by
      obtain ⟨b, o, p⟩ := ad
      by_cases hk0 : k * sz = 0 <;> by_cases hj0 : j = 0 <;> simp [Addr.add, hk0, hj0, Nat.add_assoc]
    rw [← e1]; exact hcl
theorem Rd.dropG {w : World} {g n k sz : Nat} {ys : List Value} (h : Rd w (some ⟨g, 0, none⟩) n sz ys) (hk : k ≤ n) : Rd w (some ⟨g, k * sz, none⟩) (n - k) sz (ys.drop (k * sz)) := by
  have hl := h.1
  have hm : k * sz ≤ n * sz := Nat.mul_le_mul_right sz hk
  refine ⟨by rw [List.length_drop, Nat.sub_mul]; omega, fun j u hu => ?_⟩
  rw [List.getElem?_drop] at hu
  obtain ⟨ad, e, hc⟩ := h.2 (k * sz + j) u hu
  injection e with e
  subst e
  refine ⟨_, rfl, ?_⟩
  have e1 : (⟨g, 0, none⟩ : Addr).add (k * sz + j) = (⟨g, k * sz, none⟩ : Addr).add j := by by_cases hk0 : k * sz = 0 <;> by_cases hj0 : j = 0 <;> simp [Addr.add, hk0, hj0]
  rw [← e1]; exact hc
theorem Rd.noneS {w : World} {sz : Nat} (B : Option Addr) : Rd w B 0 sz [] := ⟨by simp, fun j u hu => by simp at hu⟩
theorem wpList_from51 {w : World} {A : Option Addr} {n c q : Nat} {ops : Array Oper} {rest : List Oper} {o : Oper} {a : Act} {Q : Exit → Act → World → Prop} (hgd : o.guard = none) (x k : Operand)
    (ho : o.op = .slice 51 x (some k) none none) (hx : a.eval x = .slice A n c) (hkv : a.eval k = .int .i64 (q : Int)) (hq : q ≤ n) (hnc : n ≤ c)
    (h : ∀ B, (∀ ys, Rd w A n 2 ys → Rd w B (n - q) 2 (ys.drop (q * 2))) → wpList Tryd.prog ops Q rest (a.put o.dst (.slice B (n - q) (c - q))) w) :
    wpList Tryd.prog ops Q (o :: rest) a w := by
  refine wpList_plain hgd fun K' hK' => ?_
  unfold Oper.wp
  have hr := run_from51 w A n c q hq hnc
  simp [execOp, ho, hx, hkv, hr, Result.andThen]
  exact hK' _ _ (h _ fun ys hy => hy.dropS hq hnc)
theorem lockC_take : ∀ (D : List Ent) (k : Nat), lockC (D.take k) = (lockC D).take (k * 2)
  | D, 0 => by simp [lockC]
  | [], k + 1 => by simp [lockC]
  | m :: D, k + 1 => by
    have ih := lockC_take D k
    rw [List.take_succ_cons, show lockC (m :: D.take k) = .string m.1 :: .int .i64 m.2 :: lockC (D.take k) from rfl, show lockC (m :: D) = .string m.1 :: .int .i64 m.2 :: lockC D from rfl, ih, show (k + 1) * 2 = k * 2 + 1 + 1 by omega, List.take_succ_cons, List.take_succ_cons]
theorem lockC_drop : ∀ (D : List Ent) (k : Nat), lockC (D.drop k) = (lockC D).drop (k * 2)
  | D, 0 => by simp
  | [], k + 1 => by simp [lockC]
  | m :: D, k + 1 => by
    have ih := lockC_drop D k
    rw [List.drop_succ_cons, ih, show lockC (m :: D) = .string m.1 :: .int .i64 m.2 :: lockC D from rfl, show (k + 1) * 2 = k * 2 + 1 + 1 by omega, List.drop_succ_cons, List.drop_succ_cons]
theorem at_eq {E : List Ent} {x : ByteArray} {p : Nat} (hp : p ≤ E.length) (h1 : ∀ j m, j < p → E[j]? = some m → cmpN m.1 x < 0) (h2 : ∀ m, E[p]? = some m → ¬ cmpN m.1 x < 0) : atE E x = p := by
  unfold atE
  refine lessK_eq x _ p (by rw [List.length_map]; exact hp) (fun j y hj hy => ?_) (fun y hy => ?_)
  · rw [List.getElem?_map] at hy
    cases hm : E[j]? with
    | none => rw [hm] at hy; cases hy
    | some m => rw [hm] at hy; injection hy with hy; subst hy; exact h1 j m hj hm
  · rw [List.getElem?_map] at hy
    cases hm : E[p]? with
    | none => rw [hm] at hy; cases hy
    | some m => rw [hm] at hy; injection hy with hy; subst hy; exact h2 m hm
section
variable {w w0 : World} {F : List HP} {xb : Nat} {D : List Ent} {A : Option Addr} {c : Nat} {keys : List ByteArray}
def RTk3 (w0 : World) (F : List HP) (xb : Nat) (D : List Ent) (inst : Int) (keys : List ByteArray) (i : Value) (wr : World) : Prop :=
  ∃ k : Nat, k ≤ keys.length ∧ i = .int .i64 k ∧ Sat w0 wr (DocT xb (takenE D inst (keys.take k)) :: F)
def RTk4 (w0 : World) (L : List HP) (E : List Ent) (x : ByteArray) (i : Value) (wr : World) : Prop :=
  ∃ k : Nat, k ≤ E.length ∧ i = .int .i64 k ∧ (∀ j m, j < k → E[j]? = some m → cmpN m.1 x < 0) ∧ Sat w0 wr L
set_option maxHeartbeats 12800000 in
theorem rtake_any (hD : TabOk D) (hlen : D.length + keys.length ≤ 4194304) (inst : Int) (hm : KeysOk keys) (hK : KeysF w0 F A keys) (hS : Sat w0 w (DocT xb D :: F)) :
    Calls Tryd.prog 11 #[.pointer (some ⟨xb, 0, none⟩), .int .i64 inst, .slice A keys.length c] w fun e w' =>
      e = .returned (.tuple #[.string (takeE D inst keys).1, .bool (takeE D inst keys).2.1]) ∧ Sat w0 w' (DocT xb (takeE D inst keys).2.2 :: F) := by
  have HS0 := Lib.hid hS
  have HK := Lib.hid hK
  have HM := Lib.hid hm
  have HD := Lib.hid hD
  have hlk := hm.len
  obtain ⟨i56, hi56, hz56, hs56, hb56⟩ := info_parts infoL
  have HI56 := Lib.hid hi56
  obtain ⟨n, hn⟩ : ∃ n, keys.length = n := ⟨_, rfl⟩
  have HN := Lib.hid hn
  rw [hn] at hlk hlen ⊢
  by_cases hi : inst < 1
  · have ha : askE inst keys = false := by unfold askE; rw [decide_eq_false (by omega)]; rfl
    rw [take_not ha]
    clear hS hn hm hK hD ha hi56
    go_enter Tryd.func11, Tryd.ntmps11
    go_wp2_with fail
    go_ret2
    exact ⟨rfl, HS0.out⟩
  · have HI : Hid (1 ≤ inst) := by show _ ≤ _; omega
    have HTN : Hid (askE inst keys = false → takeE D inst keys = (⟨#[]⟩, false, D)) := fun h => take_not h
    have HT : Hid (askE inst keys = true → (∀ k, keys.find? (othE D inst) = some k → takeE D inst keys = (k, false, D)) ∧ (keys.find? (othE D inst) = none → takeE D inst keys = (⟨#[]⟩, true, takenE D inst keys))) := by
      refine fun ha => ⟨fun k h => ?_, fun h => ?_⟩ <;> (unfold takeE; rw [ha, if_pos rfl, h])
    obtain ⟨R, hR⟩ : ∃ R, takeE D inst keys = R := ⟨_, rfl⟩
    rw [hR] at HT HTN ⊢
    clear hS hn hm hK hD hR hi56
    go_enter Tryd.func11, Tryd.ntmps11
    go_wp2_with fail
    go_loopw [8] (IxRel w0 (DocT xb D :: F) keys) (fun i _ => n - (intOf i).toNat)
    case atStart => exact ⟨0, Nat.zero_le _, rfl, HS0.out, fun j x hj => absurd hj (Nat.not_lt_zero _)⟩
    case round =>
      obtain ⟨j, hj, rfl, hS, ha⟩ := hrel
      rw [HN.out] at hj
      clear HS0
      have HS := Lib.hid hS
      have HA := Lib.hid ha
      clear ha
      by_cases hlt : j < n
      · obtain ⟨x, hx⟩ : ∃ x, keys[j]? = some x := ⟨_, List.getElem?_eq_getElem (by rw [HN.out]; exact hlt)⟩
        obtain ⟨b, o, rfl, hK⟩ := HK.out.resolve_left (by rintro rfl; simp at hx)
        have k0 := hK wr [_] hS j x hx
        have HC := Lib.hid (ris_any x wr (by have := HM.out.size x (List.mem_of_getElem? hx); omega))
        have HX := Lib.hid hx
        obtain ⟨v, hv⟩ : ∃ v, NM.isT 0 (tk x 0) = v := ⟨_, rfl⟩
        have HV : Hid (isN x = v) := hv
        rw [hv] at HC
        clear hK hx hv hS
        cases v with
        | true =>
          go_wp2_with fail
          refine HC.out.mono ?_
          rintro e w1 ⟨rfl, rfl⟩
          go_wp2_with fail
          go_roundw
          case rel =>
            refine ⟨j + 1, by rw [HN.out]; omega, by go_num, HS.out, fun i y hi hy => ?_⟩
            by_cases hij : i < j
            · exact HA.out i y hij hy
            · obtain rfl : i = j := by omega
              rw [HX.out] at hy
              injection hy with hy
              subst hy
              exact HV.out
          case measure => simp [intOf]; omega
        | false =>
          go_wp2_with fail
          refine HC.out.mono ?_
          rintro e w1 ⟨rfl, rfl⟩
          go_wp2_with fail
          go_ret2
          have h1 : keys.all isN = false := by
            rw [List.all_eq_false]
            exact ⟨x, List.mem_of_getElem? HX.out, by rw [HV.out]; simp⟩
          rw [HTN.out (by unfold askE; rw [h1, Bool.and_false])]
          exact ⟨rfl, HS.out⟩
      · obtain rfl : j = n := by omega
        have HALL : Hid (keys.all isN = true) := by
          show _ = _
          rw [List.all_eq_true]
          intro x hx
          obtain ⟨i, hi, rfl⟩ := List.getElem_of_mem hx
          exact HA.out i _ (by rw [← HN.out]; exact hi) (List.getElem?_eq_getElem hi)
        have HNM : Hid (∀ k ∈ keys, isN k = true) := List.all_eq_true.1 HALL.out
        have HT2 := Lib.hid (HT.out (by unfold askE; rw [HALL.out, Bool.and_true]; exact decide_eq_true HI.out))
        clear hS HT HTN HA HALL hlt
        go_wp2_with fail
        go_loopw [9] (TkRel w0 (DocT xb D :: F) D inst keys) (fun i _ => j - (intOf i).toNat)
        case atStart => exact ⟨0, Nat.zero_le _, rfl, HS.out, fun j x hj => absurd hj (Nat.not_lt_zero _)⟩
        case round =>
          obtain ⟨q, hq, rfl, hS, hfree⟩ := hrel
          rw [HN.out] at hq
          clear HS
          have HFR := Lib.hid hfree
          have HS := Lib.hid hS
          clear hfree
          by_cases hlt : q < j
          · obtain ⟨x, hx⟩ : ∃ x, keys[q]? = some x := ⟨_, List.getElem?_eq_getElem (by rw [HN.out]; exact hlt)⟩
            obtain ⟨b, o, rfl, hK⟩ := HK.out.resolve_left (by rintro rfl; simp at hx)
            have k0 := hK wr [_] hS q x hx
            have HC := Lib.hid (rholder_any (by omega) x hS)
            have HX := Lib.hid hx
            obtain ⟨v, hv⟩ : ∃ v, valE D x = v := ⟨_, rfl⟩
            have HV := Lib.hid hv
            rw [hv] at HC
            clear hK hx hv hS
            by_cases hvo : v = 0 ∨ v = inst
            · have HO : Hid (othE D inst x = false) := by show _ = _; unfold othE; rw [HV.out]; rcases hvo with h | h <;> simp [h]
              go_wp2_with fail
              refine HC.out.mono ?_
              rintro e w1 ⟨rfl, rfl⟩
              rcases hvo with rfl | rfl
              all_goals
                go_wp2_with fail
                go_roundw
                case rel =>
                  refine ⟨q + 1, by rw [HN.out]; omega, by go_num, HS.out, fun i y hi hy => ?_⟩
                  by_cases hij : i < q
                  · exact HFR.out i y hij hy
                  · obtain rfl : i = q := by omega
                    rw [HX.out] at hy
                    injection hy with hy
                    subst hy
                    exact HO.out
                case measure => simp [intOf]; omega
            · have hv0 : ¬ v = 0 := fun h => hvo (.inl h)
              have hvi : ¬ v = inst := fun h => hvo (.inr h)
              have HO : Hid (othE D inst x = true) := by show _ = _; unfold othE; rw [HV.out]; simp [hvi, hv0]
              have b0 : (v != 0) = true := by simp [hv0]
              have b1 : (v != inst) = true := by simp [hvi]
              clear hvo
              go_wp2_with fail
              refine HC.out.mono ?_
              rintro e w1 ⟨rfl, rfl⟩
              go_wp2_with fail
              go_ret2
              rw [HT2.out.1 _ (find_at HX.out HO.out HFR.out)]
              exact ⟨rfl, HS.out⟩
          · obtain rfl : q = j := by omega
            have HFN : Hid (keys.find? (othE D inst) = none) := find_no fun i y hi hy => HFR.out i y (by rw [← HN.out]; exact hi) hy
            have HR : Hid (R = (⟨#[]⟩, true, takenE D inst keys)) := by
              show _ = _
              exact HT2.out.2 HFN.out
            clear hlt hS HFR HT2
            go_wp2_with fail
            go_loopw [11] (RTk3 w0 F xb D inst keys) (fun i _ => q - (intOf i).toNat)
            case atStart => exact ⟨0, Nat.zero_le _, rfl, by simpa [takenE] using HS.out⟩
            case round =>
              obtain ⟨r, hr, rfl, hS⟩ := hrel
              rw [HN.out] at hr
              clear HS
              have hOk := taken_ok HI.out (keys.take r) HD.out fun y hy => HNM.out y (List.mem_of_mem_take hy)
              have hEl := taken_len (inst := inst) (keys.take r) (D := D)
              have hEr : (keys.take r).length ≤ r := by rw [List.length_take]; omega
              obtain ⟨E, hE⟩ : ∃ E, takenE D inst (keys.take r) = E := ⟨_, rfl⟩
              by_cases hlt : r < q
              · obtain ⟨x, hx⟩ : ∃ x, keys[r]? = some x := ⟨_, List.getElem?_eq_getElem (by rw [HN.out]; exact hlt)⟩
                obtain ⟨b, o, rfl, hK⟩ := HK.out.resolve_left (by rintro rfl; simp at hx)
                have k0 := hK wr [_] hS r x hx
                have HKC : Hid (∀ W L, Sat w0 W (L ++ F) → W.cell? ⟨b, o + r, none⟩ = some (.string x)) := fun W L h => hK W L h r x hx
                have HNX : Hid (takenE D inst (keys.take (r + 1)) = insE inst E x) := by show _ = _; rw [taken_succ _ _ _ _ _ hx, hE]
                rw [hE] at hS hOk hEl
                have HOK := Lib.hid hOk
                have hElen : E.length ≤ 4194304 := by omega
                have HC := Lib.hid (rholder_any hElen x hS)
                obtain ⟨v, hv⟩ : ∃ v, valE E x = v := ⟨_, rfl⟩
                have HV := Lib.hid hv
                rw [hv] at HC
                have HXN := Lib.hid (is_short (HNM.out x (List.mem_of_getElem? hx)))
                have HS := Lib.hid hS
                clear hK hx hv hS hE hOk hEl hEr HK
                by_cases hv0 : v = 0
                · have HIS : Hid (∀ p, atE E x = p → insE inst E x = E.take p ++ (x, inst) :: E.drop p) := fun p hp => by unfold insE; rw [HV.out, if_pos hv0, hp]
                  go_wp2_with fail
                  refine HC.out.mono ?_
                  rintro e w1 ⟨rfl, rfl⟩
                  obtain ⟨A0, c0, h1⟩ := HS.out.dtOpen
                  obtain ⟨m, hm⟩ : ∃ m, E.length = m := ⟨_, rfl⟩
                  have HML := Lib.hid hm
                  rw [hm] at h1 hElen
                  have H1 := Lib.hid h1
                  have CELL : Hid (∀ W L, Sat w0 W (L ++ (Blk xb 53 [.slice A0 m c0] :: Row 56 2 A0 m c0 (lockC E) :: F)) → W.cell? ⟨xb, 0, none⟩ = some (.slice A0 m c0) ∧ W.cell? ⟨b, o + r, none⟩ = some (.string x)) := fun W L h => by
                    refine ⟨?_, HKC.out W (L ++ [_, _]) (by rw [List.append_assoc]; exact h)⟩
                    have h2 : Sat w0 W (Blk xb 53 [.slice A0 m c0] :: (Row 56 2 A0 m c0 (lockC E) :: F ++ L)) := h.swapA
                    exact h2.blk.cell 0
                  clear h1 hm HS HC HV k0
                  go_wp2_with fail
                  go_loopw [12] (RTk4 w0 (Blk xb 53 [.slice A0 m c0] :: Row 56 2 A0 m c0 (lockC E) :: F) E x) (fun i _ => m - (intOf i).toNat)
                  case atStart => exact ⟨0, Nat.zero_le _, rfl, fun j x hj => absurd hj (Nat.not_lt_zero _), H1.out⟩
                  case round =>
                    obtain ⟨p, hp, rfl, hless, hT⟩ := hrel
                    rw [HML.out] at hp
                    clear H1
                    obtain ⟨x0, x1⟩ := CELL.out wr [] hT
                    by_cases hpm : p < m
                    · obtain ⟨⟨z, zi⟩, hz⟩ : ∃ z, E[p]? = some z := ⟨_, List.getElem?_eq_getElem (by rw [HML.out]; exact hpm)⟩
                      have HG := Lib.hid (lockC_get E p _ hz).1
                      obtain ⟨g, rfl, _, _⟩ := hT.r2.rowCell (by intro e; have := HG.out; rw [e] at this; simp at this)
                      have y0 := (hT.r2.rowAt HG.out).1
                      have HCm := Lib.hid (rcompare_any z x wr.drew (by have := is_short (HOK.out.name (z, zi) (List.mem_of_getElem? hz)); show z.size ≤ _; simp at this; omega) (by have := HXN.out; omega))
                      have t1 : decide ((p : Int) < (m : Int)) = true := decide_eq_true (by omega)
                      have HT2 := Lib.hid hT
                      have HZ := Lib.hid hz
                      have HLS := Lib.hid hless
                      obtain ⟨cv, hcv⟩ : ∃ v, NM.cmpT (tk z 0) (tk x 0) = v := ⟨_, rfl⟩
                      rw [hcv] at HCm
                      have HCV : Hid (cmpN z x = cv) := hcv
                      clear hT hz hless hcv
                      by_cases hc : cv < 0
                      · have t2 : decide (cv < 0) = true := decide_eq_true hc
                        have HLS2 : Hid (∀ j y, j < p + 1 → E[j]? = some y → cmpN y.1 x < 0) := fun j y hj hy => by
                          by_cases hjq : j < p
                          · exact HLS.out j y hjq hy
                          · obtain rfl : j = p := by omega
                            rw [HZ.out] at hy
                            injection hy with hy
                            subst hy
                            rw [HCV.out]; exact hc
                        clear hc
                        go_wp2_with fail
                        go_region_held3 (fun w' => w'.cell? ⟨g, p * 2, none⟩ = some (.string z) ∧ w'.cell? ⟨xb, 0, none⟩ = some (.slice (some ⟨g, 0, none⟩) m c0) ∧ w'.cell? ⟨b, o + r, none⟩ = some (.string x))
                          (first | exact ⟨y0, x0, x1⟩ | exact ⟨v0, v1, v2⟩)
                          (first
                            | (go_at_call 30; refine HCm.out.mono ?_; rintro e w5 ⟨rfl, h5⟩; have H5 := Lib.hid (HT2.out.drew.below h5); obtain ⟨v1, v2⟩ := CELL.out w5 [] H5.out; have v0 := (H5.out.r2.rowAt HG.out).1))
                        all_goals
                          clear y0 x0 x1 v0 v1 v2 h5 HT2 HCm
                          go_wp2_with fail
                          go_roundw
                          case rel => exact ⟨p + 1, by rw [HML.out]; omega, by go_num, HLS2.out, H5.out⟩
                          case measure => simp [intOf]; omega
                      · have t2 : decide (cv < 0) = false := decide_eq_false hc
                        have HIN := Lib.hid (HIS.out p (at_eq (by rw [HML.out]; omega) HLS.out (fun y hy => by
                          rw [HZ.out] at hy
                          injection hy with hy
                          subst hy
                          rw [HCV.out]; exact hc)))
                        clear hc
                        go_wp2_with fail
                        go_region_held3 (fun w' => w'.cell? ⟨g, p * 2, none⟩ = some (.string z) ∧ w'.cell? ⟨xb, 0, none⟩ = some (.slice (some ⟨g, 0, none⟩) m c0) ∧ w'.cell? ⟨b, o + r, none⟩ = some (.string x))
                          (first | exact ⟨y0, x0, x1⟩ | exact ⟨v0, v1, v2⟩)
                          (first
                            | (go_at_call 30; refine HCm.out.mono ?_; rintro e w5 ⟨rfl, h5⟩; have H5 := Lib.hid (HT2.out.drew.below h5); obtain ⟨v1, v2⟩ := CELL.out w5 [] H5.out; have v0 := (H5.out.r2.rowAt HG.out).1))
                        obtain ⟨W6, hW6⟩ : ∃ x, x = w5 := ⟨_, rfl⟩
                        rw [← hW6] at H5 v0 v1 v2 ⊢
                        have hmc := H5.out.r2.rowCap.1
                        have hqc : ¬ p = c0 := by omega
                        have hqc2 : ¬ c0 = p := by omega
                        have hqc3 : ¬ c0 - p = 0 := by omega
                        clear hW6 y0 x0 x1 h5 HT2 HCm v0 v1 v2 t1 t2
                        as_aux_lemma =>
                          obtain ⟨v1, v2⟩ := CELL.out W6 [] H5.out
                          have HR1 : Hid (Rd W6 _ p 2 ((lockC E).take (p * 2))) := H5.out.r2.rd.takeS (by omega)
                          have HA := Lib.hid (H5.out.nilRow 56 2)
                          have hb1 : 0 + p ≤ maxLen ∧ (0 + p) * 24 ≤ 140737488355328 := by unfold maxLen; omega
                          have hb2 : p + 1 ≤ maxLen ∧ (p + 1) * 24 ≤ 140737488355328 := by unfold maxLen; omega
                          have hb3 : p + 1 + (m - p) ≤ maxLen ∧ (p + 1 + (m - p)) * 24 ≤ 140737488355328 := by unfold maxLen; omega
                          have HO1 : Hid (∀ u ∈ (lockC E).take (p * 2), u.oneCell' = true) := fun u hu => lockC_one E u (List.mem_of_mem_take hu)
                          have HO2 : Hid (∀ u ∈ (lockC E).drop (p * 2), u.oneCell' = true) := fun u hu => lockC_one E u (List.mem_of_mem_drop hu)
                          have HO3 : Hid (∀ u ∈ (#[.string x, .int .i64 inst] : Array Value).toList, u.oneCell' = true) := lockC_one [(x, inst)]
                          have hpm' : p ≤ m := by omega
                          clear H5
                          go_wp2_with (first
                            | (at_builtin; refine wpList_appS rfl (.tmp 89) (.tmp 95) 51 rfl 56 i56 (.agg #[.string ⟨#[]⟩, .int .i64 0]) 2 24 Tryd.underlying51 HI56.out hz56 hs56 hb56 rfl (by decide) rfl HA.out rfl HR1.out HO1.out hb1.1 hb1.2 ?_; intro A3 c3 W8 hS8; rw [Nat.zero_add, List.nil_append] at hS8; obtain ⟨v1, v2⟩ := CELL.out W8 [_] hS8; have HB9 := Lib.hid (hS8.new #[.string x, .int .i64 inst] 56); clear hS8)
                            | (refine wpList_bs51 rfl 103 rfl (.string x) (.int .i64 inst) rfl ?_)
                            | (at_builtin; refine wpList_app1 rfl (.tmp 97) (.tmp 104) 51 rfl 56 i56 (.agg #[.string ⟨#[]⟩, .int .i64 0]) 2 24 Tryd.underlying51 HI56.out hz56 hs56 hb56 rfl (by decide) rfl HB9.out rfl rfl HO3.out hb2.1 hb2.2 ?_; intro A4 c4 W9 hS9; obtain ⟨v1, v2⟩ := CELL.out W9 [_] hS9; have HR2 : Hid (Rd W9 (some ⟨g, p * 2, none⟩) (m - p) 2 ((lockC E).drop (p * 2))) := hS9.r3.rd.dropG hpm'; have HS9 := Lib.hid hS9; clear hS9)
                            | (at_builtin; refine wpList_appS rfl (.tmp 107) (.tmp 113) 51 rfl 56 i56 (.agg #[.string ⟨#[]⟩, .int .i64 0]) 2 24 Tryd.underlying51 HI56.out hz56 hs56 hb56 rfl (by decide) rfl HS9.out rfl HR2.out HO2.out hb3.1 hb3.2 ?_; intro A5 c5 W10 hS10; obtain ⟨v1, v2⟩ := CELL.out W10 [_] hS10; have qf := hS10.r2.blk.free 0; have HX := Lib.hid ((hS10.r2.set 0 (.slice A5 (p + 1 + (m - p)) c5)).r3.tail); clear hS10))
                          go_roundw
                          case rel =>
                            refine ⟨r + 1, by rw [HN.out]; omega, by go_num, ?_⟩
                            rw [HNX.out, HIN.out]
                            refine Sat.dtClose (A := A5) (c := c5) ?_
                            have el : (E.take p ++ (x, inst) :: E.drop p).length = p + 1 + (m - p) := by rw [List.length_append, List.length_cons, List.length_take, List.length_drop, HML.out]; omega
                            have e2 : lockC (E.take p ++ (x, inst) :: E.drop p) = (lockC E).take (p * 2) ++ [.string x, .int .i64 inst] ++ (lockC E).drop (p * 2) := by
                              rw [lockC_app, lockC_take, show lockC ((x, inst) :: E.drop p) = [.string x, .int .i64 inst] ++ lockC (E.drop p) from rfl, lockC_drop, List.append_assoc]
    
                            rw [el, e2]
                            exact HX.out
                          case measure => simp [intOf]; omega
                    · obtain rfl : p = m := by omega
                      have t1 : decide ((p : Int) < (p : Int)) = false := decide_eq_false (by omega)
                      have HIN := Lib.hid (HIS.out p (at_eq (by rw [HML.out]; exact Nat.le_refl _) hless (fun y hy => by rw [List.getElem?_eq_none (by rw [HML.out]; exact Nat.le_refl _)] at hy; cases hy)))
                      have HT2 := Lib.hid hT
                      clear hT hless
                      have hmc := HT2.out.r2.rowCap.1
                      rcases hA0 : A0 with _ | a0
                      · have HCELL := Lib.hid CELL.out
                        subst hA0
                        obtain ⟨rfl, rfl, _⟩ := HT2.out.r2.rowNone
                        go_wp2_with fail
                        go_quiet (fail)
                        obtain ⟨W6, hW6⟩ : ∃ x, x = wr.drewN nq := ⟨_, rfl⟩
                        have H5 : Hid (Sat w0 W6 (Blk xb 53 [.slice (none) 0 0] :: Row 56 2 (none) 0 0 (lockC E) :: F)) := by rw [hW6]; exact HT2.out.drewN nq
                        rw [← hW6]
                        clear hW6 HT2 x0 x1 t1
                        as_aux_lemma =>
                          obtain ⟨v1, v2⟩ := CELL.out W6 [] H5.out
                          have HR1 : Hid (Rd W6 _ 0 2 ((lockC E).take (0 * 2))) := H5.out.r2.rd.takeS (by omega)
                          have HA := Lib.hid (H5.out.nilRow 56 2)
                          have hb1 : 0 + 0 ≤ maxLen ∧ (0 + 0) * 24 ≤ 140737488355328 := by unfold maxLen; omega
                          have hb2 : 0 + 1 ≤ maxLen ∧ (0 + 1) * 24 ≤ 140737488355328 := by unfold maxLen; omega
                          have hb3 : 0 + 1 + 0 ≤ maxLen ∧ (0 + 1 + 0) * 24 ≤ 140737488355328 := by unfold maxLen; omega
                          have HO1 : Hid (∀ u ∈ (lockC E).take (0 * 2), u.oneCell' = true) := fun u hu => lockC_one E u (List.mem_of_mem_take hu)
                          have HO2 : Hid (∀ u ∈ ([] : List Value), u.oneCell' = true) := fun u hu => by cases hu
                          have HO3 : Hid (∀ u ∈ (#[.string x, .int .i64 inst] : Array Value).toList, u.oneCell' = true) := lockC_one [(x, inst)]
                          have hpm' : 0 ≤ 0 := by omega
                          clear H5
                          go_wp2_with (first
                            | (at_builtin; refine wpList_appS rfl (.tmp 89) (.tmp 95) 51 rfl 56 i56 (.agg #[.string ⟨#[]⟩, .int .i64 0]) 2 24 Tryd.underlying51 HI56.out hz56 hs56 hb56 rfl (by decide) rfl HA.out rfl HR1.out HO1.out hb1.1 hb1.2 ?_; intro A3 c3 W8 hS8; rw [Nat.zero_add, List.nil_append] at hS8; obtain ⟨v1, v2⟩ := CELL.out W8 [_] hS8; have HB9 := Lib.hid (hS8.new #[.string x, .int .i64 inst] 56); clear hS8)
                            | (refine wpList_bs51 rfl 103 rfl (.string x) (.int .i64 inst) rfl ?_)
                            | (at_builtin; refine wpList_app1 rfl (.tmp 97) (.tmp 104) 51 rfl 56 i56 (.agg #[.string ⟨#[]⟩, .int .i64 0]) 2 24 Tryd.underlying51 HI56.out hz56 hs56 hb56 rfl (by decide) rfl HB9.out rfl rfl HO3.out hb2.1 hb2.2 ?_; intro A4 c4 W9 hS9; obtain ⟨v1, v2⟩ := CELL.out W9 [_] hS9; have HR2 : Hid (Rd W9 none 0 2 []) := Rd.noneS _; have HS9 := Lib.hid hS9; clear hS9)
                            | (at_builtin; refine wpList_appS rfl (.tmp 107) (.tmp 113) 51 rfl 56 i56 (.agg #[.string ⟨#[]⟩, .int .i64 0]) 2 24 Tryd.underlying51 HI56.out hz56 hs56 hb56 rfl (by decide) rfl HS9.out rfl HR2.out HO2.out hb3.1 hb3.2 ?_; intro A5 c5 W10 hS10; obtain ⟨v1, v2⟩ := CELL.out W10 [_] hS10; have qf := hS10.r2.blk.free 0; have HX := Lib.hid ((hS10.r2.set 0 (.slice A5 (0 + 1 + 0) c5)).r3.tail); clear hS10))
                          go_roundw
                          case rel =>
                            refine ⟨r + 1, by rw [HN.out]; omega, by go_num, ?_⟩
                            rw [HNX.out, HIN.out]
                            refine Sat.dtClose (A := A5) (c := c5) ?_
                            have el : (E.take 0 ++ (x, inst) :: E.drop 0).length = 0 + 1 + 0 := by rw [List.length_append, List.length_cons, List.length_take, List.length_drop, HML.out]; omega
                            have e2 : lockC (E.take 0 ++ (x, inst) :: E.drop 0) = (lockC E).take (0 * 2) ++ [.string x, .int .i64 inst] ++ ([] : List Value) := by
                              rw [lockC_app, lockC_take, show lockC ((x, inst) :: E.drop 0) = [.string x, .int .i64 inst] ++ lockC (E.drop 0) from rfl, lockC_drop, List.append_assoc]
                              rw [show (lockC E).drop (0 * 2) = [] from List.drop_of_length_le (by rw [lockC_len, HML.out]; omega)]
                            rw [el, e2]
                            exact HX.out
                          case measure => simp [intOf]; omega
                      · subst hA0
                        obtain ⟨g, cur, rfl, _⟩ := HT2.out.r2.rowBlk
                        by_cases hqc : p = c0
                        · subst hqc
                          go_wp2_with fail
                          go_quiet (fail)
                          obtain ⟨W6, hW6⟩ : ∃ x, x = wr.drewN nq := ⟨_, rfl⟩
                          have H5 : Hid (Sat w0 W6 (Blk xb 53 [.slice (some ⟨g, 0, none⟩) p p] :: Row 56 2 (some ⟨g, 0, none⟩) p p (lockC E) :: F)) := by rw [hW6]; exact HT2.out.drewN nq
                          rw [← hW6]
                          clear hW6 HT2 x0 x1 t1
                          as_aux_lemma =>
                            obtain ⟨v1, v2⟩ := CELL.out W6 [] H5.out
                            have HR1 : Hid (Rd W6 _ p 2 ((lockC E).take (p * 2))) := H5.out.r2.rd.takeS (by omega)
                            have HA := Lib.hid (H5.out.nilRow 56 2)
                            have hb1 : 0 + p ≤ maxLen ∧ (0 + p) * 24 ≤ 140737488355328 := by unfold maxLen; omega
                            have hb2 : p + 1 ≤ maxLen ∧ (p + 1) * 24 ≤ 140737488355328 := by unfold maxLen; omega
                            have hb3 : p + 1 + 0 ≤ maxLen ∧ (p + 1 + 0) * 24 ≤ 140737488355328 := by unfold maxLen; omega
                            have HO1 : Hid (∀ u ∈ (lockC E).take (p * 2), u.oneCell' = true) := fun u hu => lockC_one E u (List.mem_of_mem_take hu)
                            have HO2 : Hid (∀ u ∈ ([] : List Value), u.oneCell' = true) := fun u hu => by cases hu
                            have HO3 : Hid (∀ u ∈ (#[.string x, .int .i64 inst] : Array Value).toList, u.oneCell' = true) := lockC_one [(x, inst)]
                            have hpm' : p ≤ p := by omega
                            clear H5
                            go_wp2_with (first
                              | (at_builtin; refine wpList_appS rfl (.tmp 89) (.tmp 95) 51 rfl 56 i56 (.agg #[.string ⟨#[]⟩, .int .i64 0]) 2 24 Tryd.underlying51 HI56.out hz56 hs56 hb56 rfl (by decide) rfl HA.out rfl HR1.out HO1.out hb1.1 hb1.2 ?_; intro A3 c3 W8 hS8; rw [Nat.zero_add, List.nil_append] at hS8; obtain ⟨v1, v2⟩ := CELL.out W8 [_] hS8; have HB9 := Lib.hid (hS8.new #[.string x, .int .i64 inst] 56); clear hS8)
                              | (refine wpList_bs51 rfl 103 rfl (.string x) (.int .i64 inst) rfl ?_)
                              | (at_builtin; refine wpList_app1 rfl (.tmp 97) (.tmp 104) 51 rfl 56 i56 (.agg #[.string ⟨#[]⟩, .int .i64 0]) 2 24 Tryd.underlying51 HI56.out hz56 hs56 hb56 rfl (by decide) rfl HB9.out rfl rfl HO3.out hb2.1 hb2.2 ?_; intro A4 c4 W9 hS9; obtain ⟨v1, v2⟩ := CELL.out W9 [_] hS9; have HR2 : Hid (Rd W9 (some ⟨g, 0, none⟩) 0 2 []) := Rd.noneS _; have HS9 := Lib.hid hS9; clear hS9)
                              | (at_builtin; refine wpList_appS rfl (.tmp 107) (.tmp 113) 51 rfl 56 i56 (.agg #[.string ⟨#[]⟩, .int .i64 0]) 2 24 Tryd.underlying51 HI56.out hz56 hs56 hb56 rfl (by decide) rfl HS9.out rfl HR2.out HO2.out hb3.1 hb3.2 ?_; intro A5 c5 W10 hS10; obtain ⟨v1, v2⟩ := CELL.out W10 [_] hS10; have qf := hS10.r2.blk.free 0; have HX := Lib.hid ((hS10.r2.set 0 (.slice A5 (p + 1 + 0) c5)).r3.tail); clear hS10))
                            go_roundw
                            case rel =>
                              refine ⟨r + 1, by rw [HN.out]; omega, by go_num, ?_⟩
                              rw [HNX.out, HIN.out]
                              refine Sat.dtClose (A := A5) (c := c5) ?_
                              have el : (E.take p ++ (x, inst) :: E.drop p).length = p + 1 + 0 := by rw [List.length_append, List.length_cons, List.length_take, List.length_drop, HML.out]; omega
                              have e2 : lockC (E.take p ++ (x, inst) :: E.drop p) = (lockC E).take (p * 2) ++ [.string x, .int .i64 inst] ++ ([] : List Value) := by
                                rw [lockC_app, lockC_take, show lockC ((x, inst) :: E.drop p) = [.string x, .int .i64 inst] ++ lockC (E.drop p) from rfl, lockC_drop, List.append_assoc]
                                rw [show (lockC E).drop (p * 2) = [] from List.drop_of_length_le (by rw [lockC_len, HML.out]; omega)]
                              rw [el, e2]
                              exact HX.out
                            case measure => simp [intOf]; omega
                        · have hqc2 : ¬ c0 = p := by omega
                          have hqc3 : ¬ c0 - p = 0 := by omega
                          go_wp2_with fail
                          go_quiet (fail)
                          obtain ⟨W6, hW6⟩ : ∃ x, x = wr.drewN nq := ⟨_, rfl⟩
                          have H5 : Hid (Sat w0 W6 (Blk xb 53 [.slice (some ⟨g, 0, none⟩) p c0] :: Row 56 2 (some ⟨g, 0, none⟩) p c0 (lockC E) :: F)) := by rw [hW6]; exact HT2.out.drewN nq
                          rw [← hW6]
                          clear hW6 HT2 x0 x1 t1
                          as_aux_lemma =>
                            obtain ⟨v1, v2⟩ := CELL.out W6 [] H5.out
                            have HR1 : Hid (Rd W6 _ p 2 ((lockC E).take (p * 2))) := H5.out.r2.rd.takeS (by omega)
                            have HA := Lib.hid (H5.out.nilRow 56 2)
                            have hb1 : 0 + p ≤ maxLen ∧ (0 + p) * 24 ≤ 140737488355328 := by unfold maxLen; omega
                            have hb2 : p + 1 ≤ maxLen ∧ (p + 1) * 24 ≤ 140737488355328 := by unfold maxLen; omega
                            have hb3 : p + 1 + 0 ≤ maxLen ∧ (p + 1 + 0) * 24 ≤ 140737488355328 := by unfold maxLen; omega
                            have HO1 : Hid (∀ u ∈ (lockC E).take (p * 2), u.oneCell' = true) := fun u hu => lockC_one E u (List.mem_of_mem_take hu)
                            have HO2 : Hid (∀ u ∈ ([] : List Value), u.oneCell' = true) := fun u hu => by cases hu
                            have HO3 : Hid (∀ u ∈ (#[.string x, .int .i64 inst] : Array Value).toList, u.oneCell' = true) := lockC_one [(x, inst)]
                            have hpm' : p ≤ p := by omega
                            clear H5
                            go_wp2_with (first
                              | (at_builtin; refine wpList_appS rfl (.tmp 89) (.tmp 95) 51 rfl 56 i56 (.agg #[.string ⟨#[]⟩, .int .i64 0]) 2 24 Tryd.underlying51 HI56.out hz56 hs56 hb56 rfl (by decide) rfl HA.out rfl HR1.out HO1.out hb1.1 hb1.2 ?_; intro A3 c3 W8 hS8; rw [Nat.zero_add, List.nil_append] at hS8; obtain ⟨v1, v2⟩ := CELL.out W8 [_] hS8; have HB9 := Lib.hid (hS8.new #[.string x, .int .i64 inst] 56); clear hS8)
                              | (refine wpList_bs51 rfl 103 rfl (.string x) (.int .i64 inst) rfl ?_)
                              | (at_builtin; refine wpList_app1 rfl (.tmp 97) (.tmp 104) 51 rfl 56 i56 (.agg #[.string ⟨#[]⟩, .int .i64 0]) 2 24 Tryd.underlying51 HI56.out hz56 hs56 hb56 rfl (by decide) rfl HB9.out rfl rfl HO3.out hb2.1 hb2.2 ?_; intro A4 c4 W9 hS9; obtain ⟨v1, v2⟩ := CELL.out W9 [_] hS9; have HR2 : Hid (Rd W9 (some ⟨g, p * 2, none⟩) 0 2 []) := Rd.noneS _; have HS9 := Lib.hid hS9; clear hS9)
                              | (at_builtin; refine wpList_appS rfl (.tmp 107) (.tmp 113) 51 rfl 56 i56 (.agg #[.string ⟨#[]⟩, .int .i64 0]) 2 24 Tryd.underlying51 HI56.out hz56 hs56 hb56 rfl (by decide) rfl HS9.out rfl HR2.out HO2.out hb3.1 hb3.2 ?_; intro A5 c5 W10 hS10; obtain ⟨v1, v2⟩ := CELL.out W10 [_] hS10; have qf := hS10.r2.blk.free 0; have HX := Lib.hid ((hS10.r2.set 0 (.slice A5 (p + 1 + 0) c5)).r3.tail); clear hS10))
                            go_roundw
                            case rel =>
                              refine ⟨r + 1, by rw [HN.out]; omega, by go_num, ?_⟩
                              rw [HNX.out, HIN.out]
                              refine Sat.dtClose (A := A5) (c := c5) ?_
                              have el : (E.take p ++ (x, inst) :: E.drop p).length = p + 1 + 0 := by rw [List.length_append, List.length_cons, List.length_take, List.length_drop, HML.out]; omega
                              have e2 : lockC (E.take p ++ (x, inst) :: E.drop p) = (lockC E).take (p * 2) ++ [.string x, .int .i64 inst] ++ ([] : List Value) := by
                                rw [lockC_app, lockC_take, show lockC ((x, inst) :: E.drop p) = [.string x, .int .i64 inst] ++ lockC (E.drop p) from rfl, lockC_drop, List.append_assoc]
                                rw [show (lockC E).drop (p * 2) = [] from List.drop_of_length_le (by rw [lockC_len, HML.out]; omega)]
                              rw [el, e2]
                              exact HX.out
                            case measure => simp [intOf]; omega
                · have HIS : Hid (insE inst E x = E) := insE_other (by rw [HV.out]; exact hv0)
                  go_wp2_with fail
                  refine HC.out.mono ?_
                  rintro e w1 ⟨rfl, rfl⟩
                  go_wp2_with fail
                  go_roundw
                  case rel => exact ⟨r + 1, by rw [HN.out]; omega, by go_num, by rw [HNX.out, HIS.out]; exact HS.out⟩
                  case measure => simp [intOf]; omega
              · obtain rfl : r = q := by omega
                have e : keys.take r = keys := List.take_of_length_le (by rw [HN.out]; exact Nat.le_refl _)
                rw [e] at hS
                have HS := Lib.hid hS
                clear hS hOk hEl hEr hE hlt e
                go_wp2_with fail
                go_ret2
                rw [HR.out]
                exact ⟨rfl, HS.out⟩
end
end Go.Proofs.YtbgbpibfmdkndaaDoor
