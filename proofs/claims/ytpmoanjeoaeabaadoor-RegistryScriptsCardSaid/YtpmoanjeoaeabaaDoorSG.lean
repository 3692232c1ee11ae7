/- The document's registry: Names. -/
import Derived.Test.YtpmoanjeoaeabaaDoorSF
set_option linter.unusedVariables false
set_option linter.unusedSimpArgs false
set_option linter.unnecessarySimpa false
set_option maxRecDepth 100000
namespace Go.Proofs.YtpmoanjeoaeabaaDoor
open Go.RowKit Go.ChangeShapes Go.WideShapes Go.ChangeAt
theorem Rd.takeK {w : World} {A : Option Addr} {n k : Nat} {ys : List Value} (h : Rd w A n 1 ys) (hk : k ≤ n) : Rd w A k 1 (ys.take k) := by
  have hl := h.1
  refine ⟨by rw [List.length_take]; omega, fun j u hu => ?_⟩
  rw [List.getElem?_take] at hu
  split at hu
  · exact h.2 j u hu
  · cases hu
theorem Rd.dropK {w : World} {g n k : Nat} {ys : List Value} (h : Rd w (some ⟨g, 0, none⟩) n 1 ys) (hk : k ≤ n) : Rd w (some ⟨g, k, none⟩) (n - k) 1 (ys.drop k) := by
  have hl := h.1
  refine ⟨by rw [List.length_drop]; omega, fun j u hu => ?_⟩
  rw [List.getElem?_drop] at hu
  obtain ⟨ad, e, hc⟩ := h.2 (k + j) u hu
  injection e with e
  subst e
  refine ⟨_, rfl, ?_⟩
  have e1 : (⟨g, 0, none⟩ : Addr).add (k + j) = (⟨g, k, none⟩ : Addr).add j := by by_cases hk0 : k = 0 <;> by_cases hj0 : j = 0 <;> simp [Addr.add, hk0, hj0]
  rw [← e1]; exact hc
theorem Rd.none_ {w : World} (B : Option Addr) : Rd w B 0 1 [] := ⟨rfl, fun j u hu => by simp at hu⟩
/-- how many of those ahead are less -/
def lessK (O : List ByteArray) (nm : ByteArray) : Nat := (O.takeWhile fun x => decide (cmpN x nm < 0)).length
def insN (O : List ByteArray) (nm : ByteArray) : List ByteArray := if O[lessK O nm]? = some nm then O else O.take (lessK O nm) ++ nm :: O.drop (lessK O nm)
def namesN (l : List ByteArray) : List ByteArray := l.foldl insN []
theorem lessK_eq (nm : ByteArray) : ∀ (O : List ByteArray) (k : Nat), k ≤ O.length → (∀ j x, j < k → O[j]? = some x → cmpN x nm < 0) → (∀ x, O[k]? = some x → ¬ cmpN x nm < 0) → lessK O nm = k := by
  intro O
  induction O with
  | nil => intro k hk _ _; have : k = 0 := by simpa using hk
           subst this; rfl
  | cons a O ih =>
    intro k hk h1 h2
    unfold lessK
    rw [List.takeWhile_cons]
    cases k with
    | zero =>
      have := h2 a rfl
      rw [if_neg (by simpa using this)]
      rfl
    | succ k =>
      have := h1 0 a (by omega) rfl
      rw [if_pos (by simpa using this), List.length_cons]
      have h3 := ih k (by simpa using hk) (fun j x hj hx => h1 (j + 1) x (by omega) hx) (fun x hx => h2 x hx)
      unfold lessK at h3
      rw [h3]
theorem ins_mem {O : List ByteArray} {nm x : ByteArray} (h : x ∈ insN O nm) : x ∈ O ∨ x = nm := by
  unfold insN at h
  split at h
  · exact .inl h
  · rcases List.mem_append.1 h with h | h
    · exact .inl (List.mem_of_mem_take h)
    · rcases List.mem_cons.1 h with h | h
      · exact .inr h
      · exact .inl (List.mem_of_mem_drop h)
theorem names_mem (l : List ByteArray) : ∀ x ∈ namesN l, x ∈ l := by
  unfold namesN
  have key : ∀ (l O : List ByteArray) (x : ByteArray), x ∈ l.foldl insN O → x ∈ O ∨ x ∈ l := by
    intro l
    induction l with
    | nil => intro O x h; exact .inl h
    | cons a l ih =>
      intro O x h
      rcases ih _ x h with h | h
      · rcases ins_mem h with h | h
        · exact .inl h
        · exact .inr (h ▸ List.mem_cons_self)
      · exact .inr (List.mem_cons_of_mem _ h)
  intro x h
  rcases key l [] x h with h | h
  · cases h
  · exact h
theorem names_take (l : List ByteArray) (k : Nat) (x : ByteArray) (h : l[k]? = some x) : namesN (l.take (k + 1)) = insN (namesN (l.take k)) x := by
  obtain ⟨hk, rfl⟩ := List.getElem?_eq_some_iff.1 h
  unfold namesN
  rw [List.take_succ_eq_append_getElem hk, List.foldl_append]
  rfl
theorem strV_app (a b : List ByteArray) : strV (a ++ b) = strV a ++ strV b := by unfold strV; rw [List.map_append]
def verNames (R : List Ver) : List ByteArray := R.map fun r => r.d.name
def DNmRel (w0 : World) (L : List HP) (l : List ByteArray) (out i : Value) (wr : World) : Prop :=
  ∃ (k m : Nat) (A2 : Option Addr) (c2 : Nat), k ≤ l.length ∧ i = .int .i64 k ∧ out = .slice A2 m c2 ∧ (namesN (l.take k)).length = m ∧ m ≤ k ∧ (m = 0 → A2 = none ∧ c2 = 0) ∧ Sat w0 wr (Row 9 1 A2 m c2 (strV (namesN (l.take k))) :: L)
def DNmRel2 (w0 : World) (L : List HP) (O : List ByteArray) (nm : ByteArray) (i : Value) (wr : World) : Prop :=
  ∃ k : Nat, k ≤ O.length ∧ i = .int .i64 k ∧ (∀ j x, j < k → O[j]? = some x → cmpN x nm < 0) ∧ Sat w0 wr L
set_option maxHeartbeats 6400000 in
theorem docNames_any {w w0 : World} {F : List HP} {xb : Nat} {R : List Ver} (hN : ∀ r ∈ R, isN r.d.name = true) (hlen : R.length ≤ 16) (hS : Sat w0 w (DocP xb R :: F)) :
    Calls Tryd.prog 63 #[.pointer (some ⟨xb, 0, none⟩)] w fun e w' => ∃ (A2 : Option Addr) (c2 : Nat), e = .returned (.slice A2 (namesN (verNames R)).length c2) ∧ Sat w0 w' (Row 9 1 A2 (namesN (verNames R)).length c2 (strV (namesN (verNames R))) :: DocP xb R :: F) := by
  obtain ⟨A, c, Ds, hl, hk, h0⟩ := hS.docOpen
  obtain ⟨n, hn⟩ : ∃ n, R.length = n := ⟨_, rfl⟩
  obtain ⟨LL, hLL⟩ : ∃ x, x = Blk xb 85 [.slice A n c] :: Row 24 2 A n c (defsC Ds) :: sep (Ds.map OwnP) :: F := ⟨_, rfl⟩
  have HLL := Lib.hid hLL
  have HN := Lib.hid hn
  have HNM := Lib.hid hN
  obtain ⟨l, hL⟩ : ∃ l, verNames R = l := ⟨_, rfl⟩
  have hll : l.length = n := by rw [← hL, ← hn]; simp [verNames]
  have HGET : Hid (∀ (k : Nat) (r : Ver), R[k]? = some r → l[k]? = some r.d.name) := fun k r h => by rw [← hL]; simp [verNames, h]
  have HMEM : Hid (∀ x ∈ l, isN x = true) := fun x hx => by
    rw [← hL] at hx
    obtain ⟨r, hr, rfl⟩ := List.mem_map.1 hx
    exact hN r hr
  rw [hn] at h0 hl hlen
  rw [← hLL] at h0
  rw [hL]
  have HCL : Hid (∀ W L, Sat w0 W (L ++ LL) → Sat w0 W (L ++ (DocP xb R :: F))) := fun W L h => by
    have h1 := h.swapA
    rw [HLL.out, ← HN.out] at h1
    exact (Sat.docClose (by rw [HN.out]; exact hl) hk h1).swapA (L := DocP xb R :: F)
  obtain ⟨i9, hi9, hz9, hs9, hb9⟩ := info_parts infoS
  have HI9 := Lib.hid hi9
  have H1 := Lib.hid (h0.nilRow 9 1)
  have HK := Lib.hid hk
  clear hS h0 hLL hn hN hL hk hi9
  go_enter Tryd.func63, Tryd.ntmps63
  go_wp2_with fail
  go_loopw [3, 4] (DNmRel w0 LL l) (fun _ i _ => n - (intOf i).toNat)
  case atStart => exact ⟨0, 0, none, 0, Nat.zero_le _, rfl, rfl, rfl, Nat.le_refl _, fun _ => ⟨rfl, rfl⟩, H1.out⟩
  case round =>
    obtain ⟨k, m, A2, c2, hkn, rfl, rfl, hml, hmk, hm0, hS⟩ := hrel
    rw [hll] at hkn
    clear H1
    have hS5 := hS
    rw [HLL.out] at hS5
    have x0 := hS5.r2.blk.cell 0
    by_cases hlt : k < n
    · obtain ⟨r, hr⟩ : ∃ r, R[k]? = some r := ⟨_, List.getElem?_eq_getElem (by rw [HN.out]; exact hlt)⟩
      obtain ⟨D, hD⟩ : ∃ D, Ds[k]? = some D := ⟨_, List.getElem?_eq_getElem (by omega)⟩
      have hnm := (HK.out k D r hD hr).name
      have hlk := HGET.out k r hr
      rw [← hnm] at hlk
      have hDN : isN D.name = true := HMEM.out _ (List.mem_of_getElem? hlk)
      have HNX := Lib.hid (names_take l k D.name hlk)
      obtain ⟨O, hO⟩ : ∃ O, namesN (l.take k) = O := ⟨_, rfl⟩
      have hON : ∀ x ∈ O, isN x = true := fun x hx => HMEM.out x (List.mem_of_mem_take (names_mem (l.take k) x (hO ▸ hx)))
      have g0 := defsC_get Ds k 0 D hD (by decide)
      rw [Nat.add_zero] at g0
      obtain ⟨g, hA, _, _⟩ := hS5.r3.rowCell (by intro e; rw [e] at g0; simp [defC] at g0)
      subst hA
      rw [hO] at HNX hml hS hS5
      obtain ⟨nm, hnmE⟩ : ∃ x, D.name = x := ⟨_, rfl⟩
      rw [hnmE] at HNX hDN
      have g0' : (defsC Ds)[k * 2]? = some (.string nm) := by rw [← hnmE]; exact g0
      have hsz : ∀ x, isN x = true → x.size ≤ 4194304 := fun x hx => by have := is_short hx; omega
      have HC91 : Hid (∀ x W, x ∈ O → Calls Tryd.prog 91 #[.string x, .string nm] W fun e w' => e = .returned (.int .i64 (cmpN x nm)) ∧ Below W.heap.size W w') := fun x W hx => rcompare_any x nm W (hsz x (hON x hx)) (hsz nm hDN)
      have CELL : Hid (∀ W, Sat w0 W (Row 9 1 A2 m c2 (strV O) :: LL) → W.cell? ⟨xb, 0, none⟩ = some (.slice (some ⟨g, 0, none⟩) n c) ∧ W.cell? ⟨g, k * 2, none⟩ = some (.string nm)) := fun W h => by
        rw [HLL.out] at h
        exact ⟨h.r2.blk.cell 0, (h.r3.rowAt (j := k * 2) g0').1⟩
      have HML := Lib.hid hml
      have HM0 := Lib.hid hm0
      have HS := Lib.hid hS
      obtain ⟨LM, hLM⟩ : ∃ x, x = Row 9 1 A2 m c2 (strV O) :: LL := ⟨_, rfl⟩
      have HLM := Lib.hid hLM
      have H2 : Hid (Sat w0 wr LM) := by rw [hLM]; exact hS
      clear hS hS5 hr hD hnm hlk hDN hO hON g0 g0' hsz hml hm0 hLM hnmE
      go_wp2_with fail
      go_loopw [5] (DNmRel2 w0 LM O nm) (fun i _ => m - (intOf i).toNat)
      case atStart => exact ⟨0, Nat.zero_le _, rfl, fun j x hj => absurd hj (Nat.not_lt_zero _), H2.out⟩
      case round =>
        obtain ⟨q, hq, rfl, hless, hT⟩ := hrel
        rw [HML.out] at hq
        clear H2 x0 HS
        rw [HLM.out] at hT
        obtain ⟨x0, x1⟩ := CELL.out wr hT
        by_cases hqm : q < m
        · obtain ⟨z, hz⟩ : ∃ z, O[q]? = some z := ⟨_, List.getElem?_eq_getElem (by rw [HML.out]; exact hqm)⟩
          have hzv : (strV O)[q]? = some (.string z) := by unfold strV; rw [List.getElem?_map, hz]; rfl
          obtain ⟨ag, hag, _, _⟩ := hT.rowCell (by intro e; rw [e] at hzv; simp at hzv)
          subst hag
          have y0 := (hT.rowAt (j := q) hzv).1
          have HC := Lib.hid (HC91.out z wr.drew (List.mem_of_getElem? hz))
          have t1 : decide ((q : Int) < (m : Int)) = true := decide_eq_true (by omega)
          have HT2 := Lib.hid hT
          have HZ := Lib.hid hz
          have HLS := Lib.hid hless
          obtain ⟨cv, hcv⟩ : ∃ v, cmpN z nm = v := ⟨_, rfl⟩
          rw [hcv] at HC
          have HCV := Lib.hid hcv
          clear hT hz hzv hless hcv
          have HZV : Hid ((strV O)[q]? = some (.string z)) := by unfold strV; rw [List.getElem?_map, HZ.out]; rfl
          by_cases hc : cv < 0
          · have t2 : decide (cv < 0) = true := decide_eq_true hc
            have HLS2 : Hid (∀ j x, j < q + 1 → O[j]? = some x → cmpN x nm < 0) := fun j x hj hx => by
              by_cases hjq : j < q
              · exact HLS.out j x hjq hx
              · obtain rfl : j = q := by omega
                obtain rfl : z = x := by rw [HZ.out] at hx; injection hx
                rw [HCV.out]; exact hc
            clear hc
            go_wp2_with fail
            go_region_held3 (fun w' => w'.cell? ⟨ag, q, none⟩ = some (.string z) ∧ w'.cell? ⟨xb, 0, none⟩ = some (.slice (some ⟨g, 0, none⟩) n c) ∧ w'.cell? ⟨g, k * 2, none⟩ = some (.string nm))
              (first | exact ⟨y0, x0, x1⟩ | exact ⟨v0, v1, v2⟩)
              (first
                | (go_at_call 91; refine HC.out.mono ?_; rintro e w5 ⟨rfl, h5⟩; have H5 := Lib.hid (HT2.out.drew.below h5); obtain ⟨v1, v2⟩ := CELL.out w5 H5.out; have v0 := (H5.out.rowAt (j := q) HZV.out).1))
            all_goals
              clear y0 x0 x1 v0 v1 v2 h5 HT2 HC
              go_wp2_with fail
              go_roundw
              case rel => exact ⟨q + 1, by rw [HML.out]; omega, by go_num, HLS2.out, by rw [HLM.out]; exact H5.out⟩
              case measure => simp [intOf]; omega
          · have t2 : decide (cv < 0) = false := decide_eq_false hc
            have HLK : Hid (lessK O nm = q) := lessK_eq nm O q (by rw [HML.out]; omega) HLS.out (fun x hx => by
              obtain rfl : z = x := by rw [HZ.out] at hx; injection hx
              rw [HCV.out]; exact hc)
            clear hc
            go_wp2_with fail
            go_region_held3 (fun w' => w'.cell? ⟨ag, q, none⟩ = some (.string z) ∧ w'.cell? ⟨xb, 0, none⟩ = some (.slice (some ⟨g, 0, none⟩) n c) ∧ w'.cell? ⟨g, k * 2, none⟩ = some (.string nm))
              (first | exact ⟨y0, x0, x1⟩ | exact ⟨v0, v1, v2⟩)
              (first
                | (go_at_call 91; refine HC.out.mono ?_; rintro e w5 ⟨rfl, h5⟩; have H5 := Lib.hid (HT2.out.drew.below h5); obtain ⟨v1, v2⟩ := CELL.out w5 H5.out; have v0 := (H5.out.rowAt (j := q) HZV.out).1))
            all_goals
              obtain ⟨W6, hW6⟩ : ∃ x, x = w5 := ⟨_, rfl⟩
              rw [← hW6] at H5 v0 v1 v2 ⊢
              clear hW6 y0 x0 x1 h5 HT2 HC
              by_cases hzn : z = nm
              · have t3 : (z.toList == nm.toList) = true := str_yes hzn
                have HIN : Hid (insN O nm = O) := by
                  show _ = _
                  unfold insN
                  rw [HLK.out, HZ.out, hzn, if_pos rfl]
                have HZN := Lib.hid hzn
                clear hzn
                go_wp2_with fail
                go_quiet (fail)
                have H6 := Lib.hid (H5.out.drewN nq)
                clear v0 v1 v2 H5
                go_wp2_with fail
                go_roundw
                case rel => exact ⟨k + 1, m, _, c2, by rw [hll]; omega, by go_num, rfl, by rw [HNX.out, HIN.out]; exact HML.out, by omega, fun h => absurd h (by omega), by rw [HNX.out, HIN.out]; exact H6.out⟩
                case measure => simp [intOf]; omega
              · have t3 : (z.toList == nm.toList) = false := str_no hzn
                have HIN : Hid (insN O nm = O.take q ++ nm :: O.drop q) := by
                  show _ = _
                  unfold insN
                  rw [HLK.out, HZ.out, if_neg (by intro e; injection e with e; exact hzn e)]
                clear hzn
                go_wp2_with fail
                go_quiet (fail)
                obtain ⟨W7, hW7⟩ : ∃ x, x = W6.drewN nq := ⟨_, rfl⟩
                have H7 : Hid (Sat w0 W7 (Row 9 1 (some ⟨ag, 0, none⟩) m c2 (strV O) :: LL)) := by rw [hW7]; exact H5.out.drewN nq
                rw [← hW7]
                clear hW7 H5 HC91
                have HR1 : Hid (Rd W7 (some ⟨ag, 0, none⟩) q 1 ((strV O).take q)) := H7.out.rd.takeK (by omega)
                have HA := Lib.hid (H7.out.nilRow 9 1)
                have hb1 : 0 + q ≤ maxLen ∧ (0 + q) * 16 ≤ 140737488355328 := by unfold maxLen; omega
                have hb2 : q + 1 ≤ maxLen ∧ (q + 1) * 16 ≤ 140737488355328 := by unfold maxLen; omega
                have hb3 : q + 1 + (m - q) ≤ maxLen ∧ (q + 1 + (m - q)) * 16 ≤ 140737488355328 := by unfold maxLen; omega
                have HO1 : Hid (∀ u ∈ (strV O).take q, u.oneCell' = true) := fun u hu => strV_one O u (List.mem_of_mem_take hu)
                have HO2 : Hid (∀ u ∈ (strV O).drop q, u.oneCell' = true) := fun u hu => strV_one O u (List.mem_of_mem_drop hu)
                have HO3 : Hid (∀ u ∈ (#[.string nm] : Array Value).toList, u.oneCell' = true) := by
                  show ∀ u ∈ _, _
                  intro u hu
                  simp at hu
                  subst hu; rfl
                have hqm' : q ≤ m := by omega
                have hmc := H7.out.rowCap.1
                have hqc : ¬ q = c2 := by omega
                have hqc2 : ¬ c2 = q := by omega
                have hqc3 : ¬ c2 - q = 0 := by omega
                go_wp2_with (first
                  | (at_builtin; refine wpList_appS rfl (.tmp 57) (.tmp 60) 32 rfl 9 i9 (.string ⟨#[]⟩) 1 16 Tryd.underlying32 HI9.out hz9 hs9 hb9 rfl (by decide) rfl HA.out rfl HR1.out HO1.out hb1.1 hb1.2 ?_; intro A3 c3 W8 hS8; rw [Nat.zero_add, List.nil_append] at hS8; obtain ⟨v1, v2⟩ := CELL.out W8 hS8.tail; have HB9 := Lib.hid (hS8.new #[.string nm] 9); clear hS8)
                  | (at_builtin; refine wpList_app1 rfl (.tmp 62) (.tmp 71) 32 rfl 9 i9 (.string ⟨#[]⟩) 1 16 Tryd.underlying32 HI9.out hz9 hs9 hb9 rfl (by decide) rfl HB9.out rfl rfl HO3.out hb2.1 hb2.2 ?_; intro A4 c4 W9 hS9; have HR2 : Hid (Rd W9 (some ⟨ag, q, none⟩) (m - q) 1 ((strV O).drop q)) := hS9.r2.rd.dropK hqm'; have HS9 := Lib.hid hS9; clear hS9)
                  | (at_builtin; refine wpList_appS rfl (.tmp 73) (.tmp 76) 32 rfl 9 i9 (.string ⟨#[]⟩) 1 16 Tryd.underlying32 HI9.out hz9 hs9 hb9 rfl (by decide) rfl HS9.out rfl HR2.out HO2.out hb3.1 hb3.2 ?_; intro A5 c5 W10 hS10; have H10 := Lib.hid hS10; clear hS10))
                go_roundw
                case rel =>
                  have e1 : q + 1 + (m - q) = m + 1 := by omega
                  refine ⟨k + 1, m + 1, A5, c5, by rw [hll]; omega, by go_num, by rw [← e1], ?_, by omega, fun h => absurd h (Nat.succ_ne_zero m), ?_⟩
                  · rw [HNX.out, HIN.out, List.length_append, List.length_cons, List.length_take, List.length_drop, HML.out]
                    omega
                  · have h := H10.out.r2.tail
                    rw [HNX.out, HIN.out, ← e1]
                    have e2 : strV (O.take q ++ nm :: O.drop q) = (strV O).take q ++ [.string nm] ++ (strV O).drop q := by
                      unfold strV
                      rw [List.map_append, List.map_cons, List.map_take, List.map_drop, List.append_assoc]
                      rfl
                    rw [e2]
                    exact h
                case measure => simp [intOf]; omega
        · obtain rfl : q = m := by omega
          have t1 : decide ((q : Int) < (q : Int)) = false := decide_eq_false (by omega)
          have HLK : Hid (lessK O nm = q) := lessK_eq nm O q (by rw [HML.out]; exact Nat.le_refl _) hless (fun x hx => by rw [List.getElem?_eq_none (by rw [HML.out]; exact Nat.le_refl _)] at hx; cases hx)
          have HIN : Hid (insN O nm = O.take q ++ nm :: O.drop q) := by
            show _ = _
            unfold insN
            rw [HLK.out, List.getElem?_eq_none (by rw [HML.out]; exact Nat.le_refl _), if_neg (by intro e; cases e)]
          have HT2 := Lib.hid hT
          clear hT hless HLK
          by_cases hq0 : q = 0
          · obtain ⟨hA2, hc2⟩ := HM0.out hq0
            subst hq0 hA2 hc2
            go_wp2_with fail
            go_quiet (fail)
            obtain ⟨W6, hW6⟩ : ∃ x, x = wr.drewN nq := ⟨_, rfl⟩
            have H5 : Hid (Sat w0 W6 (Row 9 1 none 0 0 (strV O) :: LL)) := by rw [hW6]; exact HT2.out.drewN nq
            rw [← hW6]
            clear hW6 HT2
            obtain ⟨v1, v2⟩ := CELL.out W6 H5.out
            clear nq
            go_wp2_with fail
            go_quiet (fail)
            obtain ⟨W7, hW7⟩ : ∃ x, x = W6.drewN nq := ⟨_, rfl⟩
            have H7 : Hid (Sat w0 W7 (Row 9 1 none 0 0 (strV O) :: LL)) := by rw [hW7]; exact H5.out.drewN nq
            rw [← hW7]
            clear hW7 H5 HC91 v1 v2
            have HR1 : Hid (Rd W7 none 0 1 (strV O)) := H7.out.rd
            have HA := Lib.hid (H7.out.nilRow 9 1)
            have hb1 : 0 + 0 ≤ maxLen ∧ (0 + 0) * 16 ≤ 140737488355328 := by unfold maxLen; omega
            have hb2 : 0 + 1 ≤ maxLen ∧ (0 + 1) * 16 ≤ 140737488355328 := by unfold maxLen; omega
            have hb3 : 0 + 1 + 0 ≤ maxLen ∧ (0 + 1 + 0) * 16 ≤ 140737488355328 := by unfold maxLen; omega
            have HO1 := Lib.hid (strV_one O)
            have HO2 : Hid (∀ u ∈ ([] : List Value), u.oneCell' = true) := fun u hu => by cases hu
            have HO3 : Hid (∀ u ∈ (#[.string nm] : Array Value).toList, u.oneCell' = true) := by
              show ∀ u ∈ _, _
              intro u hu
              simp at hu
              subst hu; rfl
            go_wp2_with (first
              | (at_builtin; refine wpList_appS rfl (.tmp 57) (.tmp 60) 32 rfl 9 i9 (.string ⟨#[]⟩) 1 16 Tryd.underlying32 HI9.out hz9 hs9 hb9 rfl (by decide) rfl HA.out rfl HR1.out HO1.out hb1.1 hb1.2 ?_; intro A3 c3 W8 hS8; rw [Nat.zero_add, List.nil_append] at hS8; obtain ⟨v1, v2⟩ := CELL.out W8 hS8.tail; have HB9 := Lib.hid (hS8.new #[.string nm] 9); clear hS8)
              | (at_builtin; refine wpList_app1 rfl (.tmp 62) (.tmp 71) 32 rfl 9 i9 (.string ⟨#[]⟩) 1 16 Tryd.underlying32 HI9.out hz9 hs9 hb9 rfl (by decide) rfl HB9.out rfl rfl HO3.out hb2.1 hb2.2 ?_; intro A4 c4 W9 hS9; have HR2 : Hid (Rd W9 none 0 1 []) := Rd.none_ _; have HS9 := Lib.hid hS9; clear hS9)
              | (at_builtin; refine wpList_appS rfl (.tmp 73) (.tmp 76) 32 rfl 9 i9 (.string ⟨#[]⟩) 1 16 Tryd.underlying32 HI9.out hz9 hs9 hb9 rfl (by decide) rfl HS9.out rfl HR2.out HO2.out hb3.1 hb3.2 ?_; intro A5 c5 W10 hS10; have H10 := Lib.hid hS10; clear hS10))
            go_roundw
            case rel =>
              have e2 : O.drop 0 = [] := List.drop_of_length_le (by rw [HML.out]; exact Nat.le_refl _)
              have e3 : O.take 0 = O := List.take_of_length_le (by rw [HML.out]; exact Nat.le_refl _)
              refine ⟨k + 1, 0 + 1, A5, c5, by rw [hll]; omega, by go_num, by first | rfl | simp, ?_, by omega, fun h => absurd h (Nat.succ_ne_zero _), ?_⟩
              · rw [HNX.out, HIN.out, e2, e3, List.length_append, HML.out]; rfl
              · have h := H10.out.r2.tail
                rw [HNX.out, HIN.out, e2, e3]
                have e4 : strV (O ++ [nm]) = strV O ++ [.string nm] ++ [] := by
                  unfold strV
                  rw [List.map_append, List.append_nil]
                  rfl
                rw [e4]
                exact h
            case measure => simp [intOf]; omega
          · obtain ⟨ag, hag, _, _⟩ := HT2.out.rowCell (by intro e; have h := HT2.out.rowLen; rw [e] at h; simp at h; omega)
            subst hag
            have hmc := HT2.out.rowCap.1
            by_cases hqc : q = c2
            · subst hqc
              go_wp2_with fail
              go_quiet (fail)
              obtain ⟨W6, hW6⟩ : ∃ x, x = wr.drewN nq := ⟨_, rfl⟩
              have H5 : Hid (Sat w0 W6 (Row 9 1 (some ⟨ag, 0, none⟩) q q (strV O) :: LL)) := by rw [hW6]; exact HT2.out.drewN nq
              rw [← hW6]
              clear hW6 HT2
              obtain ⟨v1, v2⟩ := CELL.out W6 H5.out
              clear nq
              go_wp2_with fail
              go_quiet (fail)
              obtain ⟨W7, hW7⟩ : ∃ x, x = W6.drewN nq := ⟨_, rfl⟩
              have H7 : Hid (Sat w0 W7 (Row 9 1 (some ⟨ag, 0, none⟩) q q (strV O) :: LL)) := by rw [hW7]; exact H5.out.drewN nq
              rw [← hW7]
              clear hW7 H5 HC91 v1 v2
              have HR1 : Hid (Rd W7 (some ⟨ag, 0, none⟩) q 1 (strV O)) := H7.out.rd
              have HA := Lib.hid (H7.out.nilRow 9 1)
              have hb1 : 0 + q ≤ maxLen ∧ (0 + q) * 16 ≤ 140737488355328 := by unfold maxLen; omega
              have hb2 : q + 1 ≤ maxLen ∧ (q + 1) * 16 ≤ 140737488355328 := by unfold maxLen; omega
              have hb3 : q + 1 + 0 ≤ maxLen ∧ (q + 1 + 0) * 16 ≤ 140737488355328 := by unfold maxLen; omega
              have HO1 := Lib.hid (strV_one O)
              have HO2 : Hid (∀ u ∈ ([] : List Value), u.oneCell' = true) := fun u hu => by cases hu
              have HO3 : Hid (∀ u ∈ (#[.string nm] : Array Value).toList, u.oneCell' = true) := by
                show ∀ u ∈ _, _
                intro u hu
                simp at hu
                subst hu; rfl
              go_wp2_with (first
                | (at_builtin; refine wpList_appS rfl (.tmp 57) (.tmp 60) 32 rfl 9 i9 (.string ⟨#[]⟩) 1 16 Tryd.underlying32 HI9.out hz9 hs9 hb9 rfl (by decide) rfl HA.out rfl HR1.out HO1.out hb1.1 hb1.2 ?_; intro A3 c3 W8 hS8; rw [Nat.zero_add, List.nil_append] at hS8; obtain ⟨v1, v2⟩ := CELL.out W8 hS8.tail; have HB9 := Lib.hid (hS8.new #[.string nm] 9); clear hS8)
                | (at_builtin; refine wpList_app1 rfl (.tmp 62) (.tmp 71) 32 rfl 9 i9 (.string ⟨#[]⟩) 1 16 Tryd.underlying32 HI9.out hz9 hs9 hb9 rfl (by decide) rfl HB9.out rfl rfl HO3.out hb2.1 hb2.2 ?_; intro A4 c4 W9 hS9; have HR2 : Hid (Rd W9 (some ⟨ag, 0, none⟩) 0 1 []) := Rd.none_ _; have HS9 := Lib.hid hS9; clear hS9)
                | (at_builtin; refine wpList_appS rfl (.tmp 73) (.tmp 76) 32 rfl 9 i9 (.string ⟨#[]⟩) 1 16 Tryd.underlying32 HI9.out hz9 hs9 hb9 rfl (by decide) rfl HS9.out rfl HR2.out HO2.out hb3.1 hb3.2 ?_; intro A5 c5 W10 hS10; have H10 := Lib.hid hS10; clear hS10))
              go_roundw
              case rel =>
                have e2 : O.drop q = [] := List.drop_of_length_le (by rw [HML.out]; exact Nat.le_refl _)
                have e3 : O.take q = O := List.take_of_length_le (by rw [HML.out]; exact Nat.le_refl _)
                refine ⟨k + 1, q + 1, A5, c5, by rw [hll]; omega, by go_num, by first | rfl | simp, ?_, by omega, fun h => absurd h (Nat.succ_ne_zero _), ?_⟩
                · rw [HNX.out, HIN.out, e2, e3, List.length_append, HML.out]; rfl
                · have h := H10.out.r2.tail
                  rw [HNX.out, HIN.out, e2, e3]
                  have e4 : strV (O ++ [nm]) = strV O ++ [.string nm] ++ [] := by
                    unfold strV
                    rw [List.map_append, List.append_nil]
                    rfl
                  rw [e4]
                  exact h
              case measure => simp [intOf]; omega
            · have hqc2 : ¬ c2 = q := by omega
              have hqc3 : ¬ c2 - q = 0 := by omega
              go_wp2_with fail
              go_quiet (fail)
              obtain ⟨W6, hW6⟩ : ∃ x, x = wr.drewN nq := ⟨_, rfl⟩
              have H5 : Hid (Sat w0 W6 (Row 9 1 (some ⟨ag, 0, none⟩) q c2 (strV O) :: LL)) := by rw [hW6]; exact HT2.out.drewN nq
              rw [← hW6]
              clear hW6 HT2
              obtain ⟨v1, v2⟩ := CELL.out W6 H5.out
              clear nq
              go_wp2_with fail
              go_quiet (fail)
              obtain ⟨W7, hW7⟩ : ∃ x, x = W6.drewN nq := ⟨_, rfl⟩
              have H7 : Hid (Sat w0 W7 (Row 9 1 (some ⟨ag, 0, none⟩) q c2 (strV O) :: LL)) := by rw [hW7]; exact H5.out.drewN nq
              rw [← hW7]
              clear hW7 H5 HC91 v1 v2
              have HR1 : Hid (Rd W7 (some ⟨ag, 0, none⟩) q 1 (strV O)) := H7.out.rd
              have HA := Lib.hid (H7.out.nilRow 9 1)
              have hb1 : 0 + q ≤ maxLen ∧ (0 + q) * 16 ≤ 140737488355328 := by unfold maxLen; omega
              have hb2 : q + 1 ≤ maxLen ∧ (q + 1) * 16 ≤ 140737488355328 := by unfold maxLen; omega
              have hb3 : q + 1 + 0 ≤ maxLen ∧ (q + 1 + 0) * 16 ≤ 140737488355328 := by unfold maxLen; omega
              have HO1 := Lib.hid (strV_one O)
              have HO2 : Hid (∀ u ∈ ([] : List Value), u.oneCell' = true) := fun u hu => by cases hu
              have HO3 : Hid (∀ u ∈ (#[.string nm] : Array Value).toList, u.oneCell' = true) := by
                show ∀ u ∈ _, _
                intro u hu
                simp at hu
                subst hu; rfl
              go_wp2_with (first
                | (at_builtin; refine wpList_appS rfl (.tmp 57) (.tmp 60) 32 rfl 9 i9 (.string ⟨#[]⟩) 1 16 Tryd.underlying32 HI9.out hz9 hs9 hb9 rfl (by decide) rfl HA.out rfl HR1.out HO1.out hb1.1 hb1.2 ?_; intro A3 c3 W8 hS8; rw [Nat.zero_add, List.nil_append] at hS8; obtain ⟨v1, v2⟩ := CELL.out W8 hS8.tail; have HB9 := Lib.hid (hS8.new #[.string nm] 9); clear hS8)
                | (at_builtin; refine wpList_app1 rfl (.tmp 62) (.tmp 71) 32 rfl 9 i9 (.string ⟨#[]⟩) 1 16 Tryd.underlying32 HI9.out hz9 hs9 hb9 rfl (by decide) rfl HB9.out rfl rfl HO3.out hb2.1 hb2.2 ?_; intro A4 c4 W9 hS9; have HR2 : Hid (Rd W9 (some ⟨ag, q, none⟩) 0 1 []) := Rd.none_ _; have HS9 := Lib.hid hS9; clear hS9)
                | (at_builtin; refine wpList_appS rfl (.tmp 73) (.tmp 76) 32 rfl 9 i9 (.string ⟨#[]⟩) 1 16 Tryd.underlying32 HI9.out hz9 hs9 hb9 rfl (by decide) rfl HS9.out rfl HR2.out HO2.out hb3.1 hb3.2 ?_; intro A5 c5 W10 hS10; have H10 := Lib.hid hS10; clear hS10))
              go_roundw
              case rel =>
                have e2 : O.drop q = [] := List.drop_of_length_le (by rw [HML.out]; exact Nat.le_refl _)
                have e3 : O.take q = O := List.take_of_length_le (by rw [HML.out]; exact Nat.le_refl _)
                refine ⟨k + 1, q + 1, A5, c5, by rw [hll]; omega, by go_num, by first | rfl | simp, ?_, by omega, fun h => absurd h (Nat.succ_ne_zero _), ?_⟩
                · rw [HNX.out, HIN.out, e2, e3, List.length_append, HML.out]; rfl
                · have h := H10.out.r2.tail
                  rw [HNX.out, HIN.out, e2, e3]
                  have e4 : strV (O ++ [nm]) = strV O ++ [.string nm] ++ [] := by
                    unfold strV
                    rw [List.map_append, List.append_nil]
                    rfl
                  rw [e4]
                  exact h
              case measure => simp [intOf]; omega
    · obtain rfl : k = n := by omega
      have HS := Lib.hid hS
      have e : l.take k = l := by rw [← hll]; exact List.take_length
      rw [e] at hml hS
      have HS2 := Lib.hid hS
      clear hS hS5
      go_wp2_with fail
      go_ret
      exact ⟨A2, c2, by rw [hml]; rfl, by rw [hml]; exact HCL.out _ [_] HS2.out⟩
end Go.Proofs.YtpmoanjeoaeabaaDoor
