import Derived.Test.YtpmoanjeoaeabaaDoorA6
import Derived.Deep.RegionHeld3
section
/- The program's Check. -/
set_option linter.unusedVariables false
set_option linter.unusedSimpArgs false
set_option linter.unnecessarySimpa false
set_option maxRecDepth 100000
namespace Go.Proofs.YtpmoanjeoaeabaaDoor
open Go.RowKit Go.ChangeShapes Go.WideShapes Go.ChangeAt
set_option maxHeartbeats 12800000 in
theorem check_any {w : World} (d : Df) (hD : DefAt w d) (hz : Sized d) (hT : Lib.Utf8Tabs 0 1 w) :
    Calls Tryd.prog 12 #[d.v] w (Quietly w (.tuple #[.int .i64 (checkN d).1, .int .i64 (checkN d).2])) := by
  have C36 : Hid (∀ w1, Calls Tryd.prog 36 #[.string d.name] w1 fun e w' => e = .returned (.bool (isN d.name)) ∧ Below w1.heap.size w1 w') := fun w1 => is_any _ w1 hz.name
  have C37 : Hid (∀ k w1, Below w.heap.size w w1 → k < d.steps.length → Calls Tryd.prog 37 #[d.v, .int .i64 (k : Nat)] w1 fun e w' => e = .returned (.int .i64 (aloneE d k)) ∧ Below w1.heap.size w1 w') := fun k w1 hb hk => alone_any d k (hD.keep hb) hk hz (tabs_keep hT hb)
  have HNA : Hid (isN d.name = false → checkN d = (-1, 110)) := fun h => check_name h
  have HST : Hid (isN d.name = true → (d.steps.length < 1 ∨ 8 < d.steps.length) → checkN d = (-1, 111)) := fun h h2 => check_steps h h2
  have HAL : Hid (∀ k, isN d.name = true → 1 ≤ d.steps.length ∧ d.steps.length ≤ 8 → k < d.steps.length → aloneE d k ≠ 0 → (∀ j, j < k → badB d j = false) → checkN d = ((k : Int), aloneE d k)) := fun k h h2 hk hb ha => check_alone h h2 hk (decide_eq_true hb) ha
  have HTO : Hid (isN d.name = true → 1 ≤ d.steps.length ∧ d.steps.length ≤ 8 → (∀ j, j < d.steps.length → badB d j = false) → checkN d = togetherN d) := fun h h2 ha => check_all h h2 ha
  have HBB : Hid (∀ k, aloneE d k = 0 → badB d k = false) := fun k h => decide_eq_false (by simpa using h)
  have HSM : Hid (d.steps.length ≤ 8 → (∀ j, j < d.steps.length → badB d j = false) → Small d ∧ (∀ k, (needN d k).length ≤ 8) ∧ (∀ k, (keysAt d k).length ≤ 2)) := fun h8 ha => by
    refine ⟨small_of hz h8 ha, fun k => ?_, fun k => ?_⟩
    · by_cases hk : k < d.steps.length
      · have := ok_len (bad_no (ha k hk)).2.2.2.2.2
        rw [needN_len]
        omega
      · unfold needN needsAt
        rw [List.getD_eq_getElem?_getD, List.getElem?_eq_none (by omega)]
        exact Nat.zero_le _
    · by_cases hk : k < d.steps.length
      · exact (of_decide_eq_true (bad_no (ha k hk)).2.2.2.2.1).1
      · unfold keysAt
        rw [List.getD_eq_getElem?_getD, List.getElem?_eq_none (by omega)]
        exact Nat.zero_le _
  have HKS : Hid (∀ k j, (keyAt (keysAt d k) j).size ≤ maxLen) := fun k j => by
    unfold maxLen
    by_cases hj : j < (keysAt d k).length
    · by_cases hk : k < d.steps.length
      · have hm := key_mem hj
        rw [← keys_at d k hk] at hm ⊢
        have := hz.keys _ (List.getElem_mem hk) _ hm
        omega
      · unfold keysAt at hj
        rw [List.getD_eq_getElem?_getD, List.getElem?_eq_none (by omega)] at hj
        exact absurd hj (Nat.not_lt_zero _)
    · unfold keyAt
      rw [List.getD_eq_getElem?_getD, List.getElem?_eq_none (by omega)]
      exact Nat.zero_le _
  have HD := Lib.hid hD
  have hnn := hz.steps
  obtain ⟨R, hR⟩ : ∃ R, checkN d = R := ⟨_, rfl⟩
  rw [hR] at HNA HST HAL HTO ⊢
  have h1 := (Sat.start w).new #[.string d.name, .slice d.A d.steps.length d.c] 24
  obtain ⟨b, hb⟩ : ∃ b, w.heap.size = b := ⟨_, rfl⟩
  have HBV : Hid ([.string d.name, .slice d.A d.steps.length d.c] = boxV d) := rfl
  have HVV : Hid (∀ (w' : World) (L : List HP), Sat w w' L → Old w ∈ L → Below w.heap.size w w') := fun w' L h m => h.old m
  rw [hb] at h1
  have H1 : Hid (Sat w _ [Blk b 24 (boxV d), Old w]) := h1
  have a0 := h1.blk.cell 0
  have a1 := h1.blk.cell 1
  have HDV : Hid (d.v = .agg #[.string d.name, .slice d.A d.steps.length d.c]) := rfl
  have HNL : Hid (∀ m, d.steps.length = m → m = d.steps.length) := fun m h => h.symm
  rw [HDV.out] at C37 ⊢
  unfold Quietly
  obtain ⟨n, hN⟩ : ∃ n, d.steps.length = n := ⟨_, rfl⟩
  have HNN := Lib.hid hN
  simp only [hN] at C37 HST HAL HTO HSM HBV HDV hnn a0 a1 H1 ⊢
  obtain ⟨x, y⟩ := R
  obtain ⟨iv, hiv⟩ : ∃ v, isN d.name = v := ⟨_, rfl⟩
  rw [hiv] at C36 HNA HST HAL HTO
  clear h1 hD hz hR hN hT hiv
  go_enter Tryd.func12, Tryd.ntmps12
  go_wp2_with fail
  try simp only [hb]
  refine (C36.out _).mono ?_
  rintro e w1 ⟨rfl, hb1⟩
  have H2 := Lib.hid (H1.out.below hb1)
  have a1 : w1.cell? ⟨b, 1, none⟩ = some (.slice d.A n d.c) := by rw [← HNN.out]; exact H2.out.blk.cell 1
  clear hb1 H1 a0
  cases iv with
  | false =>
    have HE := Lib.hid (HNA.out rfl)
    go_wp2_with fail
    go_ret2
    exact ⟨by rw [show x = -1 from congrArg Prod.fst HE.out, show y = 110 from congrArg Prod.snd HE.out]; rfl, by have h9 := HVV.out _ _ H2.out (by simp); first | exact h9 | (rw [hb] at h9; exact h9)⟩
  | true =>
    by_cases h0 : n = 0
    · have t0 : ((n : Int) == 0) = true := by rw [beq_iff_eq]; omega
      have HE := Lib.hid (HST.out rfl (.inl (by omega)))
      clear h0
      go_wp2_with fail
      go_ret2
      exact ⟨by rw [show x = -1 from congrArg Prod.fst HE.out, show y = 111 from congrArg Prod.snd HE.out]; rfl, by have h9 := HVV.out _ _ H2.out (by simp); first | exact h9 | (rw [hb] at h9; exact h9)⟩
    have t0 : ((n : Int) == 0) = false := by rw [beq_eq_false_iff_ne]; omega
    by_cases h8 : 8 < n
    · have t8 : decide ((8 : Int) < (n : Int)) = true := decide_eq_true (by omega)
      have HE := Lib.hid (HST.out rfl (.inr h8))
      clear h0 h8
      go_wp2_with fail
      go_ret2
      exact ⟨by rw [show x = -1 from congrArg Prod.fst HE.out, show y = 111 from congrArg Prod.snd HE.out]; rfl, by have h9 := HVV.out _ _ H2.out (by simp); first | exact h9 | (rw [hb] at h9; exact h9)⟩
    have t8 : decide ((8 : Int) < (n : Int)) = false := decide_eq_false (by omega)
    have HN8 : Hid (1 ≤ n ∧ n ≤ 8) := ⟨by omega, by omega⟩
    clear h0 h8
    go_wp2_with fail
    go_loopw [35] (TgR w b (boxV d) (badB d) n) (fun x _ => n - (intOf x).toNat)
    case atStart => exact ⟨0, Nat.zero_le _, rfl, H2.out, fun j hj => by omega⟩
    case round =>
      obtain ⟨k, hk, rfl, hT, ha⟩ := hrel
      clear H2 a1 t0 t8
      have h9 := HVV.out _ _ hT (by simp)
      have a0 : wr.cell? ⟨b, 0, none⟩ = some (.string d.name) := hT.blk.cell 0
      have a1 : wr.cell? ⟨b, 1, none⟩ = some (.slice d.A n d.c) := by rw [← HNN.out]; exact hT.blk.cell 1
      by_cases hlt : k < n
      · have CC := Lib.hid (C37.out k _ h9 hlt)
        have HA := Lib.hid ha
        have HT := Lib.hid hT
        have HY := Lib.hid (fun h => HAL.out k (by first | trivial | rfl) HN8.out hlt h HA.out)
        have HX := Lib.hid (fun h => none_next (p := badB d) (k := k) (HBB.out k h) HA.out)
        obtain ⟨v, hv⟩ : ∃ v, aloneE d k = v := ⟨_, rfl⟩
        rw [hv] at CC HY HX
        clear ha hT h9 hv
        go_wp2_with fail
        refine CC.out.mono ?_
        rintro e w2 ⟨rfl, hb1⟩
        have HT2 := Lib.hid (HT.out.below hb1)
        clear hb1 HT
        by_cases hv0 : v = 0
        · have tv : (v != 0) = false := by rw [hv0]; rfl
          have HE := Lib.hid (HX.out hv0)
          clear hv0
          go_wp2_with fail
          go_roundw
          case rel => exact ⟨k + 1, by omega, by go_num, HT2.out, HE.out⟩
          case measure => simp [intOf]; omega
        · have tv : (v != 0) = true := by rw [bne_iff_ne]; exact hv0
          have HE := Lib.hid (HY.out hv0)
          clear hv0
          go_wp2_with fail
          go_ret2
          exact ⟨by rw [show x = (k : Int) from congrArg Prod.fst HE.out, show y = v from congrArg Prod.snd HE.out]; rfl, by have h9 := HVV.out _ _ HT2.out (by simp); first | exact h9 | (rw [hb] at h9; exact h9)⟩
      · have hkn : k = n := by omega
        have HA : Hid (∀ j, j < n → badB d j = false) := fun j hj => ha j (by omega)
        have HE := Lib.hid (HTO.out (by first | trivial | rfl) HN8.out HA.out)
        obtain ⟨hsm, hnl, hkl⟩ := HSM.out HN8.out.2 HA.out
        have HSML := Lib.hid hsm
        have HNL8 := Lib.hid hnl
        have HKL := Lib.hid hkl
        rw [tog_ret, HNN.out] at HE
        have h3 := hT.new #[.int .i64 0] 3
        have h4 := h3.mapNew
        have h5 := h4.new #[.map (some (wr.alloc (.cells #[.int .i64 0] 3)).heap.size)] 66
        obtain ⟨pb, hpb⟩ : ∃ p, wr.heap.size = p := ⟨_, rfl⟩
        have s1 : (wr.alloc (.cells #[.int .i64 0] 3)).heap.size = pb + 1 := by simp [hpb]
        have s2 : ((wr.alloc (.cells #[.int .i64 0] 3)).alloc (.map #[] 0)).heap.size = pb + 2 := by simp [hpb]
        rw [s2] at h5
        rw [s1] at h5
        rw [hpb] at h5
        obtain ⟨L, hL⟩ : ∃ L, L = Blk (pb + 2) 66 [.map (some (pb + 1))] :: Blk pb 3 [.int .i64 0] :: [Blk b 24 (boxV d), Old w] := ⟨_, rfl⟩
        have h6 := h5.r2
        have H6 : Hid (Sat w (((wr.alloc (.cells #[.int .i64 0] 3)).alloc (.map #[] 0)).alloc (.cells #[.map (some (pb + 1))] 66)) (MapC (pb + 1) 0 (fun _ => 0) :: L)) := by rw [hL]; exact h6
        have HOP : Hid (∀ (w' : World) (A : HP), Sat w w' (A :: L) → Sat w w' (A :: Blk (pb + 2) 66 [.map (some (pb + 1))] :: Blk pb 3 [.int .i64 0] :: [Blk b 24 (boxV d), Old w])) := fun w' A h => by rw [hL] at h; exact h
        have HOP2 : Hid (∀ (w' : World) (A B : HP), Sat w w' (A :: B :: L) → Sat w w' (A :: B :: Blk (pb + 2) 66 [.map (some (pb + 1))] :: Blk pb 3 [.int .i64 0] :: [Blk b 24 (boxV d), Old w])) := fun w' A B h => by rw [hL] at h; exact h
        have d1 : (((wr.alloc (.cells #[.int .i64 0] 3)).alloc (.map #[] 0)).alloc (.cells #[.map (some (pb + 1))] 66)).cell? ⟨b, 1, none⟩ = some (.slice d.A n d.c) := by rw [← HNN.out]; exact h5.r4.blk.cell 1
        have hmm := @run_makeMap Tryd.prog
        clear ha hT h9 hkn hsm hnl hkl h3 h4 h5 h6 hL a0 s1 s2 hk HTO HAL HBB HSM HA
        go_wp2_with fail
        try simp only [hpb]
        go_loopw [50] (HdRel w L (pb + 1) d n) (fun x _ => n - (intOf x).toNat)
        case atStart => exact ⟨0, 0, fun _ => 0, Nat.zero_le _, rfl, Nat.le_refl _, fun _ => ⟨Int.le_refl _, Int.le_refl _⟩, fun s => by simp [foundTo], H6.out⟩
        case round =>
          obtain ⟨j, q, f, hj, rfl, hq, hf0, hff, hT⟩ := hrel
          clear H6 d1 a1
          have h9 := HVV.out _ _ (HOP.out _ _ hT) (by simp)
          by_cases hlj : j < n
          · have hlj' : j < d.steps.length := by rw [HNN.out]; exact hlj
            obtain ⟨g, o, hA, s0, s1, s2, s3, s4⟩ := step_at d (HD.out.keep h9) j hlj'
            rw [kind_at d j hlj'] at s1
            rw [(kA_at d j hlj').1, (kA_at d j hlj').2, keys_at d j hlj'] at s3
            obtain ⟨s, hs⟩ : ∃ x, d.steps[j] = x := ⟨_, rfl⟩
            rw [hs] at s0 s2 s4
            have HKC : Hid (∀ w', Below w.heap.size w w' → ∀ m, m < (keysAt d j).length → ∃ b o, kAat d j = some ⟨b, o, none⟩ ∧ w'.cell? ⟨b, o + m, none⟩ = some (.string (keyAt (keysAt d j) m))) := fun w' hb m hm => key_cell d (HD.out.keep hb) j hlj' m hm
            have hB := hT.new #[.string s.name, .int .i64 (kindAt d j), .int .i64 s.part, .slice (kAat d j) (keysAt d j).length (kcat d j), .slice s.nA s.needs.length s.nc] 35
            have HZ : Hid (∀ s, foundIn d s j 0 = foundTo d s j) := fun s => foundIn_zero d s j
            have HFA : Hid (∀ s m, kindAt d j = 3 ∨ (keysAt d j).length ≤ m → foundIn d s j m = foundTo d s (j + 1)) := fun s m h => foundIn_all h
            have hkl := HKL.out j
            have HQ := Lib.hid hq
            have HF0 := Lib.hid hf0
            have HFF := Lib.hid hff
            obtain ⟨sb, hsb⟩ : ∃ x, wr.heap.size = x := ⟨_, rfl⟩
            rw [hsb] at hB
            have e3 : (wr.alloc (.cells #[.string s.name, .int .i64 (kindAt d j), .int .i64 s.part, .slice (kAat d j) (keysAt d j).length (kcat d j), .slice s.nA s.needs.length s.nc] 35)).cell? ⟨sb, 3, none⟩ = some (.slice (kAat d j) (keysAt d j).length (kcat d j)) := hB.blk.cell 3
            have HB2 := Lib.hid hB.r2
            obtain ⟨kd, hkd⟩ : ∃ x, kindAt d j = x := ⟨_, rfl⟩
            have HKD := Lib.hid hkd
            rw [hkd] at s1 e3 HB2 HFA
            rw [hA]
            clear hs hB hq hf0 hff hT h9 hkd hlj'
            go_wp2_with fail
            try simp only [hsb]
            go_loopw [57] (HeRel w (Blk sb 35 [.string s.name, .int .i64 kd, .int .i64 s.part, .slice (kAat d j) (keysAt d j).length (kcat d j), .slice s.nA s.needs.length s.nc] :: L) (pb + 1) d j) (fun x _ => (keysAt d j).length - (intOf x).toNat)
            case atStart => exact ⟨0, q, f, Nat.zero_le _, rfl, HQ.out, HF0.out, fun s => by rw [HZ.out s]; exact HFF.out s, HB2.out⟩
            case round =>
              obtain ⟨m, q2, f2, hm, rfl, hq2, hf02, hff2, hU⟩ := hrel
              clear s0 s1 s2 s3 s4 e3 HB2
              have hU5 := HOP2.out _ _ _ hU
              have h9 := HVV.out _ _ hU5 (by simp)
              have e1 : wr.cell? ⟨sb, 1, none⟩ = some (.int .i64 kd) := hU.r2.blk.cell 1
              have b7 : wr.cell? ⟨pb + 2, 0, none⟩ = some (.map (some (pb + 1))) := hU5.r3.blk.cell 0
              by_cases hlm : m < (keysAt d j).length
              · obtain ⟨kb, ko, hkA, x0⟩ := HKC.out _ h9 m hlm
                have hks := HKS.out j m
                have hlk := hU.mapLook hks
                have hfk := hf02 (keyAt (keysAt d j) m)
                have HF02 := Lib.hid hf02
                have HFF2 := Lib.hid hff2
                have HU := Lib.hid hU
                have HKSM := Lib.hid hks
                by_cases h3 : kd = 3
                · have t3 : (kd != 3) = false := by rw [h3]; rfl
                  have HN : Hid (∀ s, decide (0 < f2 s) = foundIn d s j (m + 1)) := fun s => by rw [HFF2.out s, HFA.out s m (.inl h3), HFA.out s (m + 1) (.inl h3)]
                  rw [hkA]
                  clear hU hU5 hf02 hff2 h9 h3 hlk hfk hks b7
                  go_wp2_with fail
                  go_roundw
                  case rel => exact ⟨m + 1, q2, f2, by omega, by go_num, by omega, HF02.out, HN.out, by rw [← hkA]; exact HU.out⟩
                  case measure => simp [intOf]; omega
                · have t3 : (kd != 3) = true := by rw [bne_iff_ne]; exact h3
                  obtain ⟨hn1, hn2⟩ := held_next (d := d) (by rw [HKD.out]; exact h3) hlm hf02 hff2
                  have HN1 := Lib.hid hn1
                  have HN2 := Lib.hid hn2
                  obtain ⟨key, hkey⟩ : ∃ x, keyAt (keysAt d j) m = x := ⟨_, rfl⟩
                  rw [hkey] at x0 hlk hfk HKSM HN1 HN2
                  obtain ⟨fk, hfkk⟩ : ∃ x, f2 key = x := ⟨_, rfl⟩
                  rw [hfkk] at hlk hfk HN1 HN2
                  have sw : IntKind.i64.wrap (fk + 1) = fk + 1 := IntWalk.i64_in _ (by omega)
                  have hwf : Hid ((Lit.int .i64 (fk + 1)).wf = true) := WalkArith.wf_i64 (by omega)
                  have hqm : Hid (q2 < maxLen) := by show q2 < maxLen; unfold maxLen; omega
                  rw [hkA]
                  clear hU hU5 hf02 hff2 h9 h3 hfk hks hn1 hn2 hkey hfkk
                  go_wp2_with (first | (at_mapUpdate; refine wpList_mapPut rfl (.tmp 64) (.tmp 65) (.tmp 67) rfl rfl HU.out rfl rfl HKSM.out hwf.out hqm.out ?_; intro w9 h9; have H9 := Lib.hid h9; clear h9))
                  go_roundw
                  case rel => exact ⟨m + 1, q2 + 1, _, by omega, by go_num, by omega, HN1.out, HN2.out, by rw [← hkA]; exact H9.out⟩
                  case measure => simp [intOf]; omega
              · have HF02 := Lib.hid hf02
                have HFF2 : Hid (∀ s, decide (0 < f2 s) = foundTo d s (j + 1)) := fun s => by rw [hff2 s]; exact HFA.out s m (.inr (by omega))
                have HU := Lib.hid hU.r2.tail
                clear hU hU5 hf02 hff2 h9 b7 e1
                go_wp2_with fail
                go_roundw
                case rel => exact ⟨j + 1, q2, f2, by omega, by go_num, by omega, HF02.out, HFF2.out, HU.out⟩
                case measure => simp [intOf]; omega
          · have hjn : j = n := by omega
            have HFF : Hid (∀ s, decide (0 < f s) = heldB d s) := fun s => by rw [hff s, hjn, ← HNN.out]; rfl
            have HF0 : Hid (∀ s, 0 ≤ f s) := fun s => (hf0 s).1
            have hT5 := HOP.out _ _ hT
            have a0 : wr.cell? ⟨b, 0, none⟩ = some (.string d.name) := hT5.r4.blk.cell 0
            have a1 : wr.cell? ⟨b, 1, none⟩ = some (.slice d.A n d.c) := by rw [← HNN.out]; exact hT5.r4.blk.cell 1
            have HLK : Hid (∀ k, k < n → keyNo d f k = looseB d k) := fun k hk => keyNo_loose HF0.out HFF.out (by rw [HNN.out]; exact hk)
            have hn8 : d.steps.length ≤ 8 := by rw [HNN.out]; exact HN8.out.2
            have hn6 : d.steps.length ≤ 1000000 := by omega
            have C1 := Lib.hid (first39 (w := wr) d hn6 #[.pointer (some ⟨b, 0, none⟩), .pointer (some ⟨pb, 0, none⟩)] (pivB d)
              (fun k w1 => Sat w w1 [MapC (pb + 1) q f, Blk (pb + 2) 66 [.map (some (pb + 1))], Blk pb 3 [.int .i64 (pivTo d k : Nat)], Blk b 24 (boxV d), Old w])
              (hT5.new _ _).tail
              (fun k w1 hk h1 => (tells39 HD.out (by simp) k hk hn6 (Nat.le_trans (piv_top d k) (by omega)) h1.r3.r4.r2).mono fun e w' ⟨he, h2⟩ => ⟨he, h2.r2.b4.b3⟩))
            have C2 : Hid (∀ (w1 : World) (P : Value), Sat w w1 [Blk b 24 (boxV d), MapC (pb + 1) q f, Blk (pb + 2) 66 [.map (some (pb + 1))], Blk pb 3 [P], Old w] → Calls Tryd.prog 38 #[d.v, .func (.func 40) #[] #[.pointer (some ⟨b, 0, none⟩)]] w1 fun e w' => e = .returned (.int .i64 (retI d.steps.length (orderB d))) ∧ ∃ k : Nat, Sat w w' [Blk b 24 (boxV d), MapC (pb + 1) q f, Blk (pb + 2) 66 [.map (some (pb + 1))], Blk pb 3 [P], Old w]) := fun w1 P h1 =>
              first40 d hn6 _ (orderB d) (fun k w2 => Sat w w2 [Blk b 24 (boxV d), MapC (pb + 1) q f, Blk (pb + 2) 66 [.map (some (pb + 1))], Blk pb 3 [P], Old w]) (h1.new _ _).tail
                fun k w2 hk h2 => tells40 HD.out (by simp) HSML.out k hk h2
            have C3 : Hid (∀ (w1 : World) (b1 : Nat) (P : Value), Sat w w1 [Blk b1 24 (boxV d), Blk b 24 (boxV d), MapC (pb + 1) q f, Blk (pb + 2) 66 [.map (some (pb + 1))], Blk pb 3 [P], Old w] → Calls Tryd.prog 38 #[d.v, .func (.func 70) #[] #[.pointer (some ⟨b1, 0, none⟩)]] w1 fun e w' => e = .returned (.int .i64 (retI d.steps.length (ringB d))) ∧ ∃ k : Nat, Sat w w' [Blk b1 24 (boxV d), Blk b 24 (boxV d), MapC (pb + 1) q f, Blk (pb + 2) 66 [.map (some (pb + 1))], Blk pb 3 [P], Old w]) := fun w1 b1 P h1 =>
              first70 d hn6 _ (ringB d) (fun k w2 => Sat w w2 [Blk b1 24 (boxV d), Blk b 24 (boxV d), MapC (pb + 1) q f, Blk (pb + 2) 66 [.map (some (pb + 1))], Blk pb 3 [P], Old w]) (h1.new _ _).tail
                fun k w2 hk h2 => tells70 HD.out (by simp) HSML.out hn8 HNL8.out k hk h2
            have C4 : Hid (∀ (w1 : World) (P : Value), Sat w w1 [MapC (pb + 1) q f, Blk (pb + 2) 66 [.map (some (pb + 1))], Blk b 24 (boxV d), Blk pb 3 [P], Old w] → Calls Tryd.prog 38 #[d.v, .func (.func 44) #[] #[.pointer (some ⟨b, 0, none⟩), .pointer (some ⟨pb + 2, 0, none⟩)]] w1 fun e w' => e = .returned (.int .i64 (retI d.steps.length (keyNo d f))) ∧ ∃ k : Nat, Sat w w' [MapC (pb + 1) q f, Blk (pb + 2) 66 [.map (some (pb + 1))], Blk b 24 (boxV d), Blk pb 3 [P], Old w]) := fun w1 P h1 =>
              first44 d hn6 _ (keyNo d f) (fun k w2 => Sat w w2 [MapC (pb + 1) q f, Blk (pb + 2) 66 [.map (some (pb + 1))], Blk b 24 (boxV d), Blk pb 3 [P], Old w]) (h1.new _ _).tail
                fun k w2 hk h2 => tells44 HD.out (by simp) HSML.out HKS.out k hk h2
            have CR : Hid (∀ w1, Calls Tryd.prog 43 #[d.v] w1 fun e w' => e = .returned (.func (.func 70) #[] #[.pointer (some ⟨w1.heap.size, 0, none⟩)]) ∧ w' = w1.alloc (.cells #[.string d.name, .slice d.A d.steps.length d.c] 24)) := fun w1 => rings_any d
            have HRL : Hid (retI n (keyNo d f) = retI n (looseB d)) := ret_congr HLK.out
            have HBX : Hid (∀ (w1 : World) (b1 : Nat) (L : List HP), Sat w w1 (Blk b1 24 (boxV d) :: L) → w1.cell? ⟨b1, 0, none⟩ = some (.string d.name) ∧ w1.cell? ⟨b1, 1, none⟩ = some (.slice d.A n d.c)) := fun w1 b1 L h => ⟨h.blk.cell 0, by rw [← HNN.out]; exact h.blk.cell 1⟩
            have HNW : Hid (∀ (w1 : World) (L : List HP), Sat w w1 L → Sat w (w1.alloc (.cells #[.string d.name, .slice d.A n d.c] 24)) (Blk w1.heap.size 24 (boxV d) :: L)) := fun w1 L h => by rw [← HBV.out]; exact h.new _ _
            rw [HDV.out, HNN.out] at C1
            simp only [HDV.out, HNN.out] at C2 C3 C4 CR
            rw [HRL.out] at C4
            obtain ⟨r1, hr1⟩ : ∃ r, retI n (pivB d) = r := ⟨_, rfl⟩
            obtain ⟨r2, hr2⟩ : ∃ r, retI n (orderB d) = r := ⟨_, rfl⟩
            obtain ⟨r3, hr3⟩ : ∃ r, retI n (ringB d) = r := ⟨_, rfl⟩
            obtain ⟨r4, hr4⟩ : ∃ r, retI n (looseB d) = r := ⟨_, rfl⟩
            rw [hr1] at C1 HE
            rw [hr2] at C2 HE
            rw [hr3] at C3 HE
            rw [hr4] at C4 HE
            clear hf0 hff hT hT5 h9 hjn hn8 hn6 hr1 hr2 hr3 hr4 HLK HRL hq
            go_wp2_with fail
            refine C1.out.mono ?_
            rintro e w3 ⟨rfl, kp, h3⟩
            have H3 := Lib.hid h3.r4
            obtain ⟨P, hP⟩ : ∃ P : Value, (.int .i64 (pivTo d kp : Nat)) = P := ⟨_, rfl⟩
            rw [hP] at H3
            obtain ⟨a0, a1⟩ := HBX.out _ _ _ H3.out
            clear h3 hP C1
            by_cases hr : 0 ≤ r1
            · have t : decide (0 ≤ r1) = true := decide_eq_true hr
              rw [if_pos hr] at HE
              clear hr
              go_wp2_with fail
              go_ret2
              exact ⟨by rw [show x = r1 from congrArg Prod.fst HE.out, show y = 117 from congrArg Prod.snd HE.out]; rfl, by have h9 := HVV.out _ _ H3.out (by simp); first | exact h9 | (rw [hb] at h9; exact h9)⟩
            · have t : decide (0 ≤ r1) = false := decide_eq_false hr
              rw [if_neg hr] at HE
              clear hr
              go_wp2_with fail
              refine (C2.out _ _ H3.out).mono ?_
              rintro e w4 ⟨rfl, _, h4⟩
              have H4 := Lib.hid h4
              obtain ⟨a0, a1⟩ := HBX.out _ _ _ h4
              clear h4
              by_cases hr : 0 ≤ r2
              · have t : decide (0 ≤ r2) = true := decide_eq_true hr
                rw [if_pos hr] at HE
                clear hr
                go_wp2_with fail
                go_ret2
                exact ⟨by rw [show x = r2 from congrArg Prod.fst HE.out, show y = 118 from congrArg Prod.snd HE.out]; rfl, by have h9 := HVV.out _ _ H4.out (by simp); first | exact h9 | (rw [hb] at h9; exact h9)⟩
              · have t : decide (0 ≤ r2) = false := decide_eq_false hr
                rw [if_neg hr] at HE
                clear hr
                go_wp2_with fail
                go_region_held3 (fun w' => w'.cell? ⟨b, 0, none⟩ = some (.string d.name) ∧ w'.cell? ⟨b, 1, none⟩ = some (.slice d.A n d.c))
                  (first | exact ⟨a0, a1⟩ | exact ⟨y0, y1⟩ | exact ⟨z0, z1⟩)
                  (first
                    | (go_at_call 43; refine (CR.out _).mono ?_; rintro e w5 ⟨rfl, rfl⟩; have h5 := HNW.out _ _ H4.out.drew; have y0 := (HBX.out _ _ _ h5.r2).1; have y1 := (HBX.out _ _ _ h5.r2).2; have z00 := (HBX.out _ _ _ h5).1; have z11 := (HBX.out _ _ _ h5).2)
                    | (go_at_call 38; refine (C3.out _ _ P h5).mono ?_; rintro e w6 ⟨rfl, _, h6⟩; have z0 := (HBX.out _ _ _ h6.r2).1; have z1 := (HBX.out _ _ _ h6.r2).2))
                all_goals
                  have H6 := Lib.hid h6.tail.b3
                  clear h5 h6 y0 y1
                  by_cases hr : 0 ≤ r3
                  · have t : decide (0 ≤ r3) = true := decide_eq_true hr
                    rw [if_pos hr] at HE
                    clear hr
                    go_wp2_with fail
                    go_ret2
                    exact ⟨by rw [show x = r3 from congrArg Prod.fst HE.out, show y = 119 from congrArg Prod.snd HE.out]; rfl, by have h9 := HVV.out _ _ H6.out (by simp); first | exact h9 | (rw [hb] at h9; exact h9)⟩
                  · have t : decide (0 ≤ r3) = false := decide_eq_false hr
                    rw [if_neg hr] at HE
                    clear hr
                    go_wp2_with fail
                    refine (C4.out _ _ H6.out).mono ?_
                    rintro e w7 ⟨rfl, _, h7⟩
                    have H7 := Lib.hid h7
                    clear h7 z0 z1
                    by_cases hr : 0 ≤ r4
                    · have t : decide (0 ≤ r4) = true := decide_eq_true hr
                      rw [if_pos hr] at HE
                      clear hr
                      go_wp2_with fail
                      go_ret2
                      exact ⟨by rw [show x = r4 from congrArg Prod.fst HE.out, show y = 115 from congrArg Prod.snd HE.out]; rfl, by have h9 := HVV.out _ _ H7.out (by simp); first | exact h9 | (rw [hb] at h9; exact h9)⟩
                    · have t : decide (0 ≤ r4) = false := decide_eq_false hr
                      rw [if_neg hr] at HE
                      clear hr
                      go_wp2_with fail
                      go_ret2
                      exact ⟨by rw [show x = -1 from congrArg Prod.fst HE.out, show y = 0 from congrArg Prod.snd HE.out]; rfl, by have h9 := HVV.out _ _ H7.out (by simp); first | exact h9 | (rw [hb] at h9; exact h9)⟩
end Go.Proofs.YtpmoanjeoaeabaaDoor
end
