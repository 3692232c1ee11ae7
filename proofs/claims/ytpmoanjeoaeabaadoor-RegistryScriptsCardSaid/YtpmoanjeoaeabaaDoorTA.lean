/- Do All and Names tell what they must? all. -/
import Derived.Test.YtpmoanjeoaeabaaDoorSK
set_option linter.unusedVariables false
set_option linter.unusedSimpArgs false
set_option linter.unnecessarySimpa false
set_option maxRecDepth 100000
namespace Go.Proofs.YtpmoanjeoaeabaaDoor
open Go.RowKit Go.ChangeShapes Go.WideShapes Go.ChangeAt
theorem names_len (l : List ByteArray) : (namesN l).length ≤ l.length := by
  unfold namesN
  have key : ∀ (l O : List ByteArray), (l.foldl insN O).length ≤ O.length + l.length := by
    intro l
    induction l with
    | nil => intro O; exact Nat.le_refl _
    | cons a l ih =>
      intro O
      have h1 := ih (insN O a)
      have h2 : (insN O a).length ≤ O.length + 1 := by
        unfold insN
        split
        · omega
        · rw [List.length_append, List.length_cons, List.length_take, List.length_drop]
          omega
      rw [List.foldl_cons, List.length_cons]
      omega
  have := key l []
  simpa using this
def StillRel (w0 : World) (L : List HP) (n : Nat) (i : Value) (wr : World) : Prop := ∃ k : Nat, k ≤ n ∧ i = .int .i64 k ∧ Sat w0 wr L
def WritRel (w0 : World) (L : List HP) (Ls : List Df) (ob : Nat) (i : Value) (wr : World) : Prop :=
  ∃ (k : Nat) (zs : List Value), k ≤ Ls.length ∧ i = .int .i64 k ∧ zs.length = Ls.length * 2 ∧ (∀ j D, k ≤ j → Ls[j]? = some D → zs[j * 2]? = some (.string D.name) ∧ zs[j * 2 + 1]? = some (.slice D.A D.steps.length D.c)) ∧
    Sat w0 wr (Blk ob 24 zs :: sep ((Ls.drop k).map OwnP) :: L)
def NamRel (w0 : World) (L : List HP) (N : List ByteArray) (m g c : Nat) (i : Value) (wr : World) : Prop :=
  ∃ (k : Nat) (zs : List Value), k ≤ m ∧ i = .int .i64 k ∧ zs.length = m ∧ (∀ j s, k ≤ j → N[j]? = some s → zs[j]? = some (.string s)) ∧ Sat w0 wr (Row 9 1 (some ⟨g, 0, none⟩) m c zs :: L)
set_option maxHeartbeats 6400000 in
theorem all35_any {w w0 : World} {F : List HP} {rb xb : Nat} {R : List Ver} (hR : RegOk R) (hN : ∀ r ∈ R, isN r.d.name = true) (h0 : 0 < R.length) (hO : Old w0 ∈ F) (hT0 : Lib.Utf8Tabs 0 1 w0) (hS : Sat w0 w (RegP rb R :: DocP xb R :: F)) :
    Calls Tryd.prog 35 #[.pointer (some ⟨rb, 0, none⟩), .pointer (some ⟨xb, 0, none⟩)] w fun e w' => e = .returned (.bool true) ∧ Sat w0 w' (RegP rb R :: DocP xb R :: F) := by
  have C26 := Lib.hid (all_any hR.wf hR.grown hR.len hS)
  have C61 : Hid (∀ W L, Sat w0 W (DocP xb R :: L) → Calls Tryd.prog 61 #[.pointer (some ⟨xb, 0, none⟩)] W fun e w' => ∃ (A2 : Option Addr) (c2 : Nat) (Es : List Df), e = .returned (.slice A2 R.length c2) ∧ Es.length = R.length ∧ Likes Es R ∧ Sat w0 w' (Row 24 2 A2 R.length c2 (defsC Es) :: sep (Es.map OwnP) :: DocP xb R :: L)) := fun W L h => docAll_any hR.wf hR.len h
  have C62 : Hid (∀ W L, Old w0 ∈ L → Sat w0 W (RegP rb R :: L) → Calls Tryd.prog 62 #[.pointer (some ⟨rb, 0, none⟩)] W fun e w' => ∃ (g c2 : Nat), e = .returned (.slice (some ⟨g, 0, none⟩) (namesN (verNames R)).length c2) ∧ Sat w0 w' (Row 9 1 (some ⟨g, 0, none⟩) (namesN (verNames R)).length c2 (strV (namesN (verNames R))) :: RegP rb R :: L)) := fun W L hL h => names_any hN h0 hR.len hL hT0 h
  have C63 : Hid (∀ W L, Sat w0 W (DocP xb R :: L) → Calls Tryd.prog 63 #[.pointer (some ⟨xb, 0, none⟩)] W fun e w' => ∃ (A2 : Option Addr) (c2 : Nat), e = .returned (.slice A2 (namesN (verNames R)).length c2) ∧ Sat w0 w' (Row 9 1 A2 (namesN (verNames R)).length c2 (strV (namesN (verNames R))) :: DocP xb R :: L)) := fun W L h => docNames_any hN hR.len h
  obtain ⟨n, hn⟩ : ∃ n, R.length = n := ⟨_, rfl⟩
  obtain ⟨N, hNN⟩ : ∃ N, namesN (verNames R) = N := ⟨_, rfl⟩
  obtain ⟨m, hm⟩ : ∃ m, N.length = m := ⟨_, rfl⟩
  rw [hNN] at C62 C63
  rw [hm] at C62 C63
  rw [hn] at C26 C61
  have HN := Lib.hid hn
  have HM := Lib.hid hm
  have HR := Lib.hid hR
  have HOF := Lib.hid hO
  have hlen16 : n ≤ 16 := by rw [← hn]; exact hR.len
  have hm16 : m ≤ 16 := by
    have h1 := names_len (verNames R)
    rw [hNN, hm] at h1
    have h2 : (verNames R).length = n := by rw [← hn]; simp [verNames]
    omega
  clear hS hR hN h0 hT0 hn hNN hm hO
  go_enter Tryd.func35, Tryd.ntmps35
  go_wp2_with fail
  refine C26.out.mono ?_
  rintro e w1 ⟨ob, Ls, rfl, hll, hlk, h1⟩
  have H1 := Lib.hid h1.r4
  have HLK := Lib.hid hlk
  clear h1 C26 hlk
  go_wp2_with fail
  refine (C61.out w1 _ H1.out).mono ?_
  rintro e w2 ⟨A2, c2, Es, rfl, hel, hek, h2⟩
  have HEK := Lib.hid hek
  have HWL : Hid (∀ (j : Nat) D, Ls[j]? = some D → Wf D) := fun j D h => by
    have hj := (List.getElem?_eq_some_iff.1 h).1
    have hjR : j < R.length := by rw [HN.out]; omega
    exact (HLK.out j D R[j] h (List.getElem?_eq_getElem hjR)).wf (HR.out.wf _ (List.getElem_mem hjR))
  have HWE : Hid (∀ (j : Nat) D, Es[j]? = some D → Wf D) := fun j D h => by
    have hj := (List.getElem?_eq_some_iff.1 h).1
    have hjR : j < R.length := by rw [HN.out]; omega
    exact (HEK.out j D R[j] h (List.getElem?_eq_getElem hjR)).wf (HR.out.wf _ (List.getElem_mem hjR))
  obtain ⟨L1, hL1⟩ : ∃ x, x = Row 24 2 A2 n c2 (defsC Es) :: sep (Es.map OwnP) :: Blk ob 24 (defsC Ls) :: sep (Ls.map OwnP) :: DocP xb R :: RegP rb R :: F := ⟨_, rfl⟩
  have HL1 := Lib.hid hL1
  have H2 : Hid (Sat w0 w2 L1) := by
    rw [hL1]
    exact h2.r3.b5
  clear h2 H1 hek hL1 C61
  go_wp2_with fail
  go_loopw [7] (StillRel w0 L1 n) (fun i _ => n - (intOf i).toNat)
  case atStart => exact ⟨0, Nat.zero_le _, rfl, H2.out⟩
  case round =>
    obtain ⟨k, hk, rfl, hS⟩ := hrel
    clear H2
    have hS5 := hS
    rw [HL1.out] at hS5
    by_cases hlt : k < n
    · obtain ⟨D, hD⟩ : ∃ D, Ls[k]? = some D := ⟨_, List.getElem?_eq_getElem (by omega)⟩
      obtain ⟨E, hE⟩ : ∃ E, Es[k]? = some E := ⟨_, List.getElem?_eq_getElem (by omega)⟩
      have hjR : k < R.length := by rw [HN.out]; exact hlt
      have hLE : Like D E := (HLK.out k D R[k] hD (List.getElem?_eq_getElem hjR)).trans (HEK.out k E R[k] hE (List.getElem?_eq_getElem hjR)).symm
      have g0 := defsC_get Ls k 0 D hD (by decide)
      have g1 := defsC_get Ls k 1 D hD (by decide)
      have e0 := defsC_get Es k 0 E hE (by decide)
      have e1 := defsC_get Es k 1 E hE (by decide)
      rw [Nat.add_zero] at g0 e0
      obtain ⟨g, hA, _, _⟩ := hS5.rowCell (by intro e; rw [e] at e0; simp [defC] at e0)
      subst hA
      have CELL : Hid (∀ W, Sat w0 W L1 → W.cell? ⟨ob, k * 2, none⟩ = some (.string D.name) ∧ W.cell? ⟨ob, k * 2 + 1, none⟩ = some (.slice D.A D.steps.length D.c) ∧ W.cell? ⟨g, k * 2, none⟩ = some (.string E.name) ∧ W.cell? ⟨g, k * 2 + 1, none⟩ = some (.slice E.A E.steps.length E.c)) := fun W h => by
        rw [HL1.out] at h
        exact ⟨(h.r3.blk.cell (k * 2)).trans g0, (h.r3.blk.cell (k * 2 + 1)).trans g1, (h.rowAt (j := k * 2) e0).1, (h.rowAt (j := k * 2 + 1) e1).1⟩
      have hwD := HWL.out k D hD
      have hwE := HWE.out k E hE
      have HC : Hid (Calls Tryd.prog 28 #[.agg #[.string D.name, .slice D.A D.steps.length D.c], .agg #[.string E.name, .slice E.A E.steps.length E.c]] wr.drew fun e w' => e = .returned (.bool true) ∧ Below wr.drew.heap.size wr.drew w') := by
        obtain ⟨F1, hF1⟩ := hS5.drew.r4.pickP (List.mem_map.2 ⟨D, List.mem_of_getElem? hD, rfl⟩)
        obtain ⟨F2, hF2⟩ := hS5.drew.r2.pickP (List.mem_map.2 ⟨E, List.mem_of_getElem? hE, rfl⟩)
        have h := same10_any (hF1.wfDef hwD) (hF2.wfDef hwE) hwD.fits hwE.fits
        rw [like_yes hLE] at h
        exact h
      obtain ⟨c0, c1, c2', c3⟩ := CELL.out wr hS
      have HS := Lib.hid hS
      clear hS hS5 hD hE hjR hLE g0 g1 e0 e1 hwD hwE
      go_wp2_with fail
      go_region_held3 (fun w' => w'.cell? ⟨ob, k * 2, none⟩ = some (.string D.name) ∧ w'.cell? ⟨ob, k * 2 + 1, none⟩ = some (.slice D.A D.steps.length D.c) ∧ w'.cell? ⟨g, k * 2, none⟩ = some (.string E.name) ∧ w'.cell? ⟨g, k * 2 + 1, none⟩ = some (.slice E.A E.steps.length E.c))
        (first | exact ⟨c0, c1, c2', c3⟩ | exact ⟨y0, y1, y2, y3⟩)
        (first
          | (go_at_call 28; refine HC.out.mono ?_; rintro e w5 ⟨rfl, h5⟩; have H5 := Lib.hid (HS.out.drew.below h5); obtain ⟨y0, y1, y2, y3⟩ := CELL.out w5 H5.out))
      all_goals
        clear c0 c1 c2' c3 y0 y1 y2 y3 h5 HS HC CELL
        go_wp2_with fail
        go_roundw
        case rel => exact ⟨k + 1, by omega, by go_num, H5.out⟩
        case measure => simp [intOf]; omega
    · obtain rfl : k = n := by omega
      have HS := Lib.hid hS
      obtain ⟨L2, hL2⟩ : ∃ x, x = DocP xb R :: RegP rb R :: F := ⟨_, rfl⟩
      have HL2 := Lib.hid hL2
      have H3 : Hid (Sat w0 wr (Blk ob 24 (defsC Ls) :: sep ((Ls.drop 0).map OwnP) :: L2)) := by
        rw [hL2]
        exact hS5.tail.tail
      clear hS hS5 hL2
      go_wp2_with fail
      go_loopw [8] (WritRel w0 L2 Ls ob) (fun i _ => k - (intOf i).toNat)
      case atStart => exact ⟨0, _, Nat.zero_le _, rfl, defsC_len Ls, fun j D _ h => ⟨defsC_get Ls j 0 D h (by decide), defsC_get Ls j 1 D h (by decide)⟩, H3.out⟩
      case round =>
        obtain ⟨q, zs, hq, rfl, hzl, hz, hT⟩ := hrel
        rw [hll] at hq hzl
        clear H3 HS
        by_cases hlt2 : q < k
        · obtain ⟨D, hD⟩ : ∃ D, Ls[q]? = some D := ⟨_, List.getElem?_eq_getElem (by omega)⟩
          obtain ⟨z0, z1⟩ := hz q D (Nat.le_refl _) hD
          have x0 := (hT.blk.cell (q * 2)).trans z0
          have x1 := (hT.blk.cell (q * 2 + 1)).trans z1
          have hqL : q < Ls.length := by omega
          have hdr : (Ls.drop q).map OwnP = OwnP D :: (Ls.drop (q + 1)).map OwnP := by
            obtain ⟨_, e⟩ := List.getElem?_eq_some_iff.1 hD
            rw [List.drop_eq_getElem_cons hqL, e]; rfl
          rw [hdr] at hT
          have HWR := Lib.hid (written_any (HWL.out q D hD) hT.r2.uncons)
          have HZ : Hid (∀ j D', q + 1 ≤ j → Ls[j]? = some D' → (zs.set (q * 2) (.string ⟨#[119, 114, 105, 116, 116, 101, 110]⟩))[j * 2]? = some (.string D'.name) ∧ (zs.set (q * 2) (.string ⟨#[119, 114, 105, 116, 116, 101, 110]⟩))[j * 2 + 1]? = some (.slice D'.A D'.steps.length D'.c)) := fun j D' hj hD' => by
            rw [List.getElem?_set_ne (by omega), List.getElem?_set_ne (by omega)]
            exact hz j D' (by omega) hD'
          have hzq : zs[q * 2]? = some (.string D.name) := z0
          clear hT hD hdr hz z0 z1 hqL
          go_wp2_with fail
          refine HWR.out.mono ?_
          rintro e w5 ⟨rfl, h5⟩
          have q0 := (h5.r2.blk.cell (q * 2)).trans hzq
          have qf := h5.r2.blk.free (q * 2)
          have HX := Lib.hid (h5.r2.set (q * 2) (.string ⟨#[119, 114, 105, 116, 116, 101, 110]⟩))
          clear h5 hzq HWR x0 x1
          go_wp2_with fail
          go_roundw
          case rel => exact ⟨q + 1, _, by rw [hll]; omega, by go_num, by simp [hzl, hll], HZ.out, HX.out⟩
          case measure => simp [intOf]; omega
        · obtain rfl : q = k := by omega
          have H4 : Hid (Sat w0 wr (RegP rb R :: DocP xb R :: F)) := by
            have h := hT.tail.tail
            rw [HL2.out] at h
            exact h.r2
          clear hT hz
          go_wp2_with fail
          refine (C62.out wr _ (by simp [HOF.out]) H4.out).mono ?_
          rintro e w5 ⟨g5, c5, rfl, h5⟩
          have H5 := Lib.hid h5.r3
          clear h5 H4
          go_wp2_with fail
          refine (C63.out w5 _ H5.out).mono ?_
          rintro e w6 ⟨A6, c6, rfl, h6⟩
          have HV : Hid ((strV N).length = m) := by show _ = _; rw [← HM.out]; simp [strV]
          obtain ⟨L3, hL3⟩ : ∃ x, x = Row 9 1 A6 m c6 (strV N) :: DocP xb R :: RegP rb R :: F := ⟨_, rfl⟩
          have HL3 := Lib.hid hL3
          have H7 : Hid (Sat w0 w6 (Row 9 1 (some ⟨g5, 0, none⟩) m c5 (strV N) :: L3)) := by
            rw [hL3]
            exact h6.r3
          clear h6 hL3 H5
          go_wp2_with fail
          go_loopw [11] (NamRel w0 L3 N m g5 c5) (fun i _ => m - (intOf i).toNat)
          case atStart => exact ⟨0, _, Nat.zero_le _, rfl, HV.out, fun j s _ h => by unfold strV; rw [List.getElem?_map, h]; rfl, H7.out⟩
          case round =>
            obtain ⟨p, ys, hp, rfl, hyl, hy, hU⟩ := hrel
            clear H7
            by_cases hlt3 : p < m
            · obtain ⟨s, hs⟩ : ∃ s, N[p]? = some s := ⟨_, List.getElem?_eq_getElem (by rw [HM.out]; exact hlt3)⟩
              have y0 := (hU.rowAt (j := p) (hy p s (Nat.le_refl _) hs)).1
              have yf := (hU.rowAt (j := p) (hy p s (Nat.le_refl _) hs)).2
              have hU2 := hU
              rw [HL3.out] at hU2
              have hsv : (strV N)[p]? = some (.string s) := by unfold strV; rw [List.getElem?_map, hs]; rfl
              obtain ⟨g6, hA6, _, _⟩ := hU2.r2.rowCell (by intro e; rw [e] at hsv; simp at hsv)
              subst hA6
              have y1 := (hU2.r2.rowAt (j := p) hsv).1
              have HY : Hid (∀ j s', p + 1 ≤ j → N[j]? = some s' → (ys.set p (.string ⟨#[119, 114, 105, 116, 116, 101, 110]⟩))[j]? = some (.string s')) := fun j s' hj h => by
                rw [List.getElem?_set_ne (by omega)]
                exact hy j s' (by omega) h
              have HU := Lib.hid hU
              clear hU hU2 hs hsv hy
              go_wp2_with fail
              go_quiet (fail)
              have HX := Lib.hid ((HU.out.drewN nq).rowSet p (.string ⟨#[119, 114, 105, 116, 116, 101, 110]⟩))
              clear HU
              go_wp2_with fail
              go_roundw
              case rel => exact ⟨p + 1, _, by omega, by go_num, by simp [hyl], HY.out, HX.out⟩
              case measure => simp [intOf]; omega
            · have H8 : Hid (Sat w0 wr (RegP rb R :: DocP xb R :: F)) := by
                have h := hU.tail
                rw [HL3.out] at h
                exact h.tail.r2
              clear hU hy
              go_wp2_with fail
              go_ret
              exact ⟨rfl, H8.out⟩
end Go.Proofs.YtpmoanjeoaeabaaDoor
