/- The owner of a definition writes into it: written. -/
import Derived.Test.YtpmoanjeoaeabaaDoorSD
set_option linter.unusedVariables false
set_option linter.unusedSimpArgs false
set_option linter.unnecessarySimpa false
set_option maxRecDepth 100000
namespace Go.Proofs.YtpmoanjeoaeabaaDoor
open Go.RowKit Go.ChangeShapes Go.WideShapes Go.ChangeAt
theorem Sat.uncons {w0 w : World} {P : HP} {M L : List HP} (h : Sat w0 w (sep (P :: M) :: L)) : Sat w0 w (P :: sep M :: L) :=
  (Sat.close (M := M) ((h.open_).perm (List.perm_middle (a := P) (l₁ := M) (l₂ := L)).symm)).r2
def wText : ByteArray := ⟨#[119, 114, 105, 116, 116, 101, 110]⟩
def wv : List Value := [.string wText, .int .i64 0, .int .i64 0, .slice none 0 0, .slice none 0 0]
def wrC (i : Nat) (S : List St) : List Value := (List.replicate i wv).flatten ++ stepsC (S.drop i)
theorem wrep_len (i : Nat) : ((List.replicate i wv).flatten).length = i * 5 := by
  rw [List.length_flatten, List.map_replicate, List.sum_replicate_nat]
  rfl
theorem stepsC_cons (s : St) (S : List St) : stepsC (s :: S) = s.vs ++ stepsC S := rfl
theorem wrC_zero (S : List St) : wrC 0 S = stepsC S := rfl
theorem wrC_get (S : List St) (i j : Nat) (s : St) (h : S[i]? = some s) (hj : j < 5) : (wrC i S)[i * 5 + j]? = s.vs[j]? := by
  obtain ⟨hi, rfl⟩ := List.getElem?_eq_some_iff.1 h
  unfold wrC
  rw [List.drop_eq_getElem_cons hi, stepsC_cons, List.getElem?_append_right (by rw [wrep_len]; omega), wrep_len, show i * 5 + j - i * 5 = j by omega, List.getElem?_append_left (by show j < 5; exact hj)]
theorem wrC_set (S : List St) (i : Nat) (h : i < S.length) : (((((wrC i S).set (i * 5) (.string wText)).set (i * 5 + 1) (.int .i64 0)).set (i * 5 + 2) (.int .i64 0)).set (i * 5 + 3) (.slice none 0 0)).set (i * 5 + 4) (.slice none 0 0) = wrC (i + 1) S := by
  unfold wrC
  have hl := wrep_len i
  rw [List.drop_eq_getElem_cons h, stepsC_cons, List.replicate_succ', List.flatten_append]
  have hs : S[i].vs = [.string S[i].name, .int .i64 S[i].kind, .int .i64 S[i].part, .slice S[i].kA S[i].keys.length S[i].kc, .slice S[i].nA S[i].needs.length S[i].nc] := rfl
  rw [hs]
  generalize (List.replicate i wv).flatten = P at hl
  rw [List.set_append_right _ _ (by omega), List.set_append_right _ _ (by omega), List.set_append_right _ _ (by omega), List.set_append_right _ _ (by omega), List.set_append_right _ _ (by omega), hl]
  simp [wv]
def WRel (w0 : World) (F : List HP) (b : Nat) (nm : ByteArray) (S : List St) (A : Option Addr) (c : Nat) (i : Value) (wr : World) : Prop :=
  ∃ k : Nat, k ≤ S.length ∧ i = .int .i64 k ∧ Sat w0 wr (Blk b 24 [.string nm, .slice A S.length c] :: Row 35 5 A S.length c (wrC k S) :: sep ((S.drop k).map stP) :: F)
def WRel2 (w0 : World) (L : List HP) (E m : Nat) (A : Option Addr) (c : Nat) (i : Value) (wr : World) : Prop :=
  ∃ (k : Nat) (zs : List Value), k ≤ m ∧ i = .int .i64 k ∧ zs.length = m ∧ Sat w0 wr (Row E 1 A m c zs :: L)
set_option maxHeartbeats 6400000 in
theorem written_any {w w0 : World} {F : List HP} {D : Df} (hw : Wf D) (hS : Sat w0 w (OwnP D :: F)) :
    Calls Tryd.prog 33 #[.agg #[.string D.name, .slice D.A D.steps.length D.c]] w fun e w' => e = .returned (.tuple #[]) ∧ Sat w0 w' F := by
  obtain ⟨nm, S, A, c⟩ := D
  have h0 : Sat w0 w (Row 35 5 A S.length c (stepsC S) :: sep (S.map stP) :: F) := hS.open_
  have h1 := h0.new #[.string nm, .slice A S.length c] 24
  obtain ⟨b, hb⟩ : ∃ b, w.heap.size = b := ⟨_, rfl⟩
  rw [hb] at h1
  have H1 : Hid (Sat w0 _ (Blk b 24 [.string nm, .slice A S.length c] :: Row 35 5 A S.length c (wrC 0 S) :: sep ((S.drop 0).map stP) :: F)) := h1
  have HF := Lib.hid hw.fits
  have hnb : S.length * 80 ≤ 140737488351232 := hw.fits.steps
  obtain ⟨i9, hi9, hz9, hs9, hb9⟩ := info_parts infoS
  obtain ⟨i35, hi35, hz35, hs35, hb35⟩ := info_parts infoSt
  have HI9 := Lib.hid hi9
  have HI35 := Lib.hid hi35
  show Calls Tryd.prog 33 #[.agg #[.string nm, .slice A S.length c]] w _
  obtain ⟨n, hn⟩ : ∃ n, S.length = n := ⟨_, rfl⟩
  have HN := Lib.hid hn
  rw [hn] at H1 hnb ⊢
  clear hS h0 h1 hw hn hi9 hi35
  go_enter Tryd.func33, Tryd.ntmps33
  go_wp2_with fail
  try simp only [hb]
  go_loopw [2] (WRel w0 F b nm S A c) (fun i _ => n - (intOf i).toNat)
  case atStart => exact ⟨0, Nat.zero_le _, rfl, by rw [HN.out]; exact H1.out⟩
  case round =>
    obtain ⟨k, hk, rfl, hS⟩ := hrel
    rw [HN.out] at hk hS
    clear H1
    by_cases hlt : k < n
    · have hkS : k < S.length := by rw [HN.out]; exact hlt
      obtain ⟨s, hs⟩ : ∃ s, S[k]? = some s := ⟨_, List.getElem?_eq_getElem hkS⟩
      have hsm : s ∈ S := List.mem_of_getElem? hs
      have hkb : s.keys.length * 16 ≤ 140737488351232 := HF.out.keyn s hsm
      have hnb2 : s.needs.length * 8 ≤ 140737488351232 := HF.out.needs s hsm
      have hdr : (S.drop k).map stP = stP s :: (S.drop (k + 1)).map stP := by
        obtain ⟨_, e⟩ := List.getElem?_eq_some_iff.1 hs
        rw [List.drop_eq_getElem_cons hkS, e]; rfl
      rw [hdr] at hS
      have g3 := wrC_get S k 3 s hs (by decide)
      have g4 := wrC_get S k 4 s hs (by decide)
      have g0 := wrC_get S k 0 s hs (by decide)
      have g1 := wrC_get S k 1 s hs (by decide)
      have g2 := wrC_get S k 2 s hs (by decide)
      rw [Nat.add_zero] at g0
      obtain ⟨snm, skind, spart, keys, needs, kA, kc, nA, nc⟩ := s
      have hst : Sat w0 wr (Row 9 1 kA keys.length kc (strV keys) :: Row 3 1 nA needs.length nc (intV needs) :: sep ((S.drop (k + 1)).map stP) :: Blk b 24 [.string nm, .slice A n c] :: Row 35 5 A n c (wrC k S) :: F) := hS.r3.uncons.open_
      obtain ⟨g, hA, _, _⟩ := hS.r2.rowCell (by intro e; rw [e] at g0; simp [St.vs] at g0)
      subst hA
      obtain ⟨m, hm⟩ : ∃ m, keys.length = m := ⟨_, rfl⟩
      obtain ⟨m2, hm2⟩ : ∃ m, needs.length = m := ⟨_, rfl⟩
      have hz1 : (strV keys).length = m := by rw [← hm]; simp [strV]
      have hz2 : (intV needs).length = m2 := by rw [← hm2]; simp [intV]
      have hgv : ∀ j : Nat, (⟨snm, skind, spart, keys, needs, kA, kc, nA, nc⟩ : St).vs[j]? = [Value.string snm, .int .i64 skind, .int .i64 spart, .slice kA m kc, .slice nA m2 nc][j]? := fun j => by rw [← hm, ← hm2]; rfl
      rw [hgv] at g0 g1 g2 g3 g4
      obtain ⟨xs, hxs⟩ : ∃ xs, xs = wrC k S := ⟨_, rfl⟩
      have HXS : Hid (((((xs.set (k * 5) (.string wText)).set (k * 5 + 1) (.int .i64 0)).set (k * 5 + 2) (.int .i64 0)).set (k * 5 + 3) (.slice none 0 0)).set (k * 5 + 4) (.slice none 0 0) = wrC (k + 1) S) := by rw [hxs]; exact wrC_set S k hkS
      replace hkb : m * 16 ≤ 140737488351232 := by rw [← hm]; exact hkb
      replace hnb2 : m2 * 8 ≤ 140737488351232 := by rw [← hm2]; exact hnb2
      rw [hm, hm2] at hst
      rw [← hxs] at hst g0 g1 g2 g3 g4
      obtain ⟨M, hM⟩ : ∃ M, M = sep ((S.drop (k + 1)).map stP) := ⟨_, rfl⟩
      have HM := Lib.hid hM
      rw [← hM] at hst
      obtain ⟨LL, hLL⟩ : ∃ x, x = Row 3 1 nA m2 nc (intV needs) :: M :: Blk b 24 [.string nm, .slice (some ⟨g, 0, none⟩) n c] :: Row 35 5 (some ⟨g, 0, none⟩) n c xs :: F := ⟨_, rfl⟩
      rw [← hLL] at hst
      have HLL := Lib.hid hLL
      have HST := Lib.hid hst
      have x1 := hS.blk.cell 1
      have c3 := (hS.r2.rowAt (j := k * 5 + 3) (v := .slice kA m kc) (by rw [← hxs]; exact g3)).1
      have G := Lib.hid (And.intro g0 (And.intro g1 (And.intro g2 (And.intro g3 g4))))
      clear hs hsm hdr hgv hm hm2 hM hLL hst hS hxs g0 g1 g2 g3 g4 hkS
      go_wp2_with fail
      go_loopw [3] (WRel2 w0 LL 9 m kA kc) (fun i _ => m - (intOf i).toNat)
      case atStart => exact ⟨0, _, Nat.zero_le _, rfl, hz1, HST.out⟩
      case round =>
        obtain ⟨q, zs, hq, rfl, hzl, hT⟩ := hrel
        clear HST x1 c3
        have hT2 := hT
        rw [HLL.out] at hT2
        have x1 := hT2.r4.blk.cell 1
        have c3 := (hT2.r5.rowAt (j := k * 5 + 3) (v := .slice kA m kc) G.out.2.2.2.1).1
        have c4 := (hT2.r5.rowAt (j := k * 5 + 4) (v := .slice nA m2 nc) G.out.2.2.2.2).1
        by_cases hlt2 : q < m
        · obtain ⟨kg, hkA, _, _⟩ := hT.rowCell (by intro e; rw [e] at hzl; simp at hzl; omega)
          subst hkA
          obtain ⟨v, hv⟩ : ∃ v, zs[q]? = some v := ⟨_, List.getElem?_eq_getElem (by omega)⟩
          obtain ⟨q0, qf⟩ := hT.rowAt (j := q) hv
          have HX := Lib.hid (hT.rowSet q (.string wText))
          clear hT hT2 hv c4
          go_wp2_with fail
          go_roundw
          case rel => exact ⟨q + 1, _, by omega, by go_num, by simp [hzl], HX.out⟩
          case measure => simp [intOf]; omega
        · obtain rfl : q = m := by omega
          obtain ⟨LL3, hLL3⟩ : ∃ x, x = Row 9 1 kA q kc zs :: M :: Blk b 24 [.string nm, .slice (some ⟨g, 0, none⟩) n c] :: Row 35 5 (some ⟨g, 0, none⟩) n c xs :: F := ⟨_, rfl⟩
          have HL3 := Lib.hid hLL3
          have HS3 : Hid (Sat w0 wr (Row 3 1 nA m2 nc (intV needs) :: LL3)) := by rw [hLL3]; exact hT2.r2
          clear hT hT2 hLL3
          go_wp2_with fail
          go_loopw [4] (WRel2 w0 LL3 3 m2 nA nc) (fun i _ => m2 - (intOf i).toNat)
          case atStart => exact ⟨0, _, Nat.zero_le _, rfl, hz2, HS3.out⟩
          case round =>
            obtain ⟨p, ys, hp, rfl, hyl, hT⟩ := hrel
            clear HS3 x1 c3 c4
            have hT2 := hT
            rw [HL3.out] at hT2
            have x1 := hT2.r4.blk.cell 1
            have c3 := (hT2.r5.rowAt (j := k * 5 + 3) (v := .slice kA q kc) G.out.2.2.2.1).1
            have c4 := (hT2.r5.rowAt (j := k * 5 + 4) (v := .slice nA m2 nc) G.out.2.2.2.2).1
            by_cases hlt3 : p < m2
            · obtain ⟨kg, hkA, _, _⟩ := hT.rowCell (by intro e; rw [e] at hyl; simp at hyl; omega)
              subst hkA
              obtain ⟨v, hv⟩ : ∃ v, ys[p]? = some v := ⟨_, List.getElem?_eq_getElem (by omega)⟩
              obtain ⟨q0, qf⟩ := hT.rowAt (j := p) hv
              have HX := Lib.hid (hT.rowSet p (.int .i64 (-7)))
              clear hT hT2 hv c3
              go_wp2_with fail
              go_roundw
              case rel => exact ⟨p + 1, _, by omega, by go_num, by simp [hyl], HX.out⟩
              case measure => simp [intOf]; omega
            · obtain rfl : p = m2 := by omega
              have HB := Lib.hid (hT2.r2.new #[.string ⟨#[111, 118, 101, 114]⟩] 9)
              have hbk : q + 1 ≤ maxLen ∧ (q + 1) * 16 ≤ 140737488355328 := by unfold maxLen; omega
              have HONE : Hid (∀ u ∈ (#[.string ⟨#[111, 118, 101, 114]⟩] : Array Value).toList, u.oneCell' = true) := by
                show ∀ u ∈ _, _
                intro u hu
                simp at hu
                subst hu; rfl
              have HG35 : Hid (∀ W L', Sat w0 W (Row 35 5 (some ⟨g, 0, none⟩) n c xs :: L') → W.cell? ⟨g, k * 5, none⟩ = some (.string snm) ∧ W.cell? ⟨g, k * 5 + 1, none⟩ = some (.int .i64 skind) ∧ W.cell? ⟨g, k * 5 + 2, none⟩ = some (.int .i64 spart) ∧ W.cell? ⟨g, k * 5 + 3, none⟩ = some (.slice kA q kc) ∧ W.cell? ⟨g, k * 5 + 4, none⟩ = some (.slice nA p nc)) := fun W L' h =>
                ⟨(h.rowAt (j := k * 5) G.out.1).1, (h.rowAt (j := k * 5 + 1) G.out.2.1).1, (h.rowAt (j := k * 5 + 2) G.out.2.2.1).1, (h.rowAt (j := k * 5 + 3) G.out.2.2.2.1).1, (h.rowAt (j := k * 5 + 4) G.out.2.2.2.2).1⟩
              have HFR : Hid (∀ W L' (j : Nat) (v : Value), xs[j]? = some v → Sat w0 W (Row 35 5 (some ⟨g, 0, none⟩) n c xs :: L') → W.frozen? ⟨g, j, none⟩ = false) := fun W L' j v hv h => (h.rowAt hv).2
              have HZL := Lib.hid hzl
              clear hT hT2 hyl hzl
              go_upto_region 14 with (first
                | (at_builtin; refine wpList_app1 rfl (.tmp 57) (.tmp 58) 32 rfl 9 i9 (.string ⟨#[]⟩) 1 16 Tryd.underlying32 HI9.out hz9 hs9 hb9 rfl (by decide) rfl HB.out rfl rfl HONE.out hbk.1 hbk.2 ?_; intro A3 c3n W8 hS8; obtain ⟨ag, rfl, _, _⟩ := hS8.rowCell (by simp); obtain ⟨r0, rf⟩ := hS8.rowAt (j := q) (v := .string ⟨#[111, 118, 101, 114]⟩) (by rw [List.getElem?_append_right (by rw [HZL.out]; exact Nat.le_refl _), HZL.out, Nat.sub_self]; rfl); have H8 := Lib.hid (hS8.rowSet q (.string ⟨#[97, 108, 108]⟩)).tail; clear hS8))
              obtain ⟨W9, hW9⟩ : ∃ x, x = W8.setCell ⟨ag, q, none⟩ (.string ⟨#[97, 108, 108]⟩) := ⟨_, rfl⟩
              rw [← hW9] at H8 ⊢
              obtain ⟨y0, y1, y2, y3, y4⟩ := HG35.out W9 _ H8.out.r4
              have yf0 := HFR.out W9 _ (k * 5) _ G.out.1 H8.out.r4
              have yf1 := HFR.out W9 _ (k * 5 + 1) _ G.out.2.1 H8.out.r4
              have yf2 := HFR.out W9 _ (k * 5 + 2) _ G.out.2.2.1 H8.out.r4
              have yf3 := HFR.out W9 _ (k * 5 + 3) _ G.out.2.2.2.1 H8.out.r4
              have yf4 := HFR.out W9 _ (k * 5 + 4) _ G.out.2.2.2.2 H8.out.r4
              have z1 := H8.out.r3.blk.cell 1
              have HX := Lib.hid (((((H8.out.r4.rowSet (k * 5) (.string wText)).rowSet (k * 5 + 1) (.int .i64 0)).rowSet (k * 5 + 2) (.int .i64 0)).rowSet (k * 5 + 3) (.slice none 0 0)).rowSet (k * 5 + 4) (.slice none 0 0))
              clear hW9 r0 rf x1 c3 c4 H8 HB HG35 HFR
              go_wp2_with fail
              go_roundw
              case rel =>
                have h := HX.out
                rw [HXS.out, HM.out] at h
                exact ⟨k + 1, by rw [HN.out]; omega, by go_num, by rw [HN.out]; exact h.r4.r3.tail⟩
              case measure => simp [intOf]; omega
    · obtain rfl : k = n := by omega
      have x1 := hS.blk.cell 1
      have HB := Lib.hid (hS.r2.new #[.string ⟨#[111, 118, 101, 114]⟩, .int .i64 0, .int .i64 0, .slice none 0 0, .slice none 0 0] 35)
      have hbk : k + 1 ≤ maxLen ∧ (k + 1) * 80 ≤ 140737488355328 := by unfold maxLen; omega
      have HONE : Hid (∀ u ∈ (#[.string ⟨#[111, 118, 101, 114]⟩, .int .i64 0, .int .i64 0, .slice none 0 0, .slice none 0 0] : Array Value).toList, u.oneCell' = true) := vs_one ⟨⟨#[111, 118, 101, 114]⟩, 0, 0, [], [], none, 0, none, 0⟩
      have HLEN : Hid ((#[.string ⟨#[111, 118, 101, 114]⟩, .int .i64 0, .int .i64 0, .slice none 0 0, .slice none 0 0] : Array Value).toList.length = 5) := rfl
      have HZC : Hid ((Value.agg #[.string ⟨#[]⟩, .int .i64 0, .int .i64 0, .slice none 0 0, .slice none 0 0]).cells.size = 5) := rfl
      have HRL : Hid ((wrC k S).length = k * 5) := by
        show _ = _
        unfold wrC
        rw [List.length_append, wrep_len, stepsC_len, List.length_drop, HN.out, Nat.sub_self]
        omega
      clear hS
      go_wp2_with (first
        | (refine wpList_bs35 rfl 72 rfl (.string ⟨#[111, 118, 101, 114]⟩) (.int .i64 0) (.int .i64 0) (.slice none 0 0) (.slice none 0 0) rfl ?_)
        | (at_builtin; refine wpList_app1 rfl (.tmp 71) (.tmp 73) 22 rfl 35 i35 _ 5 80 Tryd.underlying22 HI35.out hz35 hs35 hb35 HZC.out (by decide) rfl HB.out rfl HLEN.out HONE.out hbk.1 hbk.2 ?_; intro A3 c3n W8 hS8; obtain ⟨ag, rfl, _, _⟩ := hS8.rowCell (by simp); obtain ⟨r0, rf⟩ := hS8.rowAt (j := k * 5 + 1) (v := .int .i64 0) (by rw [List.getElem?_append_right (by rw [HRL.out]; omega), HRL.out, show k * 5 + 1 - k * 5 = 1 by omega]; rfl); have H8 := Lib.hid (hS8.rowSet (k * 5 + 1) (.int .i64 9)).tail; clear hS8))
      go_end0
      exact ⟨rfl, H8.out.tail.tail⟩
end Go.Proofs.YtpmoanjeoaeabaaDoor
