/- The walk of LocksAll. -/
import Derived.Test.YtbgbpibfmdkndaaDoorLS
set_option linter.unusedVariables false
set_option linter.unusedSimpArgs false
set_option linter.unnecessarySimpa false
set_option maxRecDepth 100000
namespace Go.Proofs.YtbgbpibfmdkndaaDoor
open Go.RowKit Go.ChangeShapes Go.WideShapes Go.ChangeAt
def AllRel (W : World) (n : Nat) (i : Value) (wr : World) : Prop := ∃ k : Nat, k ≤ n ∧ i = .int .i64 k ∧ wr = W
section
variable {w w0 : World} {F : List HP} {A Ak : Option Addr} {c ck : Nat}
set_option maxHeartbeats 6400000 in
theorem all_any {l : List LOp} (inst : Int) {keys : List ByteArray} (hT0 : Lib.Utf8Tabs 0 1 w0) (hO : Old w0 ∈ F) (hE : OpsAt w0 A c l) (hb : bulkO l ≤ 1048576) (hi : wf64 inst)
    (hK : KsAt w0 Ak keys) (hk : KeysOk keys) (hS : Sat w0 w F) :
    Calls Tryd.prog 4 #[.slice A l.length c, .int .i64 inst, .slice Ak keys.length ck] w fun e w' => e = .returned (.bool true) ∧ Sat w0 w' F := by
  have HP := Lib.hid (plays_any hT0 hO hE hb hS)
  have HPL := plays_len l
  have HD := Lib.hid (plays_ok l)
  have hDl : (playsE l).length ≤ 1048579 := by omega
  obtain ⟨n, hn⟩ : ∃ n, l.length = n := ⟨_, rfl⟩
  rw [hn] at HP ⊢
  obtain ⟨D, hDD⟩ : ∃ D, playsE l = D := ⟨_, rfl⟩
  rw [hDD] at HP HD hDl
  have HDL := Lib.hid hDl
  have HKF : Hid (∀ G, Old w0 ∈ G → KeysF w0 G Ak keys) := fun G h => hK.kf h
  have HKK := Lib.hid hk
  have HO := Lib.hid hO
  have HC21 : Hid (∀ W, Calls Tryd.prog 21 #[.int .i64 inst] W fun e w' => e = .returned (.int .i64 (smN inst : Nat)) ∧ w' = W) := fun W => small_any inst W hi
  obtain ⟨sm, hsm⟩ : ∃ v, smN inst = v := ⟨_, rfl⟩
  have hsm1 := small_in inst
  rw [hsm] at HC21 hsm1
  have HSM := Lib.hid hsm1
  obtain ⟨s, y, D', hT⟩ : ∃ r y E', takeE D (sm : Int) keys = (r, y, E') := ⟨_, _, _, rfl⟩
  have HT := Lib.hid hT
  have HD' : Hid (TabOk D') := by
    have h := take_ok (inst := (sm : Int)) (keys := keys) HD.out
    rw [hT] at h
    exact h
  have HDL' : Hid (D'.length ≤ 4194304) := by
    have h := take_len (D := D) (inst := (sm : Int)) (keys := keys)
    rw [hT] at h
    have h2 : D'.length ≤ D.length + keys.length := h
    have h3 := HKK.out.len
    show _ ≤ _
    omega
  have HW : Hid (∀ G W, Old w0 ∈ G → ∀ tb, Sat w0 W (TabP tb D :: G) → Calls Tryd.prog 22 #[.pointer (some ⟨tb, 0, none⟩)] W fun e w' => ∃ A2 c2, e = .returned (.tuple #[.slice A2 (wholeT D 6).length c2, .bool true]) ∧ Sat w0 w' (Row 9 1 A2 (wholeT D 6).length c2 (strV (wholeT D 6)) :: TabP tb D :: G)) :=
    fun G W h tb hs => whole_any HD.out (by have := HDL.out; omega) h hT0 hs
  have HW' : Hid (∀ G W, Old w0 ∈ G → ∀ tb, Sat w0 W (TabP tb D' :: G) → Calls Tryd.prog 22 #[.pointer (some ⟨tb, 0, none⟩)] W fun e w' => ∃ A2 c2, e = .returned (.tuple #[.slice A2 (wholeT D' 6).length c2, .bool true]) ∧ Sat w0 w' (Row 9 1 A2 (wholeT D' 6).length c2 (strV (wholeT D' 6)) :: TabP tb D' :: G)) :=
    fun G W h tb hs => whole_any HD'.out HDL'.out h hT0 hs
  have HH : Hid (∀ G W, Old w0 ∈ G → ∀ tb, Sat w0 W (TabP tb D :: G) → Calls Tryd.prog 18 #[.pointer (some ⟨tb, 0, none⟩), .int .i64 sm] W fun e w' => ∃ A2 c2, e = .returned (.slice A2 (heldE D sm).length c2) ∧ Sat w0 w' (Row 9 1 A2 (heldE D sm).length c2 (strV (heldE D sm)) :: TabP tb D :: G)) :=
    fun G W h tb hs => held_any HD.out (by have := HDL.out; omega) sm h hT0 hs
  have HH' : Hid (∀ G W, Old w0 ∈ G → ∀ tb, Sat w0 W (TabP tb D' :: G) → Calls Tryd.prog 18 #[.pointer (some ⟨tb, 0, none⟩), .int .i64 sm] W fun e w' => ∃ A2 c2, e = .returned (.slice A2 (heldE D' sm).length c2) ∧ Sat w0 w' (Row 9 1 A2 (heldE D' sm).length c2 (strV (heldE D' sm)) :: TabP tb D' :: G)) :=
    fun G W h tb hs => held_any HD'.out HDL'.out sm h hT0 hs
  have HC9 : Hid (∀ G W, Old w0 ∈ G → Sat w0 W G → Calls Tryd.prog 9 #[.slice Ak keys.length ck] W fun e w' => ∃ A' c', e = .returned (.slice A' keys.length c') ∧ Sat w0 w' (Row 9 1 A' keys.length c' (strV keys) :: G)) :=
    fun G W h hs => copied_any ((HKF.out G h).ks (L := []) hs) HKK.out.len hs
  have HC10 : Hid (∀ G A' c' tb W, Sat w0 W (Row 9 1 A' keys.length c' (strV keys) :: TabP tb D :: G) → Calls Tryd.prog 10 #[.pointer (some ⟨tb, 0, none⟩), .int .i64 sm, .slice A' keys.length c'] W fun e w' => e = .returned (.tuple #[.string s, .bool y]) ∧ Sat w0 w' (TabP tb D' :: G)) := fun G A' c' tb W h => by
    have h2 : Sat w0 W (Row 9 1 A' keys.length c' (strV keys) :: G) := h.r2.tail
    have h3 := take_any (c := c') HD.out (sm : Int) HKK.out h2.rowKF h.r2
    rw [HT.out] at h3
    refine h3.mono ?_
    rintro e w' ⟨rfl, h4⟩
    exact ⟨rfl, h4.r2.tail⟩
  have hhl := held_len D sm
  have hhl' := held_len D' sm
  have hwl := whole_len D 6
  have hwl' := whole_len D' 6
  have hx1 := HDL.out
  have hx2 := HDL'.out
  have HWL : Hid ((wholeT D 6).length ≤ 140737488351232) := by show _ ≤ _; omega
  have HHL : Hid ((heldE D sm).length ≤ 4194304) := by show _ ≤ _; omega
  have HHL' : Hid ((heldE D' sm).length ≤ 4194304) := by show _ ≤ _; omega
  clear hhl hhl' hwl hwl' hx1 hx2
  obtain ⟨T, hTT⟩ : ∃ T, wholeT D 6 = T := ⟨_, rfl⟩
  obtain ⟨T', hTT'⟩ : ∃ T, wholeT D' 6 = T := ⟨_, rfl⟩
  obtain ⟨H, hHH⟩ : ∃ T, heldE D sm = T := ⟨_, rfl⟩
  obtain ⟨H', hHH'⟩ : ∃ T, heldE D' sm = T := ⟨_, rfl⟩
  obtain ⟨nT, hnT⟩ : ∃ T', T.length = T' := ⟨_, rfl⟩
  obtain ⟨nT', hnT'⟩ : ∃ q, T'.length = q := ⟨_, rfl⟩
  obtain ⟨nH, hnH⟩ : ∃ T', H.length = T' := ⟨_, rfl⟩
  obtain ⟨nH', hnH'⟩ : ∃ T', H'.length = T' := ⟨_, rfl⟩
  obtain ⟨nk, hnk⟩ : ∃ T', keys.length = T' := ⟨_, rfl⟩
  have HN1 := Lib.hid hnT
  have HN2 := Lib.hid hnH
  have HN3 := Lib.hid hnH'
  have HN4 := Lib.hid hnk
  have HE2 := Lib.hid hHH
  have HE3 := Lib.hid hHH'
  rw [hTT, hnT] at HW HWL
  rw [hTT', hnT'] at HW'
  rw [hHH, hnH] at HH HHL
  rw [hHH', hnH'] at HH' HHL'
  rw [hnk] at HC9 HC10 ⊢
  have hnk1 : nk ≤ 1048576 := by have := HKK.out.len; omega
  cases y with
  | false =>
    have hno := take_no hT
    have hDD' : D' = D := hno.1
    subst hDD'
    have htt : T' = T := by rw [← hTT, hTT']
    subst htt
    have hnn : nT' = nT := by rw [← hnT, hnT']
    subst hnn
    have HNO := Lib.hid hno.2
    clear HPL hDl hn hDD hK hk hO hE hb hi hT0 hS hsm hsm1 hT hTT hTT' hHH hHH' hnT hnT' hnH hnH' hnk hno HH' HW'
    go_enter Tryd.func4, Tryd.ntmps4
    go_wp2_with fail
    refine HP.out.mono ?_
    rintro e w1 ⟨tb, rfl, h1⟩
    have H1 := Lib.hid h1
    clear h1 HP
    go_wp2_with fail
    refine (HC21.out _).mono ?_
    rintro e wz ⟨rfl, rfl⟩
    go_wp2_with fail
    refine (HW.out F _ HO.out tb H1.out).mono ?_
    rintro e w2 ⟨A2, c2, rfl, h2⟩
    have H2 := Lib.hid h2.r2
    clear h2 H1
    go_wp2_with fail
    refine (HH.out _ _ (List.mem_cons_of_mem _ HO.out) tb H2.out).mono ?_
    rintro e w3 ⟨A3, c3, rfl, h3⟩
    have H3 := Lib.hid h3.r2
    clear h3 H2
    go_wp2_with fail
    refine (HC9.out _ _ (by simp [HO.out]) H3.out).mono ?_
    rintro e w4 ⟨A4, c4, rfl, h4⟩
    have H4 := Lib.hid h4
    clear h4 H3
    go_wp2_with fail
    refine (HC10.out _ _ _ tb _ H4.out).mono ?_
    rintro e w5 ⟨rfl, h5⟩
    have H5 := Lib.hid h5
    clear h5 H4
    go_wp2_with fail
    refine (HW.out _ _ (by simp [HO.out]) tb H5.out).mono ?_
    rintro e w6 ⟨A6, c6, rfl, h6⟩
    have H6 := Lib.hid h6
    clear H5
    have HK1 : Hid (KsAt w6 A2 T') := h6.r4.rowKs
    have HK2 : Hid (KsAt w6 A6 T') := h6.rowKs
    have HK3 : Hid (KsAt w6 Ak keys) := (HKF.out F HO.out).ks (L := [_, _, _, _]) h6
    have HTB : Hid (Sat w0 w6 (TabP tb D' :: F)) := h6.tail.r2.tail.r2.tail
    have HS12 : Hid (Calls Tryd.prog 12 #[.slice A2 nT' c2, .slice A6 nT' c6] w6 fun e w' => e = .returned (.bool true) ∧ ∃ n, w' = w6.drewN n) := by
      have h := same_any (c := c2) (e := c6) HK1.out HK2.out (by rw [HN1.out]; exact HWL.out) (by rw [HN1.out]; exact HWL.out)
      rw [HN1.out] at h
      refine h.mono ?_
      rintro e w' ⟨rfl, h2⟩
      exact ⟨by rw [decide_eq_true rfl], h2⟩
    clear h6 H6
    by_cases hs0 : s = ⟨#[]⟩
    · have t1 : s.toList.isEmpty = true := empty_yes s (by rw [hs0]; rfl)
      clear hs0
      go_wp2_with fail
      refine HS12.out.mono ?_
      rintro e w7 ⟨rfl, q, rfl⟩
      go_wp2_with fail
      go_ret
      exact ⟨rfl, (HTB.out.tail).drewN q⟩
    · have t1 : s.toList.isEmpty = false := empty_no s (fun h => hs0 (ByteArray.ext (Array.eq_empty_of_size_eq_zero h)))
      obtain ⟨hm, hv0, hvs⟩ := HNO.out.resolve_left hs0
      have HHAS : Hid (∀ q, Calls Tryd.prog 23 #[.slice Ak nk ck, .string s] (w6.drewN q) fun e w' => e = .returned (.bool true) ∧ w' = w6.drewN q) := fun q => by
        have h := has_any (c := ck) s (HK3.out.drewN q) (by rw [HN4.out]; omega)
        rw [hasB_iff.2 hm, HN4.out] at h
        exact h
      have HHOL : Hid (∀ q, Calls Tryd.prog 16 #[.pointer (some ⟨tb, 0, none⟩), .string s] (w6.drewN q) fun e w' => e = .returned (.int .i64 (valE D' s)) ∧ w' = w6.drewN q) := fun q => holder_any HD.out s (HTB.out.drewN q)
      obtain ⟨v, hv⟩ : ∃ v, valE D' s = v := ⟨_, rfl⟩
      rw [hv] at hv0 hvs HHOL
      have b0 : (v != 0) = true := by simp [hv0]
      have b1 : (v != (sm : Int)) = true := by simp [hvs]
      clear hs0 hm hv0 hvs hv
      go_wp2_with fail
      refine HS12.out.mono ?_
      rintro e w7 ⟨rfl, q, rfl⟩
      go_wp2_with fail
      refine (HHAS.out q).mono ?_
      rintro e w8 ⟨rfl, rfl⟩
      go_wp2_with fail
      refine (HHOL.out q).mono ?_
      rintro e w8 ⟨rfl, rfl⟩
      go_wp2_with fail
      refine (HHOL.out q).mono ?_
      rintro e w8 ⟨rfl, rfl⟩
      go_wp2_with fail
      go_ret
      exact ⟨rfl, (HTB.out.tail).drewN q⟩
  | true =>
    have hto := take_yes hT
    obtain ⟨q1, q2, q3⟩ := hto.val HD.out
    have hse : s = ⟨#[]⟩ := hto.s
    subst hse
    have HV1 := Lib.hid q1
    have HV2 := Lib.hid q2
    have HV3 := Lib.hid q3
    have hsp : ((sm : Nat) : Int) ≠ 0 := by omega
    have HM1 : Hid (∀ x, x ∈ H ↔ True ∧ valE D x = sm) := fun x => by rw [← HE2.out, HD.out.held_iff hsp]; simp
    have HM2 : Hid (∀ x, x ∈ H' ↔ valE D' x = sm) := fun x => by rw [← HE3.out, HD'.out.held_iff hsp]
    clear HPL hDl hn hDD hK hk hO hE hb hi hT0 hS hsm hT hTT hTT' hHH hHH' hnT hnT' hnH hnH' hnk hto q1 q2 q3 hsp
    go_enter Tryd.func4, Tryd.ntmps4
    go_wp2_with fail
    refine HP.out.mono ?_
    rintro e w1 ⟨tb, rfl, h1⟩
    have H1 := Lib.hid h1
    clear h1 HP
    go_wp2_with fail
    refine (HC21.out _).mono ?_
    rintro e wz ⟨rfl, rfl⟩
    go_wp2_with fail
    refine (HW.out F _ HO.out tb H1.out).mono ?_
    rintro e w2 ⟨A2, c2, rfl, h2⟩
    have H2 := Lib.hid h2.r2
    clear h2 H1
    go_wp2_with fail
    refine (HH.out _ _ (List.mem_cons_of_mem _ HO.out) tb H2.out).mono ?_
    rintro e w3 ⟨A3, c3, rfl, h3⟩
    have H3 := Lib.hid h3.r2
    clear h3 H2
    go_wp2_with fail
    refine (HC9.out _ _ (by simp [HO.out]) H3.out).mono ?_
    rintro e w4 ⟨A4, c4, rfl, h4⟩
    have H4 := Lib.hid h4
    clear h4 H3
    go_wp2_with fail
    refine (HC10.out _ _ _ tb _ H4.out).mono ?_
    rintro e w5 ⟨rfl, h5⟩
    have H5 := Lib.hid h5
    clear h5 H4
    go_wp2_with fail
    refine (HW'.out _ _ (by simp [HO.out]) tb H5.out).mono ?_
    rintro e w6 ⟨A6, c6, rfl, h6⟩
    have H6 := Lib.hid h6
    clear H5
    go_wp2_with fail
    refine (HH'.out _ _ (by simp [HO.out]) tb H6.out.r2).mono ?_
    rintro e w7 ⟨A7, c7, rfl, h7⟩
    have HKn : Hid (KsAt w7 A7 H') := h7.rowKs
    have HKh : Hid (KsAt w7 A3 H) := h7.r4.rowKs
    have HKk : Hid (KsAt w7 Ak keys) := (HKF.out F HO.out).ks (L := [_, _, _, _, _]) h7
    have HTB : Hid (Sat w0 w7 (TabP tb D' :: F)) := h7.tail.r2.tail.r2.tail.r2.tail
    have HHOL : Hid (∀ x, Calls Tryd.prog 16 #[.pointer (some ⟨tb, 0, none⟩), .string x] w7 fun e w' => e = .returned (.int .i64 (valE D' x)) ∧ w' = w7) := fun x => holder_any HD'.out x HTB.out
    have HS7 : Hid (∀ x, Calls Tryd.prog 23 #[.slice A7 nH' c7, .string x] w7 fun e w' => e = .returned (.bool (hasB H' x)) ∧ w' = w7) := fun x => by
      have h := has_any (c := c7) x HKn.out (by rw [HN3.out]; exact HHL'.out)
      rw [HN3.out] at h
      exact h
    have HS3 : Hid (∀ x, Calls Tryd.prog 23 #[.slice A3 nH c3, .string x] w7 fun e w' => e = .returned (.bool (hasB H x)) ∧ w' = w7) := fun x => by
      have h := has_any (c := c3) x HKh.out (by rw [HN2.out]; exact HHL.out)
      rw [HN2.out] at h
      exact h
    have HSk : Hid (∀ x, Calls Tryd.prog 23 #[.slice Ak nk ck, .string x] w7 fun e w' => e = .returned (.bool (hasB keys x)) ∧ w' = w7) := fun x => by
      have h := has_any (c := ck) x HKk.out (by rw [HN4.out]; omega)
      rw [HN4.out] at h
      exact h
    have HNL : Hid (nH ≤ 4194304 ∧ nH' ≤ 4194304) := by
      refine ⟨?_, ?_⟩
      · have h := HHL.out; exact h
      · have h := HHL'.out; exact h
    clear h7 H6 HHL HHL' HWL
    go_wp2_with fail
    go_loopw [16] (AllRel w7 nk) (fun i _ => nk - (intOf i).toNat)
    case atStart => exact ⟨0, Nat.zero_le _, rfl, rfl⟩
    case round =>
      obtain ⟨k, hk, rfl, rfl⟩ := hrel
      by_cases hkl : k < nk
      · obtain ⟨x, hx⟩ : ∃ x, keys[k]? = some x := ⟨_, List.getElem?_eq_getElem (by rw [HN4.out]; exact hkl)⟩
        obtain ⟨kb, ks, rfl, hkc⟩ := HKk.out.resolve_left (by rintro rfl; simp at hx)
        have k0 := hkc k x hx
        have hv := HV1.out x (List.mem_of_getElem? hx)
        have HC1 := Lib.hid (HHOL.out x)
        have HC2 := Lib.hid (HS7.out x)
        rw [hv] at HC1
        rw [hasB_iff.2 ((HM2.out x).2 hv)] at HC2
        have b1 : ((sm : Int) != (sm : Int)) = false := by simp
        clear hkc hx hv
        go_wp2_with fail
        refine HC1.out.mono ?_
        rintro e w8 ⟨rfl, rfl⟩
        go_wp2_with fail
        refine HC2.out.mono ?_
        rintro e w8 ⟨rfl, rfl⟩
        go_wp2_with fail
        go_roundw
        case rel => exact ⟨k + 1, by omega, by go_num, rfl⟩
        case measure => simp [intOf]; omega
      · obtain rfl : k = nk := by omega
        clear hkl
        go_wp2_with fail
        go_loopw [17] (AllRel wr nH) (fun i _ => nH - (intOf i).toNat)
        case atStart => exact ⟨0, Nat.zero_le _, rfl, rfl⟩
        case round =>
          obtain ⟨m, hm, rfl, rfl⟩ := hrel
          have hnl := HNL.out
          by_cases hml : m < nH
          · obtain ⟨x, hx⟩ : ∃ x, H[m]? = some x := ⟨_, List.getElem?_eq_getElem (by rw [HN2.out]; exact hml)⟩
            obtain ⟨kb, ks, rfl, hkc⟩ := HKh.out.resolve_left (by rintro rfl; simp at hx)
            have k0 := hkc m x hx
            have hv := HV2.out x ((HM1.out x).1 (List.mem_of_getElem? hx)).2
            have HC2 := Lib.hid (HS7.out x)
            rw [hasB_iff.2 ((HM2.out x).2 hv)] at HC2
            clear hkc hx hv
            go_wp2_with fail
            refine HC2.out.mono ?_
            rintro e w8 ⟨rfl, rfl⟩
            go_wp2_with fail
            go_roundw
            case rel => exact ⟨m + 1, by omega, by go_num, rfl⟩
            case measure => simp [intOf]; omega
          · obtain rfl : m = nH := by omega
            clear hml
            go_wp2_with fail
            go_loopw [18] (AllRel wr nH') (fun i _ => nH' - (intOf i).toNat)
            case atStart => exact ⟨0, Nat.zero_le _, rfl, rfl⟩
            case round =>
              obtain ⟨u, hu, rfl, rfl⟩ := hrel
              by_cases hul : u < nH'
              · obtain ⟨x, hx⟩ : ∃ x, H'[u]? = some x := ⟨_, List.getElem?_eq_getElem (by rw [HN3.out]; exact hul)⟩
                obtain ⟨kb, ks, rfl, hkc⟩ := HKn.out.resolve_left (by rintro rfl; simp at hx)
                have k0 := hkc u x hx
                have hv := HV3.out x ((HM2.out x).1 (List.mem_of_getElem? hx))
                have HC1 := Lib.hid (HS3.out x)
                have HC2 := Lib.hid (HSk.out x)
                by_cases hd : valE D x = sm
                · rw [hasB_iff.2 ((HM1.out x).2 ⟨trivial, hd⟩)] at HC1
                  clear hkc hx hv hd
                  go_wp2_with fail
                  refine HC1.out.mono ?_
                  rintro e w8 ⟨rfl, rfl⟩
                  go_wp2_with fail
                  go_roundw
                  case rel => exact ⟨u + 1, by omega, by go_num, rfl⟩
                  case measure => simp [intOf]; omega
                · rw [hasB_no (fun g => hd ((HM1.out x).1 g).2)] at HC1
                  rw [hasB_iff.2 (hv.resolve_left hd)] at HC2
                  clear hkc hx hv hd
                  go_wp2_with fail
                  refine HC1.out.mono ?_
                  rintro e w8 ⟨rfl, rfl⟩
                  go_wp2_with fail
                  refine HC2.out.mono ?_
                  rintro e w8 ⟨rfl, rfl⟩
                  go_wp2_with fail
                  go_roundw
                  case rel => exact ⟨u + 1, by omega, by go_num, rfl⟩
                  case measure => simp [intOf]; omega
              · obtain rfl : u = nH' := by omega
                clear hul
                go_wp2_with fail
                go_ret
                exact ⟨rfl, HTB.out.tail⟩
end
end Go.Proofs.YtbgbpibfmdkndaaDoor
