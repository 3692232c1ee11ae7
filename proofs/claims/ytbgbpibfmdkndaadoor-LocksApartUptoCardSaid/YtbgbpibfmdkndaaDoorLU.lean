/- The walk of LocksBack. -/
import Derived.Test.YtbgbpibfmdkndaaDoorLS
import Derived.Deep.RegionHeld3
set_option linter.unusedVariables false
set_option linter.unusedSimpArgs false
set_option linter.unnecessarySimpa false
set_option maxRecDepth 100000
namespace Go.Proofs.YtbgbpibfmdkndaaDoor
open Go.RowKit Go.ChangeShapes Go.WideShapes Go.ChangeAt
theorem drop_back {D D' : List Ent} {i : Int} {keys : List ByteArray} {s : ByteArray} {y : Bool} (hD : TabOk D) (h : takeE (dropE D i) i keys = (s, y, D')) :
    dropE D' i = dropE D i ∧ (y = false → (heldE D' i).length = 0) ∧ (y = true → (heldE D' i).length = cntU keys keys.length) := by
  cases y with
  | false =>
    have hd := (take_no h).1
    subst hd
    exact ⟨drop_drop D i, fun _ => by rw [held_drop]; rfl, fun h => by cases h⟩
  | true =>
    have ht := take_yes h
    have he := ht.eq
    subst he
    refine ⟨by rw [drop_taken, drop_drop], fun h => by (cases h), fun _ => ?_⟩
    have hf : ∀ k ∈ keys, valE (dropE D i) k = 0 := fun k hk => by
      rcases ht.free k hk with h0 | h0
      · exact h0
      · have h1 := ((hD.drop i).held_iff (by have := ht.pos; omega)).2 h0
        rw [held_drop] at h1
        cases h1
    have h1 := cnt_taken (hD.drop i) ht.pos ht.name hf (held_drop D i) keys.length (Nat.le_refl _)
    rw [List.take_length] at h1
    exact h1
def BkRel (w0 : World) (G : List HP) (keys : List ByteArray) (n : Nat) (u i : Value) (wr : World) : Prop := ∃ k : Nat, k ≤ n ∧ i = .int .i64 k ∧ u = .int .i64 (cntU keys k : Nat) ∧ Sat w0 wr G
section
variable {w w0 : World} {F : List HP} {A Ak : Option Addr} {c ck : Nat}
set_option maxHeartbeats 6400000 in
theorem back_any {l : List LOp} (inst : Int) {keys : List ByteArray} (hT0 : Lib.Utf8Tabs 0 1 w0) (hO : Old w0 ∈ F) (hE : OpsAt w0 A c l) (hb : bulkO l ≤ 1048576) (hi : wf64 inst)
    (hK : KsAt w0 Ak keys) (hk : KeysOk keys) (hkc : keys.length ≤ ck) (hS : Sat w0 w F) :
    Calls Tryd.prog 5 #[.slice A l.length c, .int .i64 inst, .slice Ak keys.length ck] w fun e w' => e = .returned (.bool true) ∧ Sat w0 w' F := by
  have HP := Lib.hid (plays_any hT0 hO hE hb hS)
  have HPL := plays_len l
  have HD := Lib.hid (plays_ok l)
  have hDl : (playsE l).length ≤ 1048579 := by omega
  obtain ⟨n, hn⟩ : ∃ n, l.length = n := ⟨_, rfl⟩
  rw [hn] at HP ⊢
  obtain ⟨D, hDD⟩ : ∃ D, playsE l = D := ⟨_, rfl⟩
  rw [hDD] at HP HD hDl
  have HDL := Lib.hid hDl
  have HKF : Hid (∀ G, Old w0 ∈ G → KeysF w0 G Ak keys) := fun G h => hK.kf h
  have HKK := Lib.hid hk
  have HO := Lib.hid hO
  have HC21 : Hid (∀ W, Calls Tryd.prog 21 #[.int .i64 inst] W fun e w' => e = .returned (.int .i64 (smN inst : Nat)) ∧ w' = W) := fun W => small_any inst W hi
  obtain ⟨sm, hsm⟩ : ∃ v, smN inst = v := ⟨_, rfl⟩
  have hsm1 := small_in inst
  rw [hsm] at HC21 hsm1
  have HSM := Lib.hid hsm1
  obtain ⟨s, y, D1, hT⟩ : ∃ r y E', takeE (dropE D sm) (sm : Int) keys = (r, y, E') := ⟨_, _, _, rfl⟩
  have HT := Lib.hid hT
  obtain ⟨hq1, hq2, hq3⟩ := drop_back HD.out hT
  have HQ2 := Lib.hid hq2
  have HQ3 := Lib.hid hq3
  have HC14a : Hid (∀ G tb W, Sat w0 W (TabP tb D :: G) → Calls Tryd.prog 14 #[.pointer (some ⟨tb, 0, none⟩), .int .i64 sm] W fun e w' => e = .returned (.int .i64 (heldE D sm).length) ∧ Sat w0 w' (TabP tb (dropE D sm) :: G)) :=
    fun G tb W h => drop_any HD.out (by have := HDL.out; omega) sm h
  have hdl := drop_len D sm
  obtain ⟨D0, hD0⟩ : ∃ x, dropE D sm = x := ⟨_, rfl⟩
  have hE0 : heldE D0 sm = [] := by rw [← hD0]; exact held_drop D sm
  have hDD0 : dropE D0 sm = D0 := by rw [← hD0]; exact drop_drop D sm
  rw [hD0] at HC14a hdl hq1 HT
  have HOK0 : Hid (TabOk D0) := by rw [← hD0]; exact HD.out.drop _
  have HL0 : Hid (D0.length ≤ 1048579) := by show _ ≤ _; omega
  have HOK1 : Hid (TabOk D1) := by
    have h := take_ok (inst := (sm : Int)) (keys := keys) HOK0.out
    rw [HT.out] at h
    exact h
  have HL1 : Hid (D1.length ≤ 4194304) := by
    have h := take_len (D := D0) (inst := (sm : Int)) (keys := keys)
    rw [HT.out] at h
    have h2 : D1.length ≤ D0.length + keys.length := h
    have h3 := HKK.out.len
    have h4 := HL0.out
    show _ ≤ _
    omega
  have HC14b : Hid (∀ G tb W, Sat w0 W (TabP tb D1 :: G) → Calls Tryd.prog 14 #[.pointer (some ⟨tb, 0, none⟩), .int .i64 sm] W fun e w' => e = .returned (.int .i64 (heldE D1 sm).length) ∧ Sat w0 w' (TabP tb D0 :: G)) := fun G tb W h => by
    have h2 := drop_any HOK1.out HL1.out sm h
    rw [hq1] at h2
    exact h2
  have HC14c : Hid (∀ G tb W, Sat w0 W (TabP tb D0 :: G) → Calls Tryd.prog 14 #[.pointer (some ⟨tb, 0, none⟩), .int .i64 sm] W fun e w' => e = .returned (.int .i64 0) ∧ Sat w0 w' (TabP tb D0 :: G)) := fun G tb W h => by
    have h2 := drop_any HOK0.out (by have := HL0.out; omega) sm h
    rw [hE0, hDD0] at h2
    exact h2
  have HW : Hid (∀ G W, Old w0 ∈ G → ∀ tb, Sat w0 W (TabP tb D0 :: G) → Calls Tryd.prog 22 #[.pointer (some ⟨tb, 0, none⟩)] W fun e w' => ∃ A2 c2, e = .returned (.tuple #[.slice A2 (wholeT D0 6).length c2, .bool true]) ∧ Sat w0 w' (Row 9 1 A2 (wholeT D0 6).length c2 (strV (wholeT D0 6)) :: TabP tb D0 :: G)) :=
    fun G W h tb hs => whole_any HOK0.out (by have := HL0.out; omega) h hT0 hs
  have HH : Hid (∀ G W, Old w0 ∈ G → ∀ tb, Sat w0 W (TabP tb D1 :: G) → Calls Tryd.prog 18 #[.pointer (some ⟨tb, 0, none⟩), .int .i64 sm] W fun e w' => ∃ A2 c2, e = .returned (.slice A2 (heldE D1 sm).length c2) ∧ Sat w0 w' (TabP tb D1 :: G)) :=
    fun G W h tb hs => by
      refine (held_any HOK1.out HL1.out sm h hT0 hs).mono ?_
      rintro e w' ⟨A2, c2, rfl, h2⟩
      exact ⟨A2, c2, rfl, h2.tail⟩
  have HC9 : Hid (∀ G W, Old w0 ∈ G → Sat w0 W G → Calls Tryd.prog 9 #[.slice Ak keys.length ck] W fun e w' => ∃ A' c', e = .returned (.slice A' keys.length c') ∧ Sat w0 w' (Row 9 1 A' keys.length c' (strV keys) :: G)) :=
    fun G W h hs => copied_any ((HKF.out G h).ks (L := []) hs) HKK.out.len hs
  have HC10 : Hid (∀ G A' c' tb W, Sat w0 W (Row 9 1 A' keys.length c' (strV keys) :: TabP tb D0 :: G) → Calls Tryd.prog 10 #[.pointer (some ⟨tb, 0, none⟩), .int .i64 sm, .slice A' keys.length c'] W fun e w' => e = .returned (.tuple #[.string s, .bool y]) ∧ Sat w0 w' (TabP tb D1 :: G)) := fun G A' c' tb W h => by
    have h2 : Sat w0 W (Row 9 1 A' keys.length c' (strV keys) :: G) := h.r2.tail
    have h3 := take_any (c := c') HOK0.out (sm : Int) HKK.out h2.rowKF h.r2
    rw [HT.out] at h3
    refine h3.mono ?_
    rintro e w' ⟨rfl, h4⟩
    exact ⟨rfl, h4.r2.tail⟩
  have hhl := held_len D1 sm
  have hwl := whole_len D0 6
  have hx1 := HL0.out
  have hx2 := HL1.out
  have HWL : Hid ((wholeT D0 6).length ≤ 140737488351232) := by show _ ≤ _; omega
  obtain ⟨T, hTT⟩ : ∃ T, wholeT D0 6 = T := ⟨_, rfl⟩
  obtain ⟨nT, hnT⟩ : ∃ T', T.length = T' := ⟨_, rfl⟩
  obtain ⟨m0, hm0⟩ : ∃ x, (heldE D sm).length = x := ⟨_, rfl⟩
  obtain ⟨m1, hm1⟩ : ∃ x, (heldE D1 sm).length = x := ⟨_, rfl⟩
  obtain ⟨nk, hnk⟩ : ∃ T', keys.length = T' := ⟨_, rfl⟩
  have HN1 := Lib.hid hnT
  have HN4 := Lib.hid hnk
  rw [hTT, hnT] at HW HWL
  rw [hm0] at HC14a
  rw [hm1] at HC14b HH HQ2 HQ3
  rw [hnk] at HC9 HC10 HQ3 hkc ⊢
  have hnk1 : nk ≤ 1048576 := by have := HKK.out.len; omega
  have hm1l : m1 ≤ 4194304 := by omega
  clear HPL hDl hn hDD hK hk hO hE hb hi hT0 hS hsm hT hTT hnT hnk hq1 hq2 hq3 hdl hD0 hE0 hDD0 hhl hwl hx1 hx2 hm0 hm1 hsm1
  go_enter Tryd.func5, Tryd.ntmps5
  go_wp2_with fail
  refine HP.out.mono ?_
  rintro e w1 ⟨tb, rfl, h1⟩
  have H1 := Lib.hid h1
  clear h1 HP
  go_wp2_with fail
  refine (HC21.out _).mono ?_
  rintro e wz ⟨rfl, rfl⟩
  go_wp2_with fail
  refine (HC14a.out _ tb _ H1.out).mono ?_
  rintro e wa ⟨rfl, ha⟩
  have Ha := Lib.hid ha
  clear ha H1
  go_wp2_with fail
  refine (HW.out F _ HO.out tb Ha.out).mono ?_
  rintro e w2 ⟨A2, c2, rfl, h2⟩
  have H2 := Lib.hid h2.r2
  clear h2 Ha
  go_wp2_with fail
  refine (HC9.out _ _ (by simp [HO.out]) H2.out).mono ?_
  rintro e w4 ⟨A4, c4, rfl, h4⟩
  have H4 := Lib.hid h4
  clear h4 H2
  go_wp2_with fail
  refine (HC10.out _ _ _ tb _ H4.out).mono ?_
  rintro e w5 ⟨rfl, h5⟩
  have H5 := Lib.hid h5
  clear h5 H4
  go_wp2_with fail
  refine (HH.out _ _ (by simp [HO.out]) tb H5.out).mono ?_
  rintro e w6 ⟨A6, c6, rfl, h6⟩
  have H6 := Lib.hid h6
  clear h6 H5
  go_wp2_with fail
  go_loopw [13, 14] (BkRel w0 (TabP tb D1 :: Row 9 1 A2 nT c2 (strV T) :: F) keys nk) (fun _ i _ => nk - (intOf i).toNat)
  case atStart => exact ⟨0, Nat.zero_le _, rfl, rfl, H6.out⟩
  case round =>
    obtain ⟨k, hk, rfl, rfl, hS⟩ := hrel
    clear H6
    have hcl := cntU_le keys k
    have HSU := Lib.hid (cntU_succ keys k)
    by_cases hkl : k < nk
    · obtain ⟨x, hx⟩ : ∃ x, keys[k]? = some x := ⟨_, List.getElem?_eq_getElem (by rw [HN4.out]; exact hkl)⟩
      have hgx : keys.getD k ⟨#[]⟩ = x := by simp [hx]
      rw [hgx] at HSU
      have HKk := Lib.hid ((HKF.out F HO.out).ks (L := [_, _]) hS)
      obtain ⟨kb, ks, rfl, hkcell⟩ := HKk.out.resolve_left (by rintro rfl; simp at hx)
      have k0 := hkcell k x hx
      have HC23 : Hid (Calls Tryd.prog 23 #[.slice (some ⟨kb, ks, none⟩) k ck, .string x] wr.drew fun e w' => e = .returned (.bool (hasB (keys.take k) x)) ∧ w' = wr.drew) := by
        have h := has_any (w := wr.drew) (c := ck) x (HKk.out.take k) (by rw [List.length_take, HN4.out]; omega)
        rw [show (keys.take k).length = k by rw [List.length_take, HN4.out]; omega] at h
        exact h
      obtain ⟨u, hu⟩ : ∃ u, cntU keys k = u := ⟨_, rfl⟩
      rw [hu] at hcl HSU ⊢
      have HS := Lib.hid hS.drew
      have hck : ¬ ck = 0 := by omega
      have hkck : k ≤ ck := by omega
      have hkck2 : (k : Int) ≤ (ck : Int) := by omega
      clear hx hgx hkcell hu hS
      cases hb : hasB (keys.take k) x with
      | true =>
        rw [hb] at HC23 HSU
        go_wp2_with fail
        go_region_held3 (fun w' => w'.cell? ⟨kb, ks + k, none⟩ = some (.string x))
          (first | exact k0)
          (first | (go_at_call 23; refine HC23.out.mono ?_; rintro e w5 ⟨rfl, rfl⟩))
        all_goals
          go_wp2_with fail
          go_roundw
          case rel => exact ⟨k + 1, by omega, by go_num, by rw [HSU.out]; simp, HS.out⟩
          case measure => simp [intOf]; omega
      | false =>
        rw [hb] at HC23 HSU
        go_wp2_with fail
        go_region_held3 (fun w' => w'.cell? ⟨kb, ks + k, none⟩ = some (.string x))
          (first | exact k0)
          (first | (go_at_call 23; refine HC23.out.mono ?_; rintro e w5 ⟨rfl, rfl⟩))
        all_goals
          go_wp2_with fail
          go_roundw
          case rel => exact ⟨k + 1, by omega, by go_num, by rw [HSU.out]; simp, HS.out⟩
          case measure => simp [intOf]; omega
    · obtain rfl : k = nk := by omega
      have HS := Lib.hid hS
      obtain ⟨u, hu⟩ : ∃ u, cntU keys k = u := ⟨_, rfl⟩
      rw [hu] at HQ3 ⊢
      clear hkl hS hcl HSU hu
      cases y with
      | false =>
        obtain rfl : m1 = 0 := HQ2.out rfl
        go_wp2_with fail
        refine (HC14b.out _ tb _ HS.out).mono ?_
        rintro e w7 ⟨rfl, h7⟩
        have H7 := Lib.hid h7
        clear h7 HS
        go_wp2_with fail
        refine (HW.out _ _ (by simp [HO.out]) tb H7.out).mono ?_
        rintro e w8 ⟨A8, c8, rfl, h8⟩
        have H8 := Lib.hid h8
        have HS12 := Lib.hid (same_sat (c := c2) (e := c8) (L := T) (M := T) h8 h8.r3.rowKs h8.rowKs (by rw [HN1.out]; exact HWL.out) (by rw [HN1.out]; exact HWL.out))
        rw [HN1.out, decide_eq_true rfl] at HS12
        clear h8 H7
        go_wp2_with fail
        refine HS12.out.mono ?_
        rintro e w9 ⟨rfl, h9⟩
        have H9 := Lib.hid h9.tail
        clear h9
        go_wp2_with fail
        refine (HC14c.out _ tb _ H9.out).mono ?_
        rintro e wb ⟨rfl, hb⟩
        go_wp2_with fail
        go_ret
        exact ⟨rfl, hb.tail.tail⟩
      | true =>
        obtain rfl : m1 = u := HQ3.out rfl
        have b1 : ((m1 : Int) == (m1 : Int)) = true := by simp
        go_wp2_with fail
        refine (HC14b.out _ tb _ HS.out).mono ?_
        rintro e w7 ⟨rfl, h7⟩
        have H7 := Lib.hid h7
        clear h7 HS
        go_wp2_with fail
        refine (HW.out _ _ (by simp [HO.out]) tb H7.out).mono ?_
        rintro e w8 ⟨A8, c8, rfl, h8⟩
        have H8 := Lib.hid h8
        have HS12 := Lib.hid (same_sat (c := c2) (e := c8) (L := T) (M := T) h8 h8.r3.rowKs h8.rowKs (by rw [HN1.out]; exact HWL.out) (by rw [HN1.out]; exact HWL.out))
        rw [HN1.out, decide_eq_true rfl] at HS12
        clear h8 H7
        go_wp2_with fail
        refine HS12.out.mono ?_
        rintro e w9 ⟨rfl, h9⟩
        have H9 := Lib.hid h9.tail
        clear h9
        go_wp2_with fail
        refine (HC14c.out _ tb _ H9.out).mono ?_
        rintro e wb ⟨rfl, hb⟩
        go_wp2_with fail
        go_ret
        exact ⟨rfl, hb.tail.tail⟩
end
end Go.Proofs.YtbgbpibfmdkndaaDoor
