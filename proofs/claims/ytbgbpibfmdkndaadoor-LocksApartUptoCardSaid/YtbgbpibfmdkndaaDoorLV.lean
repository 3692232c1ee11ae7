/- The walk of LocksApart. -/
import Derived.Test.YtbgbpibfmdkndaaDoorLS
set_option linter.unusedVariables false
set_option linter.unusedSimpArgs false
set_option linter.unnecessarySimpa false
set_option maxRecDepth 100000
namespace Go.Proofs.YtbgbpibfmdkndaaDoor
open Go.RowKit Go.ChangeShapes Go.WideShapes Go.ChangeAt
/-- the table ahead of round m: not dropped yet, or dropped -/
def ApTab (D E : List Ent) (sm m : Nat) : Prop := (E = D ∧ (m = 0 ∨ (m = 1 ∧ sm = 1))) ∨ E = dropE D sm
theorem apTab_ok {D E : List Ent} {sm m : Nat} (h : ApTab D E sm m) (hD : TabOk D) : TabOk E ∧ E.length ≤ D.length ∧ dropE E sm = dropE D sm := by
  rcases h with ⟨rfl, _⟩ | rfl
  · exact ⟨hD, Nat.le_refl _, rfl⟩
  · exact ⟨hD.drop _, by have := drop_len D sm; omega, drop_drop D sm⟩
def ApRel (w0 : World) (F : List HP) (tb : Nat) (D : List Ent) (sm : Nat) (i : Value) (wr : World) : Prop :=
  ∃ (m : Nat) (E : List Ent), m ≤ 6 ∧ i = .int .i64 ((m : Int) + 1) ∧ ApTab D E sm m ∧ Sat w0 wr (TabP tb E :: F)
def ApIn (W : World) (n : Nat) (i : Value) (wr : World) : Prop := ∃ k : Nat, k ≤ n ∧ i = .int .i64 k ∧ wr = W
section
variable {w w0 : World} {F : List HP} {A : Option Addr} {c : Nat}
set_option maxHeartbeats 6400000 in
theorem apart_any {l : List LOp} (inst : Int) (hT0 : Lib.Utf8Tabs 0 1 w0) (hO : Old w0 ∈ F) (hE : OpsAt w0 A c l) (hb : bulkO l ≤ 1048576) (hi : wf64 inst) (hS : Sat w0 w F) :
    Calls Tryd.prog 6 #[.slice A l.length c, .int .i64 inst] w fun e w' => e = .returned (.bool true) ∧ Sat w0 w' F := by
  have HP := Lib.hid (plays_any hT0 hO hE hb hS)
  have HPL := plays_len l
  have HD := Lib.hid (plays_ok l)
  have HZ := plays_mem l
  have hDl : (playsE l).length ≤ 1048579 := by omega
  obtain ⟨n, hn⟩ : ∃ n, l.length = n := ⟨_, rfl⟩
  rw [hn] at HP ⊢
  obtain ⟨D, hDD⟩ : ∃ D, playsE l = D := ⟨_, rfl⟩
  rw [hDD] at HP HD hDl HZ
  have HDL := Lib.hid hDl
  have HO := Lib.hid hO
  have HT0 := Lib.hid hT0
  have HC21 : Hid (∀ W, Calls Tryd.prog 21 #[.int .i64 inst] W fun e w' => e = .returned (.int .i64 (smN inst : Nat)) ∧ w' = W) := fun W => small_any inst W hi
  obtain ⟨sm, hsm⟩ : ∃ v, smN inst = v := ⟨_, rfl⟩
  have hsm1 := small_in inst
  rw [hsm] at HC21 hsm1
  have HOK0 : Hid (TabOk (dropE D sm)) := HD.out.drop _
  have HV : Hid (valE (dropE D sm) z2 = 900001) := val_mem HOK0.out.nodup (drop_mem HZ (by show (900001 : Int) ≠ _; omega))
  have HH0 : Hid (∀ tb W, Sat w0 W (TabP tb (dropE D sm) :: F) → Calls Tryd.prog 18 #[.pointer (some ⟨tb, 0, none⟩), .int .i64 sm] W fun e w' => ∃ A2 c2, e = .returned (.slice A2 0 c2) ∧ Sat w0 w' (TabP tb (dropE D sm) :: F)) := fun tb W h => by
    have hdl := drop_len D sm
    have h2 := held_any HOK0.out (by have := HDL.out; omega) sm HO.out HT0.out h
    rw [held_drop] at h2
    refine h2.mono ?_
    rintro e w' ⟨A2, c2, rfl, h3⟩
    exact ⟨A2, c2, rfl, h3.tail⟩
  have HHZ : Hid (∀ tb W, Sat w0 W (TabP tb (dropE D sm) :: F) → Calls Tryd.prog 16 #[.pointer (some ⟨tb, 0, none⟩), .string ⟨#[122, 122, 45, 50]⟩] W fun e w' => e = .returned (.int .i64 900001) ∧ w' = W) := fun tb W h => by
    have h2 := holder_any HOK0.out z2 h
    rw [HV.out] at h2
    exact h2
  clear HPL hDl hn hDD hO hE hb hi hT0 hS hsm HZ HV
  go_enter Tryd.func6, Tryd.ntmps6
  go_wp2_with fail
  refine HP.out.mono ?_
  rintro e w1 ⟨tb, rfl, h1⟩
  have H1 := Lib.hid h1
  clear h1 HP
  go_wp2_with fail
  refine (HC21.out _).mono ?_
  rintro e wz ⟨rfl, rfl⟩
  go_wp2_with fail
  go_loopw [6] (ApRel w0 F tb D sm) (fun i _ => 7 - (intOf i).toNat)
  case atStart => exact ⟨0, D, Nat.zero_le _, rfl, .inl ⟨rfl, .inl rfl⟩, H1.out⟩
  case round =>
    obtain ⟨m, E, hm, rfl, hap, hS⟩ := hrel
    clear H1
    obtain ⟨hEok, hEl, hEd⟩ := apTab_ok hap HD.out
    have HAP := Lib.hid hap
    have HEOK := Lib.hid hEok
    have HEL : Hid (E.length ≤ 4194304) := by have := HDL.out; show _ ≤ _; omega
    have HS := Lib.hid hS
    by_cases hlt : m < 6
    · by_cases hms : m + 1 = sm
      · have t1 : ((m : Int) + 1 == (sm : Int)) = true := by rw [beq_iff_eq]; omega
        have HA2 : Hid (ApTab D E sm (m + 1)) := by
          rcases hap with ⟨e, h | ⟨h, h2⟩⟩ | e
          · exact .inl ⟨e, .inr ⟨by omega, by omega⟩⟩
          · exfalso; omega
          · exact .inr e
        clear hap hEok hEl hEd hms hS
        go_wp2_with fail
        go_roundw
        case rel => exact ⟨m + 1, E, by omega, by go_num, HA2.out, HS.out⟩
        case measure => simp [intOf]; omega
      · have t1 : ((m : Int) + 1 == (sm : Int)) = false := by rw [beq_eq_false_iff_ne]; omega
        have hne : (m : Int) + 1 ≠ (sm : Int) := by omega
        have HHa : Hid (∀ W, Sat w0 W (TabP tb E :: F) → Calls Tryd.prog 18 #[.pointer (some ⟨tb, 0, none⟩), .int .i64 ((m : Int) + 1)] W fun e w' => ∃ A2 c2, e = .returned (.slice A2 (heldE E ((m : Int) + 1)).length c2) ∧ Sat w0 w' (Row 9 1 A2 (heldE E ((m : Int) + 1)).length c2 (strV (heldE E ((m : Int) + 1))) :: TabP tb E :: F)) :=
          fun W h => held_any HEOK.out HEL.out _ HO.out HT0.out h
        have HC14 : Hid (∀ G W, Sat w0 W (TabP tb E :: G) → Calls Tryd.prog 14 #[.pointer (some ⟨tb, 0, none⟩), .int .i64 sm] W fun e w' => e = .returned (.int .i64 (heldE E sm).length) ∧ Sat w0 w' (TabP tb (dropE D sm) :: G)) := fun G W h => by
          have h2 := drop_any HEOK.out HEL.out sm h
          rw [hEd] at h2
          exact h2
        have hh2 : heldE (dropE D sm) ((m : Int) + 1) = heldE E ((m : Int) + 1) := by rw [← hEd, held_other E hne]
        have HHb : Hid (∀ G W, Old w0 ∈ G → Sat w0 W (TabP tb (dropE D sm) :: G) → Calls Tryd.prog 18 #[.pointer (some ⟨tb, 0, none⟩), .int .i64 ((m : Int) + 1)] W fun e w' => ∃ A2 c2, e = .returned (.slice A2 (heldE E ((m : Int) + 1)).length c2) ∧ Sat w0 w' (Row 9 1 A2 (heldE E ((m : Int) + 1)).length c2 (strV (heldE E ((m : Int) + 1))) :: TabP tb (dropE D sm) :: G)) := fun G W hg h => by
          have hdl := drop_len D sm
          have h2 := held_any HOK0.out (by have := HDL.out; omega) ((m : Int) + 1) hg HT0.out h
          rw [hh2] at h2
          exact h2
        have HVV : Hid (∀ x ∈ heldE E ((m : Int) + 1), valE (dropE D sm) x = (m : Int) + 1) := fun x hx => (HOK0.out.held_iff (by omega)).1 (by rw [hh2]; exact hx)
        have hhl := held_len E ((m : Int) + 1)
        have hel := HEL.out
        obtain ⟨L, hL⟩ : ∃ L, heldE E ((m : Int) + 1) = L := ⟨_, rfl⟩
        obtain ⟨nl, hnl⟩ : ∃ q, L.length = q := ⟨_, rfl⟩
        obtain ⟨m0, hm0⟩ : ∃ q, (heldE E sm).length = q := ⟨_, rfl⟩
        rw [hL] at HHa HHb HVV hhl
        rw [hm0] at HC14
        rw [hnl] at HHa HHb hhl
        have HNL := Lib.hid hnl
        have hnl2 : nl ≤ 4194304 := by omega
        have q1 : (((m : Int) + 1) != ((m : Int) + 1)) = false := by simp
        clear hap hEok hEl hEd hms hS hne hh2 hhl hel hL hnl hm0 HAP HEOK HEL
        go_wp2_with fail
        refine (HHa.out _ HS.out).mono ?_
        rintro e w2 ⟨A2, c2, rfl, h2⟩
        have H2 := Lib.hid h2.r2
        clear h2 HS HHa
        go_wp2_with fail
        refine (HC14.out _ _ H2.out).mono ?_
        rintro e w3 ⟨rfl, h3⟩
        have H3 := Lib.hid h3
        clear h3 H2 HC14
        go_wp2_with fail
        refine (HHb.out _ _ (by simp [HO.out]) H3.out).mono ?_
        rintro e w4 ⟨A4, c4, rfl, h4⟩
        have HS12 := Lib.hid (same_sat (c := c2) (e := c4) (L := L) (M := L) h4 h4.r3.rowKs h4.rowKs (by rw [HNL.out]; omega) (by rw [HNL.out]; omega))
        rw [HNL.out, decide_eq_true rfl] at HS12
        clear h4 H3 HHb
        go_wp2_with fail
        refine HS12.out.mono ?_
        rintro e w5 ⟨rfl, h5⟩
        have HK5 : Hid (KsAt w5 A4 L) := h5.rowKs
        have H5 : Hid (Sat w0 w5 (TabP tb (dropE D sm) :: F)) := h5.tail.r2.tail
        clear h5 HS12
        go_wp2_with fail
        go_loopw [9] (ApIn w5 nl) (fun i _ => nl - (intOf i).toNat)
        case atStart => exact ⟨0, Nat.zero_le _, rfl, rfl⟩
        case round =>
          obtain ⟨k, hk, rfl, rfl⟩ := hrel
          by_cases hkl : k < nl
          · obtain ⟨x, hx⟩ : ∃ x, L[k]? = some x := ⟨_, List.getElem?_eq_getElem (by rw [HNL.out]; exact hkl)⟩
            obtain ⟨kb, ks, rfl, hkc⟩ := HK5.out.resolve_left (by rintro rfl; simp at hx)
            have k0 := hkc k x hx
            have HC := Lib.hid (holder_any HOK0.out x H5.out)
            rw [HVV.out x (List.mem_of_getElem? hx)] at HC
            clear hkc hx
            go_wp2_with fail
            refine HC.out.mono ?_
            rintro e w8 ⟨rfl, rfl⟩
            go_wp2_with fail
            go_roundw
            case rel => exact ⟨k + 1, by omega, by go_num, rfl⟩
            case measure => simp [intOf]; omega
          · obtain rfl : k = nl := by omega
            clear hkl
            go_wp2_with fail
            go_roundw
            case rel => exact ⟨m + 1, dropE D sm, by omega, by go_num, .inr rfl, H5.out⟩
            case measure => simp [intOf]; omega
    · obtain rfl : m = 6 := by omega
      have hEE : E = dropE D sm := by
        rcases hap with ⟨_, h | ⟨h, _⟩⟩ | e
        · exact absurd h (by decide)
        · exact absurd h (by decide)
        · exact e
      rw [hEE] at HS
      clear hap hEok hEl hEd hS HEOK HEL HAP hEE
      go_wp2_with fail
      refine (HH0.out tb _ HS.out).mono ?_
      rintro e w2 ⟨A2, c2, rfl, h2⟩
      have H2 := Lib.hid h2
      clear h2 HS
      go_wp2_with fail
      refine (HHZ.out tb _ H2.out).mono ?_
      rintro e w3 ⟨rfl, rfl⟩
      go_wp2_with fail
      go_ret
      exact ⟨rfl, H2.out.tail⟩
end
end Go.Proofs.YtbgbpibfmdkndaaDoor
