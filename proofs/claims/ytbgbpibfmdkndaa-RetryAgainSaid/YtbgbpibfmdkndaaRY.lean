/- The walk of RetryAgain. -/
import Derived.Test.YtbgbpibfmdkndaaRX
import Derived.Test.YtbgbpibfmdkndaaRN
set_option linter.unusedVariables false
set_option linter.unusedSimpArgs false
set_option linter.unnecessarySimpa false
set_option maxRecDepth 100000
namespace Go.Proofs.Ytbgbpibfmdkndaa
open Go.RowKit Go.ChangeShapes Go.WideShapes Go.ChangeAt
theorem bool_at {w0 w' : World} {A : Option Addr} {c : Nat} {l : List Bool} (hE : Elems w0 (.slice A l.length c) 1 (l.map boolC)) (hb : Below w0.heap.size w0 w') (k : Nat) (hk : k < l.length) :
    ∃ b of, A = some ⟨b, of, none⟩ ∧ w'.cell? ⟨b, of + k, none⟩ = some (.bool (l.getD k false)) := by
  obtain ⟨b', of', e, hc⟩ := (hE.keep hb).at_.2.2 (by rw [List.length_map]; omega)
  have hc' := hc k (by rw [List.length_map]; exact hk) 0 (by decide)
  have hx : (l.map boolC).getD k [] = boolC (l.getD k false) := by simp [List.getD, hk]
  rw [hx, Nat.mul_one, Nat.add_zero] at hc'
  exact ⟨b', of', e, hc'⟩
theorem due_lone {w0 : World} {G : List HP} {r : Nat} {t : List Int} {dl : Int} {W : List Wt} {N now nx : Int} {i tr : Nat} (hm : mayB t = true) (hW : WOk W N) (hN : 0 ≤ N ∧ N ≤ 4611686018427387904)
    (hL : Lone i W (stW dl now tr nx)) (h1 : 1 ≤ i) (h6 : i ≤ 60) (hn : 1 ≤ now ∧ now ≤ 100) (hx : now ≤ nx) :
    ∃ E n1 n2, WOk E (N + 1) ∧ n1 ≤ 1 ∧ n2 ≤ 1 ∧ Lone i E (if now = nx then stW dl (now + 1) (tr + 1) (now + delayV t ((tr + 1 : Nat) : Int)) else stW dl (now + 1) tr nx) ∧
      ∀ Wd, Sat w0 Wd (PRet r t dl W :: G) → Calls Try.prog 16 #[.pointer (some ⟨r, 0, none⟩), .int .i64 now] Wd fun e w' => ∃ A1 c1 A2 c2, e = .returned (.tuple #[.slice A1 n1 c1, .slice A2 n2 c2]) ∧ Sat w0 w' (PRet r t dl E :: G) ∧
        Calls Try.prog 17 #[.slice A1 n1 c1, .int .i64 (i : Int)] w' (fun e w'' => e = .returned (.bool (decide (now = nx))) ∧ w'' = w') ∧ Calls Try.prog 17 #[.slice A2 n2 c2, .int .i64 (i : Int)] w' (fun e w'' => e = .returned (.bool (now == dl)) ∧ w'' = w') := by
  have q1 := (hL.two.ag h1 h6 now).2
  have q2 := (hL.two.lt h1 h6 now).2
  have e1 := hL.isAg h1 h6 hn hx
  have e2 := hL.isLt h1 h6 hn
  refine ⟨dueT t now W, _, _, hW.dueT hN.1 hm, q1, q2, hL.due hm h1 h6 hn hx, fun Wd h => ?_⟩
  refine (pdue_all hm hW hN h).mono ?_
  rintro e w' ⟨A3, c3, A4, c4, rfl, h2⟩
  have H3 := has_any (c := c3) (x := (i : Int)) h2.rowNs (by omega)
  have H4 := has_any (c := c4) (x := (i : Int)) h2.r2.rowNs (by omega)
  rw [e1] at H3
  rw [e2] at H4
  exact ⟨A3, c3, A4, c4, rfl, h2.tail.tail, H3, H4⟩
def AgR (w0 : World) (F : List HP) (r : Nat) (t : List Int) (dl : Int) (i : Nat) (vt vx vn : Value) (wr : World) : Prop :=
  ∃ (kk tr : Nat) (nx : Int) (W : List Wt), 1 ≤ kk ∧ kk ≤ 101 ∧ vt = .int .i64 (tr : Int) ∧ vx = .int .i64 nx ∧ vn = .int .i64 (kk : Int) ∧ tr ≤ kk ∧ (kk : Int) ≤ nx ∧ nx ≤ 2000 ∧ WOk W (kk : Int) ∧ Lone i W (stW dl (kk : Int) tr nx) ∧ Sat w0 wr (PRet r t dl W :: F)
section
variable {w w0 : World} {F : List HP} {A B : Option Addr} {c d : Nat}
set_option maxHeartbeats 12800000 in
theorem again_any {raw : List Int} {dn di : Int} {l : List Bool} (hK : NsF w0 F A raw) (hl : raw.length ≤ 140737488351232) (hwf : ∀ x ∈ raw, wf64 x) (hd : wf64 dn) (hdi : wf64 di)
    (hE : Elems w0 (.slice B l.length d) 1 (l.map boolC)) (hll : l.length ≤ 140737488351232) (hO : Old w0 ∈ F) (hS : Sat w0 w F) :
    Calls Try.prog 5 #[.slice A raw.length c, .int .i64 dn, .int .i64 di, .slice B l.length d] w fun e w' => e = .returned (.bool true) ∧ Sat w0 w' F := by
  obtain ⟨t, ht⟩ : ∃ t, fitN raw = t := ⟨_, rfl⟩
  have hm : mayB t = true := by rw [← ht]; exact fit_may raw
  obtain ⟨ml1, ml8, _⟩ := may_len hm
  obtain ⟨m, hmm⟩ : ∃ m, t.length = m + 1 := ⟨t.length - 1, by omega⟩
  have H13 := Lib.hid (fit_any (c := c) hK hl hwf hS)
  rw [ht, hmm] at H13
  obtain ⟨p, hp⟩ : ∃ p, pickN dn 60 = p := ⟨_, rfl⟩
  have hp60 : p < 60 := by rw [← hp]; exact pickN_lt dn 60 (by decide)
  have HPD : Hid (∀ W, Calls Try.prog 14 #[.int .i64 dn, .int .i64 (60 : Int)] W fun e w' => e = .returned (.int .i64 (p : Int)) ∧ w' = W) := fun W => by
    have h := pick_any dn 60 W hd (by decide) (by decide)
    rw [hp] at h
    exact h
  obtain ⟨u, hu⟩ : ∃ u, pickN di 60 = u := ⟨_, rfl⟩
  have hu4 : u < 60 := by rw [← hu]; exact pickN_lt di 60 (by decide)
  have HPI : Hid (∀ W, Calls Try.prog 14 #[.int .i64 di, .int .i64 (60 : Int)] W fun e w' => e = .returned (.int .i64 (u : Int)) ∧ w' = W) := fun W => by
    have h := pick_any di 60 W hdi (by decide) (by decide)
    rw [hu] at h
    exact h
  obtain ⟨dl, hdle⟩ : ∃ x : Int, 1 + (p : Int) = x := ⟨_, rfl⟩
  have hdl6 : (1 : Int) ≤ dl ∧ dl ≤ 60 := by omega
  have hdl : (1 : Int) ≤ dl ∧ dl ≤ 1073741824 := by omega
  have sw1 : IntKind.i64.wrap (1 + (p : Int)) = dl := by rw [IntWalk.i64_in _ (by omega)]; exact hdle
  obtain ⟨i, hi⟩ : ∃ i : Nat, 1 + u = i := ⟨_, rfl⟩
  obtain ⟨iI, hiI⟩ : ∃ x : Int, (i : Int) = x := ⟨_, rfl⟩
  have hi1 : 1 ≤ i := by omega
  have hi6 : i ≤ 60 := by omega
  have sw2 : IntKind.i64.wrap (1 + (u : Int)) = iI := by rw [IntWalk.i64_in _ (by omega)]; omega
  have HII := Lib.hid hiI
  have H8 : Hid (∀ W A1 c1, Sat w0 W (Row 3 1 A1 (m + 1) c1 (nums t) :: F) → Calls Try.prog 8 #[.slice A1 (m + 1) c1, .int .i64 dl] W fun e w' => ∃ r, e = .returned (.tuple #[.pointer (some ⟨r, 0, none⟩), .int .i64 0]) ∧ Sat w0 w' (PRet r t dl noneW :: Row 3 1 A1 (m + 1) c1 (nums t) :: F)) := fun W A1 c1 h => by
    have h2 := pnew_ok (c := c1) h.rowNs hm hdl h
    rw [hmm] at h2
    exact h2
  obtain ⟨E0, hB0, hL0⟩ := lone_begin hm hdl6 hi1 hi6
  have HW0 : Hid (WOk E0 1) := by
    have h := WOk.start.begin (Int.le_refl _) hm hdl.1 (dl := dl) (id := (i : Int)) (now := 0)
    rw [hB0] at h
    exact h.up (by omega)
  have HL0 := Lib.hid hL0
  have H15 : Hid (∀ W r G, Sat w0 W (PRet r t dl noneW :: G) → Calls Try.prog 15 #[.pointer (some ⟨r, 0, none⟩), .int .i64 iI, .int .i64 (0 : Int)] W fun e w' => e = .returned (.int .i64 0) ∧ Sat w0 w' (PRet r t dl E0 :: G)) := fun W r G h => by
    have h2 := pbegin_any (i : Int) 0 hm hdl h
    rw [hB0, HII.out] at h2
    exact h2
  obtain ⟨n, hn⟩ : ∃ n, l.length = n := ⟨_, rfl⟩
  obtain ⟨n0, hn0⟩ : ∃ n, raw.length = n := ⟨_, rfl⟩
  have HB : Hid (∀ wr G, Sat w0 wr (G ++ F) → ∀ k, k < n → ∃ b of, B = some ⟨b, of, none⟩ ∧ wr.cell? ⟨b, of + k, none⟩ = some (.bool (l.getD k false))) :=
    fun wr G h k hk => bool_at hE (h.old (List.mem_append_right _ hO)) k (by rw [hn]; exact hk)
  rw [hn] at hll ⊢
  rw [hn0] at H13 ⊢
  have HM := Lib.hid hm
  have HDL := Lib.hid hdl
  have hm8 : m ≤ 7 := by omega
  have HMM := Lib.hid hmm
  have hg0 := getD_in hm
  have HV : Hid (∀ k j : Nat, min k m = j → delayV t (k : Int) = t.getD j 0) := fun k j hj => by unfold delayV; rw [Int.toNat_natCast, HMM.out, Nat.add_sub_cancel, hj]
  have HDI : Hid (∀ k : Int, 1 ≤ delayV t k ∧ delayV t k ≤ 1000) := fun k => delay_in HM.out k
  obtain ⟨x0, hx0⟩ : ∃ x, t.getD 0 0 = x := ⟨_, rfl⟩
  rw [hx0] at hg0 HL0
  have HX0 := Lib.hid hx0
  clear hK hl hwf hd hdi hE hO hS ht hp hm hmm hn hn0 hdl hu hi hdle hiI ml1 ml8 hB0 hL0 hx0
  go_enter Try.func5, Try.ntmps5
  go_wp2_with fail
  refine H13.out.mono ?_
  rintro e w1 ⟨A1, c1, rfl, h1⟩
  obtain ⟨tb, tz, rfl, hcell⟩ := h1.rowNs.resolve_left (by intro e; have := HMM.out; rw [e] at this; simp at this)
  have H1 := Lib.hid h1
  clear h1 H13 hcell
  go_wp2_with fail
  refine (HPD.out _).mono ?_
  rintro e w2 ⟨rfl, rfl⟩
  go_wp2_with fail
  refine (HPI.out _).mono ?_
  rintro e w3 ⟨rfl, rfl⟩
  go_wp2_with fail
  refine (H8.out _ _ _ H1.out).mono ?_
  rintro e w4 ⟨r, rfl, h4⟩
  have H4 := Lib.hid h4
  clear h4 H1
  go_wp2_with fail
  refine (H15.out _ _ _ H4.out).mono ?_
  rintro e w5 ⟨rfl, h5⟩
  have CT : Hid (∀ W E, Sat w0 W (PRet r t dl E :: Row 3 1 (some ⟨tb, tz, none⟩) (m + 1) c1 (nums t) :: F) → ∀ j, j < m + 1 → W.cell? ⟨tb, tz + j, none⟩ = some (.int .i64 (t.getD j 0))) := fun W E h j hj => by
    obtain ⟨b', o', e, hc⟩ := h.r2.rowNs.resolve_left (by intro e; have := HMM.out; rw [e] at this; simp at this)
    cases e
    exact hc j (by rw [HMM.out]; exact hj)
  have z0 := CT.out w5 _ h5 0 (by omega)
  rw [HX0.out] at z0
  have z00 : w5.cell? ⟨tb, tz, none⟩ = some (.int .i64 x0) := z0
  have gm : (0 : Int) < (m : Int) + 1 := by omega
  have H5 := Lib.hid h5
  clear h5 H4 H8 H15 HPD HPI
  go_wp2_with fail
  go_loopw [12, 13, 14] (AgR w0 (Row 3 1 (some ⟨tb, tz, none⟩) (m + 1) c1 (nums t) :: F) r t dl i) (fun _ _ v _ => 101 - (intOf v).toNat)
  case atStart => exact ⟨1, 0, x0, E0, Nat.le_refl _, by omega, rfl, rfl, rfl, by omega, by omega, by omega, HW0.out, HL0.out, H5.out⟩
  case round =>
    obtain ⟨kk, tr, nx, W, hk1, hk2, rfl, rfl, rfl, htr, hx1, hx2, hW, hL, hS⟩ := hrel
    clear H5 z0 z00 HW0 HL0
    by_cases hlt : (kk : Int) ≤ 100
    · obtain ⟨E, n1, n2, hWE, hn1, hn2, hLE, hD⟩ := due_lone (w0 := w0) (G := Row 3 1 (some ⟨tb, tz, none⟩) (m + 1) c1 (nums t) :: F) (r := r) HM.out hW ⟨by omega, by omega⟩ hL hi1 hi6 ⟨by omega, hlt⟩ hx1
      rw [HII.out] at hD
      have HWE := Lib.hid hWE
      have HS := Lib.hid hS
      have HTR : Hid (∀ tr2 nx2, Lone i E (stW dl ((kk : Int) + 1) tr2 nx2) → Lone i E (stW dl ((kk + 1 : Nat) : Int) tr2 nx2)) := fun tr2 nx2 h => h
      have g1 : decide ((1 : Int) < (n1 : Int)) = false := decide_eq_false (by omega)
      have g2 : decide ((1 : Int) < (n2 : Int)) = false := decide_eq_false (by omega)
      have g1' : ¬ (1 : Int) < (n1 : Int) := by omega
      have g2' : ¬ (1 : Int) < (n2 : Int) := by omega
      have qb2 : (((kk : Int) == dl) != ((kk : Int) == dl)) = false := by simp
      clear hS hW hL hWE
      by_cases hq : (kk : Int) = nx
      · rw [if_pos hq] at hLE
        have t1 : ((kk : Int) == nx) = true := by simp [hq]
        rw [decide_eq_true hq] at hD
        have HD := Lib.hid hD
        clear hq hD
        obtain ⟨k2, hk2e⟩ : ∃ x : Nat, tr + 1 = x := ⟨_, rfl⟩
        rw [hk2e] at hLE
        have hk2l : k2 ≤ kk + 1 := by omega
        have sw5 : IntKind.i64.wrap ((tr : Int) + 1) = (k2 : Int) := by rw [IntWalk.i64_in _ (by omega)]; omega
        have hdi := HDI.out (k2 : Int)
        obtain ⟨xd, hxd⟩ : ∃ x, delayV t (k2 : Int) = x := ⟨_, rfl⟩
        have HXD := Lib.hid hxd
        rw [hxd] at hLE hdi
        have HLE : Hid (Lone i E (stW dl ((kk + 1 : Nat) : Int) k2 ((kk : Int) + xd))) := HTR.out _ _ hLE
        have sw6 : IntKind.i64.wrap ((kk : Int) + xd) = (kk : Int) + xd := IntWalk.i64_in _ (by omega)
        clear hLE hxd hk2e
        rcases Nat.lt_trichotomy k2 m with h | h | h
        · have gk : (k2 : Int) < (m : Int) := by omega
          have gk2 : (k2 : Int) < (m : Int) + 1 := by omega
          by_cases hmv : (kk : Int) < (n : Int)
          · cases hv : l.getD kk false with
            | true =>
              obtain ⟨E2, hB2, hL2⟩ := HLE.out.moved (now := (kk : Int)) HM.out hi1 hi6 ⟨by omega, hlt⟩
              rw [HX0.out] at hL2
              have HL2 := Lib.hid hL2
              have HWE2 : Hid (WOk E2 ((kk : Int) + 1)) := by
                have h := HWE.out.moved (by omega) HM.out (id := (i : Int)) (now := (kk : Int))
                rw [hB2] at h
                exact h
              have H18 : Hid (∀ W' G, Sat w0 W' (PRet r t dl E :: G) → Calls Try.prog 18 #[.pointer (some ⟨r, 0, none⟩), .int .i64 iI, .int .i64 (kk : Int)] W' fun e w' => e = .returned (.int .i64 0) ∧ Sat w0 w' (PRet r t dl E2 :: G)) := fun W' G h => by
                have h2 := pmoved_any (i : Int) (kk : Int) HM.out h
                rw [hB2, HII.out] at h2
                exact h2
              have sw9 : IntKind.i64.wrap ((kk : Int) + x0) = (kk : Int) + x0 := IntWalk.i64_in _ (by omega)
              clear hL2 hB2
              go_wp2_with fail
              refine (HD.out _ HS.out).mono ?_
              rintro e w5 ⟨A5, c5, A6, c6, rfl, h5, K1, K2⟩
              have K1 := Lib.hid K1
              have K2 := Lib.hid K2
              have H5 := Lib.hid h5
              have y1 := CT.out w5 _ h5 k2 (by omega)
              rw [← HV.out k2 k2 (by omega), HXD.out] at y1
              have y2 : w5.cell? ⟨tb, tz + (min (k2 : Int) (m : Int)).toNat, none⟩ = some (.int .i64 xd) := by rw [show (min (k2 : Int) (m : Int)).toNat = k2 by omega]; exact y1
              obtain ⟨mb, mo, rfl, y3⟩ := HB.out w5 [_, _] h5 kk (by omega)
              rw [hv] at y3
              clear h5 HS
              go_wp2_with fail
              refine K1.out.mono ?_
              rintro e w6 ⟨rfl, rfl⟩
              go_wp2_with fail
              refine K2.out.mono ?_
              rintro e w6 ⟨rfl, rfl⟩
              clear K1 K2 HD
              go_wp2_with fail
              refine (H18.out _ _ H5.out).mono ?_
              rintro e w7 ⟨rfl, h7⟩
              have z0 := CT.out w7 _ h7 0 (by omega)
              rw [HX0.out] at z0
              have z00 : w7.cell? ⟨tb, tz, none⟩ = some (.int .i64 x0) := z0
              have H7 := Lib.hid h7
              clear h7 H18
              go_wp2_with fail
              go_roundw
              case rel => exact ⟨kk + 1, 0, (kk : Int) + x0, E2, by omega, by omega, rfl, rfl, by go_num, by omega, by omega, by omega, HWE2.out, HL2.out, H7.out⟩
              case measure => simp [intOf]; omega
            | false =>
              go_wp2_with fail
              refine (HD.out _ HS.out).mono ?_
              rintro e w5 ⟨A5, c5, A6, c6, rfl, h5, K1, K2⟩
              have K1 := Lib.hid K1
              have K2 := Lib.hid K2
              have H5 := Lib.hid h5
              have y1 := CT.out w5 _ h5 k2 (by omega)
              rw [← HV.out k2 k2 (by omega), HXD.out] at y1
              have y2 : w5.cell? ⟨tb, tz + (min (k2 : Int) (m : Int)).toNat, none⟩ = some (.int .i64 xd) := by rw [show (min (k2 : Int) (m : Int)).toNat = k2 by omega]; exact y1
              obtain ⟨mb, mo, rfl, y3⟩ := HB.out w5 [_, _] h5 kk (by omega)
              rw [hv] at y3
              clear h5 HS
              go_wp2_with fail
              refine K1.out.mono ?_
              rintro e w6 ⟨rfl, rfl⟩
              go_wp2_with fail
              refine K2.out.mono ?_
              rintro e w6 ⟨rfl, rfl⟩
              clear K1 K2 HD
              go_wp2_with fail
              go_roundw
              case rel => exact ⟨kk + 1, k2, (kk : Int) + xd, E, by omega, by omega, rfl, rfl, by go_num, by omega, by omega, by omega, HWE.out, HLE.out, H5.out⟩
              case measure => simp [intOf]; omega
          · go_wp2_with fail
            refine (HD.out _ HS.out).mono ?_
            rintro e w5 ⟨A5, c5, A6, c6, rfl, h5, K1, K2⟩
            have K1 := Lib.hid K1
            have K2 := Lib.hid K2
            have H5 := Lib.hid h5
            have y1 := CT.out w5 _ h5 k2 (by omega)
            rw [← HV.out k2 k2 (by omega), HXD.out] at y1
            have y2 : w5.cell? ⟨tb, tz + (min (k2 : Int) (m : Int)).toNat, none⟩ = some (.int .i64 xd) := by rw [show (min (k2 : Int) (m : Int)).toNat = k2 by omega]; exact y1
            clear h5 HS
            go_wp2_with fail
            refine K1.out.mono ?_
            rintro e w6 ⟨rfl, rfl⟩
            go_wp2_with fail
            refine K2.out.mono ?_
            rintro e w6 ⟨rfl, rfl⟩
            clear K1 K2 HD
            go_wp2_with fail
            go_roundw
            case rel => exact ⟨kk + 1, k2, (kk : Int) + xd, E, by omega, by omega, rfl, rfl, by go_num, by omega, by omega, by omega, HWE.out, HLE.out, H5.out⟩
            case measure => simp [intOf]; omega
        · subst h
          have gk2 : (k2 : Int) < (k2 : Int) + 1 := by omega
          by_cases hmv : (kk : Int) < (n : Int)
          · cases hv : l.getD kk false with
            | true =>
              obtain ⟨E2, hB2, hL2⟩ := HLE.out.moved (now := (kk : Int)) HM.out hi1 hi6 ⟨by omega, hlt⟩
              rw [HX0.out] at hL2
              have HL2 := Lib.hid hL2
              have HWE2 : Hid (WOk E2 ((kk : Int) + 1)) := by
                have h := HWE.out.moved (by omega) HM.out (id := (i : Int)) (now := (kk : Int))
                rw [hB2] at h
                exact h
              have H18 : Hid (∀ W' G, Sat w0 W' (PRet r t dl E :: G) → Calls Try.prog 18 #[.pointer (some ⟨r, 0, none⟩), .int .i64 iI, .int .i64 (kk : Int)] W' fun e w' => e = .returned (.int .i64 0) ∧ Sat w0 w' (PRet r t dl E2 :: G)) := fun W' G h => by
                have h2 := pmoved_any (i : Int) (kk : Int) HM.out h
                rw [hB2, HII.out] at h2
                exact h2
              have sw9 : IntKind.i64.wrap ((kk : Int) + x0) = (kk : Int) + x0 := IntWalk.i64_in _ (by omega)
              clear hL2 hB2
              go_wp2_with fail
              refine (HD.out _ HS.out).mono ?_
              rintro e w5 ⟨A5, c5, A6, c6, rfl, h5, K1, K2⟩
              have K1 := Lib.hid K1
              have K2 := Lib.hid K2
              have H5 := Lib.hid h5
              have y1 := CT.out w5 _ h5 k2 (by omega)
              rw [← HV.out k2 k2 (by omega), HXD.out] at y1
              obtain ⟨mb, mo, rfl, y3⟩ := HB.out w5 [_, _] h5 kk (by omega)
              rw [hv] at y3
              clear h5 HS
              go_wp2_with fail
              refine K1.out.mono ?_
              rintro e w6 ⟨rfl, rfl⟩
              go_wp2_with fail
              refine K2.out.mono ?_
              rintro e w6 ⟨rfl, rfl⟩
              clear K1 K2 HD
              go_wp2_with fail
              refine (H18.out _ _ H5.out).mono ?_
              rintro e w7 ⟨rfl, h7⟩
              have z0 := CT.out w7 _ h7 0 (by omega)
              rw [HX0.out] at z0
              have z00 : w7.cell? ⟨tb, tz, none⟩ = some (.int .i64 x0) := z0
              have H7 := Lib.hid h7
              clear h7 H18
              go_wp2_with fail
              go_roundw
              case rel => exact ⟨kk + 1, 0, (kk : Int) + x0, E2, by omega, by omega, rfl, rfl, by go_num, by omega, by omega, by omega, HWE2.out, HL2.out, H7.out⟩
              case measure => simp [intOf]; omega
            | false =>
              go_wp2_with fail
              refine (HD.out _ HS.out).mono ?_
              rintro e w5 ⟨A5, c5, A6, c6, rfl, h5, K1, K2⟩
              have K1 := Lib.hid K1
              have K2 := Lib.hid K2
              have H5 := Lib.hid h5
              have y1 := CT.out w5 _ h5 k2 (by omega)
              rw [← HV.out k2 k2 (by omega), HXD.out] at y1
              obtain ⟨mb, mo, rfl, y3⟩ := HB.out w5 [_, _] h5 kk (by omega)
              rw [hv] at y3
              clear h5 HS
              go_wp2_with fail
              refine K1.out.mono ?_
              rintro e w6 ⟨rfl, rfl⟩
              go_wp2_with fail
              refine K2.out.mono ?_
              rintro e w6 ⟨rfl, rfl⟩
              clear K1 K2 HD
              go_wp2_with fail
              go_roundw
              case rel => exact ⟨kk + 1, k2, (kk : Int) + xd, E, by omega, by omega, rfl, rfl, by go_num, by omega, by omega, by omega, HWE.out, HLE.out, H5.out⟩
              case measure => simp [intOf]; omega
          · go_wp2_with fail
            refine (HD.out _ HS.out).mono ?_
            rintro e w5 ⟨A5, c5, A6, c6, rfl, h5, K1, K2⟩
            have K1 := Lib.hid K1
            have K2 := Lib.hid K2
            have H5 := Lib.hid h5
            have y1 := CT.out w5 _ h5 k2 (by omega)
            rw [← HV.out k2 k2 (by omega), HXD.out] at y1
            clear h5 HS
            go_wp2_with fail
            refine K1.out.mono ?_
            rintro e w6 ⟨rfl, rfl⟩
            go_wp2_with fail
            refine K2.out.mono ?_
            rintro e w6 ⟨rfl, rfl⟩
            clear K1 K2 HD
            go_wp2_with fail
            go_roundw
            case rel => exact ⟨kk + 1, k2, (kk : Int) + xd, E, by omega, by omega, rfl, rfl, by go_num, by omega, by omega, by omega, HWE.out, HLE.out, H5.out⟩
            case measure => simp [intOf]; omega
        · have gk : ¬ (k2 : Int) < (m : Int) := by omega
          have gk2 : (m : Int) < (m : Int) + 1 := by omega
          have gk3 : (m : Int) < (k2 : Int) := by omega
          by_cases hmv : (kk : Int) < (n : Int)
          · cases hv : l.getD kk false with
            | true =>
              obtain ⟨E2, hB2, hL2⟩ := HLE.out.moved (now := (kk : Int)) HM.out hi1 hi6 ⟨by omega, hlt⟩
              rw [HX0.out] at hL2
              have HL2 := Lib.hid hL2
              have HWE2 : Hid (WOk E2 ((kk : Int) + 1)) := by
                have h := HWE.out.moved (by omega) HM.out (id := (i : Int)) (now := (kk : Int))
                rw [hB2] at h
                exact h
              have H18 : Hid (∀ W' G, Sat w0 W' (PRet r t dl E :: G) → Calls Try.prog 18 #[.pointer (some ⟨r, 0, none⟩), .int .i64 iI, .int .i64 (kk : Int)] W' fun e w' => e = .returned (.int .i64 0) ∧ Sat w0 w' (PRet r t dl E2 :: G)) := fun W' G h => by
                have h2 := pmoved_any (i : Int) (kk : Int) HM.out h
                rw [hB2, HII.out] at h2
                exact h2
              have sw9 : IntKind.i64.wrap ((kk : Int) + x0) = (kk : Int) + x0 := IntWalk.i64_in _ (by omega)
              clear hL2 hB2
              go_wp2_with fail
              refine (HD.out _ HS.out).mono ?_
              rintro e w5 ⟨A5, c5, A6, c6, rfl, h5, K1, K2⟩
              have K1 := Lib.hid K1
              have K2 := Lib.hid K2
              have H5 := Lib.hid h5
              have y1 := CT.out w5 _ h5 m (by omega)
              rw [← HV.out k2 m (by omega), HXD.out] at y1
              have y2 : w5.cell? ⟨tb, tz + (min (k2 : Int) (m : Int)).toNat, none⟩ = some (.int .i64 xd) := by rw [show (min (k2 : Int) (m : Int)).toNat = m by omega]; exact y1
              obtain ⟨mb, mo, rfl, y3⟩ := HB.out w5 [_, _] h5 kk (by omega)
              rw [hv] at y3
              clear h5 HS
              go_wp2_with fail
              refine K1.out.mono ?_
              rintro e w6 ⟨rfl, rfl⟩
              go_wp2_with fail
              refine K2.out.mono ?_
              rintro e w6 ⟨rfl, rfl⟩
              clear K1 K2 HD
              go_wp2_with fail
              refine (H18.out _ _ H5.out).mono ?_
              rintro e w7 ⟨rfl, h7⟩
              have z0 := CT.out w7 _ h7 0 (by omega)
              rw [HX0.out] at z0
              have z00 : w7.cell? ⟨tb, tz, none⟩ = some (.int .i64 x0) := z0
              have H7 := Lib.hid h7
              clear h7 H18
              go_wp2_with fail
              go_roundw
              case rel => exact ⟨kk + 1, 0, (kk : Int) + x0, E2, by omega, by omega, rfl, rfl, by go_num, by omega, by omega, by omega, HWE2.out, HL2.out, H7.out⟩
              case measure => simp [intOf]; omega
            | false =>
              go_wp2_with fail
              refine (HD.out _ HS.out).mono ?_
              rintro e w5 ⟨A5, c5, A6, c6, rfl, h5, K1, K2⟩
              have K1 := Lib.hid K1
              have K2 := Lib.hid K2
              have H5 := Lib.hid h5
              have y1 := CT.out w5 _ h5 m (by omega)
              rw [← HV.out k2 m (by omega), HXD.out] at y1
              have y2 : w5.cell? ⟨tb, tz + (min (k2 : Int) (m : Int)).toNat, none⟩ = some (.int .i64 xd) := by rw [show (min (k2 : Int) (m : Int)).toNat = m by omega]; exact y1
              obtain ⟨mb, mo, rfl, y3⟩ := HB.out w5 [_, _] h5 kk (by omega)
              rw [hv] at y3
              clear h5 HS
              go_wp2_with fail
              refine K1.out.mono ?_
              rintro e w6 ⟨rfl, rfl⟩
              go_wp2_with fail
              refine K2.out.mono ?_
              rintro e w6 ⟨rfl, rfl⟩
              clear K1 K2 HD
              go_wp2_with fail
              go_roundw
              case rel => exact ⟨kk + 1, k2, (kk : Int) + xd, E, by omega, by omega, rfl, rfl, by go_num, by omega, by omega, by omega, HWE.out, HLE.out, H5.out⟩
              case measure => simp [intOf]; omega
          · go_wp2_with fail
            refine (HD.out _ HS.out).mono ?_
            rintro e w5 ⟨A5, c5, A6, c6, rfl, h5, K1, K2⟩
            have K1 := Lib.hid K1
            have K2 := Lib.hid K2
            have H5 := Lib.hid h5
            have y1 := CT.out w5 _ h5 m (by omega)
            rw [← HV.out k2 m (by omega), HXD.out] at y1
            have y2 : w5.cell? ⟨tb, tz + (min (k2 : Int) (m : Int)).toNat, none⟩ = some (.int .i64 xd) := by rw [show (min (k2 : Int) (m : Int)).toNat = m by omega]; exact y1
            clear h5 HS
            go_wp2_with fail
            refine K1.out.mono ?_
            rintro e w6 ⟨rfl, rfl⟩
            go_wp2_with fail
            refine K2.out.mono ?_
            rintro e w6 ⟨rfl, rfl⟩
            clear K1 K2 HD
            go_wp2_with fail
            go_roundw
            case rel => exact ⟨kk + 1, k2, (kk : Int) + xd, E, by omega, by omega, rfl, rfl, by go_num, by omega, by omega, by omega, HWE.out, HLE.out, H5.out⟩
            case measure => simp [intOf]; omega
      · rw [if_neg hq] at hLE
        have t1 : ((kk : Int) == nx) = false := by simp [hq]
        rw [decide_eq_false hq] at hD
        have HD := Lib.hid hD
        have hxx : (kk : Int) + 1 ≤ nx := by omega
        have HLE : Hid (Lone i E (stW dl ((kk + 1 : Nat) : Int) tr nx)) := HTR.out _ _ hLE
        clear hq hD hLE
        by_cases hmv : (kk : Int) < (n : Int)
        · cases hv : l.getD kk false with
          | true =>
            obtain ⟨E2, hB2, hL2⟩ := HLE.out.moved (now := (kk : Int)) HM.out hi1 hi6 ⟨by omega, hlt⟩
            rw [HX0.out] at hL2
            have HL2 := Lib.hid hL2
            have HWE2 : Hid (WOk E2 ((kk : Int) + 1)) := by
              have h := HWE.out.moved (by omega) HM.out (id := (i : Int)) (now := (kk : Int))
              rw [hB2] at h
              exact h
            have H18 : Hid (∀ W' G, Sat w0 W' (PRet r t dl E :: G) → Calls Try.prog 18 #[.pointer (some ⟨r, 0, none⟩), .int .i64 iI, .int .i64 (kk : Int)] W' fun e w' => e = .returned (.int .i64 0) ∧ Sat w0 w' (PRet r t dl E2 :: G)) := fun W' G h => by
              have h2 := pmoved_any (i : Int) (kk : Int) HM.out h
              rw [hB2, HII.out] at h2
              exact h2
            have sw9 : IntKind.i64.wrap ((kk : Int) + x0) = (kk : Int) + x0 := IntWalk.i64_in _ (by omega)
            clear hL2 hB2
            go_wp2_with fail
            refine (HD.out _ HS.out).mono ?_
            rintro e w5 ⟨A5, c5, A6, c6, rfl, h5, K1, K2⟩
            have K1 := Lib.hid K1
            have K2 := Lib.hid K2
            have H5 := Lib.hid h5
            obtain ⟨mb, mo, rfl, y3⟩ := HB.out w5 [_, _] h5 kk (by omega)
            rw [hv] at y3
            clear h5 HS
            go_wp2_with fail
            refine K1.out.mono ?_
            rintro e w6 ⟨rfl, rfl⟩
            go_wp2_with fail
            refine K2.out.mono ?_
            rintro e w6 ⟨rfl, rfl⟩
            clear K1 K2 HD
            go_wp2_with fail
            refine (H18.out _ _ H5.out).mono ?_
            rintro e w7 ⟨rfl, h7⟩
            have z0 := CT.out w7 _ h7 0 (by omega)
            rw [HX0.out] at z0
            have z00 : w7.cell? ⟨tb, tz, none⟩ = some (.int .i64 x0) := z0
            have H7 := Lib.hid h7
            clear h7 H18
            go_wp2_with fail
            go_roundw
            case rel => exact ⟨kk + 1, 0, (kk : Int) + x0, E2, by omega, by omega, rfl, rfl, by go_num, by omega, by omega, by omega, HWE2.out, HL2.out, H7.out⟩
            case measure => simp [intOf]; omega
          | false =>
            go_wp2_with fail
            refine (HD.out _ HS.out).mono ?_
            rintro e w5 ⟨A5, c5, A6, c6, rfl, h5, K1, K2⟩
            have K1 := Lib.hid K1
            have K2 := Lib.hid K2
            have H5 := Lib.hid h5
            obtain ⟨mb, mo, rfl, y3⟩ := HB.out w5 [_, _] h5 kk (by omega)
            rw [hv] at y3
            clear h5 HS
            go_wp2_with fail
            refine K1.out.mono ?_
            rintro e w6 ⟨rfl, rfl⟩
            go_wp2_with fail
            refine K2.out.mono ?_
            rintro e w6 ⟨rfl, rfl⟩
            clear K1 K2 HD
            go_wp2_with fail
            go_roundw
            case rel => exact ⟨kk + 1, tr, nx, E, by omega, by omega, rfl, rfl, by go_num, by omega, by omega, by omega, HWE.out, HLE.out, H5.out⟩
            case measure => simp [intOf]; omega
        · go_wp2_with fail
          refine (HD.out _ HS.out).mono ?_
          rintro e w5 ⟨A5, c5, A6, c6, rfl, h5, K1, K2⟩
          have K1 := Lib.hid K1
          have K2 := Lib.hid K2
          have H5 := Lib.hid h5
          skip
          clear h5 HS
          go_wp2_with fail
          refine K1.out.mono ?_
          rintro e w6 ⟨rfl, rfl⟩
          go_wp2_with fail
          refine K2.out.mono ?_
          rintro e w6 ⟨rfl, rfl⟩
          clear K1 K2 HD
          go_wp2_with fail
          go_roundw
          case rel => exact ⟨kk + 1, tr, nx, E, by omega, by omega, rfl, rfl, by go_num, by omega, by omega, by omega, HWE.out, HLE.out, H5.out⟩
          case measure => simp [intOf]; omega
    · obtain ⟨E, hB, hB2⟩ := hL.stop rfl hi1 hi6
      have HS1 : Hid (∀ W' G, Sat w0 W' (PRet r t dl W :: G) → Calls Try.prog 19 #[.pointer (some ⟨r, 0, none⟩), .int .i64 iI] W' fun e w' => e = .returned (.int .i64 0) ∧ Sat w0 w' (PRet r t dl E :: G)) := fun W' G h => by
        have h2 := pstop_any (i : Int) h
        rw [hB, HII.out] at h2
        exact h2
      have HS2 : Hid (∀ W' G, Sat w0 W' (PRet r t dl E :: G) → Calls Try.prog 19 #[.pointer (some ⟨r, 0, none⟩), .int .i64 iI] W' fun e w' => e = .returned (.int .i64 1) ∧ Sat w0 w' G) := fun W' G h => by
        have h2 := pstop_any (i : Int) h
        rw [hB2, HII.out] at h2
        refine h2.mono ?_
        rintro e w' ⟨rfl, h3⟩
        exact ⟨rfl, h3.tail⟩
      have HS := Lib.hid hS
      clear hS hW hL hB hB2
      go_wp2_with fail
      refine (HS1.out _ _ HS.out).mono ?_
      rintro e w7 ⟨rfl, h7⟩
      have H7 := Lib.hid h7
      clear h7 HS
      go_wp2_with fail
      refine (HS2.out _ _ H7.out).mono ?_
      rintro e w8 ⟨rfl, h8⟩
      have H8 := Lib.hid h8.tail
      clear h8 H7
      go_wp2_with fail
      go_ret
      exact ⟨rfl, H8.out⟩
end
theorem retryAgain_walk (a0 : Option Addr) (len0 cap0 : Nat) (z0 : List Int) (a1 a2 : Int) (a3 : Option Addr) (len3 cap3 : Nat) (z3 : List Bool) (w : World) (w0 : NumsAt w a0 len0 cap0 z0) (y0 : len0 * 8 ≤ 140737488351232) (w1 : (Lit.int .i64 a1).wf = true) (w2 : (Lit.int .i64 a2).wf = true) (w3 : BoolsAt w a3 len3 cap3 z3) (y3 : len3 * 1 ≤ 140737488351232) :
    Calls Try.prog 5 #[.slice a0 len0 cap0, .int .i64 a1, .int .i64 a2, .slice a3 len3 cap3] w fun e w' => e = .returned (.bool true) ∧ Below w.heap.size w w' := by
  have hn := w0.ns
  obtain ⟨rfl, _, hwf⟩ := w0
  obtain ⟨rfl, hE⟩ := w3
  refine (again_any (fun W G h => hn.keep (h.old (List.mem_append_right _ (by simp)))) (by omega) hwf (wf64_of w1) (wf64_of w2) hE (by omega) (by simp) (Sat.start w)).mono ?_
  rintro e w' ⟨rfl, h⟩
  exact ⟨rfl, h.old (by simp)⟩
end Go.Proofs.Ytbgbpibfmdkndaa
