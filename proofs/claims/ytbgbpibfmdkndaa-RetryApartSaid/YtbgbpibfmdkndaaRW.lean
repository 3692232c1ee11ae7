/- The walk of RetryApart. -/
import Derived.Test.YtbgbpibfmdkndaaRV
import Derived.Test.YtbgbpibfmdkndaaRN
set_option linter.unusedVariables false
set_option linter.unusedSimpArgs false
set_option linter.unnecessarySimpa false
set_option maxRecDepth 100000
namespace Go.Proofs.Ytbgbpibfmdkndaa
open Go.RowKit Go.ChangeShapes Go.WideShapes Go.ChangeAt
/-- the words of a Due of two Retries, and of the asking behind it -/
structure DueA (w0 : World) (G : List HP) (r s : Nat) (t : List Int) (dl : Int) (W V E D : List Wt) (now iI : Int) (n1 n2 n3 n4 : Nat) (l1 l2 l3 l4 : List Int) (b1 b2 : Bool) : Prop where
  p : ∀ Wd, Sat w0 Wd (PRet r t dl W :: PRet s t dl V :: G) → Calls Try.prog 16 #[.pointer (some ⟨r, 0, none⟩), .int .i64 now] Wd fun e w' => ∃ A1 c1 A2 c2, e = .returned (.tuple #[.slice A1 n1 c1, .slice A2 n2 c2]) ∧
    Sat w0 w' (Row 3 1 A1 n1 c1 (nums l1) :: Row 3 1 A2 n2 c2 (nums l2) :: PRet r t dl E :: PRet s t dl V :: G)
  q : ∀ A1 c1 A2 c2 Wd, Sat w0 Wd (Row 3 1 A1 n1 c1 (nums l1) :: Row 3 1 A2 n2 c2 (nums l2) :: PRet r t dl E :: PRet s t dl V :: G) → Calls Try.prog 16 #[.pointer (some ⟨s, 0, none⟩), .int .i64 now] Wd fun e w' => ∃ A3 c3 A4 c4, e = .returned (.tuple #[.slice A3 n3 c3, .slice A4 n4 c4]) ∧
    Sat w0 w' (PRet r t dl E :: PRet s t dl D :: G) ∧
    Calls Try.prog 17 #[.slice A1 n1 c1, .int .i64 iI] w' (fun e w'' => e = .returned (.bool b1) ∧ w'' = w') ∧ Calls Try.prog 17 #[.slice A2 n2 c2, .int .i64 iI] w' (fun e w'' => e = .returned (.bool b2) ∧ w'' = w') ∧
    Calls Try.prog 17 #[.slice A3 n3 c3, .int .i64 iI] w' (fun e w'' => e = .returned (.bool b1) ∧ w'' = w') ∧ Calls Try.prog 17 #[.slice A4 n4 c4, .int .i64 iI] w' (fun e w'' => e = .returned (.bool b2) ∧ w'' = w')
theorem due_apart {w0 : World} {G : List HP} {r s : Nat} {t : List Int} {dl : Int} {W V : List Wt} {N : Int} {i : Nat} (now : Int) (hm : mayB t = true) (hW : WOk W N) (hV : WOk V N) (hN : 0 ≤ N ∧ N ≤ 4611686018427387904) (hA : Alone i W V) (h1 : 1 ≤ i) (h6 : i ≤ 60) :
    ∃ E D n1 n2 n3 n4 l1 l2 l3 l4 b1 b2, WOk E (N + 1) ∧ WOk D (N + 1) ∧ Alone i E D ∧ n3 ≤ 1 ∧ n4 ≤ 1 ∧ DueA w0 G r s t dl W V E D now (i : Int) n1 n2 n3 n4 l1 l2 l3 l4 b1 b2 := by
  have q1 := agT_len W now
  have q2 := ltT_len W now
  obtain ⟨e1, q3⟩ := hA.ag h1 h6 now
  obtain ⟨e2, q4⟩ := hA.lt h1 h6 now
  refine ⟨dueT t now W, dueT t now V, _, _, _, _, agT W now, ltT W now, agT V now, ltT V now, hasI (agT W now) (i : Int), hasI (ltT W now) (i : Int), hW.dueT hN.1 hm, hV.dueT hN.1 hm, hA.due h1 h6 now, q3, q4, ⟨fun Wd h => pdue_all hm hW hN h, fun A1 c1 A2 c2 Wd h => ?_⟩⟩
  refine (pdue_all hm hV hN h.r4).mono ?_
  rintro e w' ⟨A3, c3, A4, c4, rfl, h2⟩
  have g2 : Sat w0 w' (PRet s t dl (dueT t now V) :: Row 3 1 A1 _ c1 (nums (agT W now)) :: Row 3 1 A2 _ c2 (nums (ltT W now)) :: PRet r t dl (dueT t now W) :: G) := h2.tail.tail
  have H3 := has_any (c := c3) (x := (i : Int)) h2.rowNs (by omega)
  have H4 := has_any (c := c4) (x := (i : Int)) h2.r2.rowNs (by omega)
  have H1 := has_any (c := c1) (x := (i : Int)) g2.r2.rowNs (by omega)
  have H2 := has_any (c := c2) (x := (i : Int)) g2.r3.rowNs (by omega)
  rw [e1] at H3
  rw [e2] at H4
  exact ⟨A3, c3, A4, c4, rfl, (g2.r3.tail.r2.tail).r2, H1, H2, H3, H4⟩
def ApR (w0 : World) (F : List HP) (r s : Nat) (t : List Int) (dl : Int) (i n : Nat) (nv iv : Value) (wr : World) : Prop :=
  ∃ (k : Nat) (W V : List Wt) (now : Int), k ≤ n ∧ iv = .int .i64 k ∧ nv = .int .i64 now ∧ 0 ≤ now ∧ now ≤ 4 * (k : Int) ∧ WOk W (k : Int) ∧ WOk V (k : Int) ∧ Alone i W V ∧ Sat w0 wr (PRet r t dl W :: PRet s t dl V :: F)
section
variable {w w0 : World} {F : List HP} {A B : Option Addr} {c d : Nat}
set_option maxHeartbeats 6400000 in
theorem apart_any {raw : List Int} {dn di : Int} {l : List ROp} (hK : NsF w0 F A raw) (hl : raw.length ≤ 140737488351232) (hwf : ∀ x ∈ raw, wf64 x) (hd : wf64 dn) (hdi : wf64 di)
    (hE : Elems w0 (.slice B l.length d) 3 (l.map ROp.vs)) (hlw : ∀ o ∈ l, o.wf) (hll : l.length ≤ 5864062014635) (hO : Old w0 ∈ F) (hS : Sat w0 w F) :
    Calls Try.prog 7 #[.slice A raw.length c, .int .i64 dn, .int .i64 di, .slice B l.length d] w fun e w' => e = .returned (.bool true) ∧ Sat w0 w' F := by
  obtain ⟨t, ht⟩ : ∃ t, fitN raw = t := ⟨_, rfl⟩
  have hm : mayB t = true := by rw [← ht]; exact fit_may raw
  have htl : t.length ≤ 1000 := by have := (may_len hm).2.1; omega
  have H13 := Lib.hid (fit_any (c := c) hK hl hwf hS)
  rw [ht] at H13
  obtain ⟨m, hmm⟩ : ∃ m, t.length = m := ⟨_, rfl⟩
  rw [hmm] at H13
  obtain ⟨p, hp⟩ : ∃ p, pickN dn 60 = p := ⟨_, rfl⟩
  have hp60 : p < 60 := by rw [← hp]; exact pickN_lt dn 60 (by decide)
  have HPD : Hid (∀ W, Calls Try.prog 14 #[.int .i64 dn, .int .i64 (60 : Int)] W fun e w' => e = .returned (.int .i64 (p : Int)) ∧ w' = W) := fun W => by
    have h := pick_any dn 60 W hd (by decide) (by decide)
    rw [hp] at h
    exact h
  obtain ⟨u, hu⟩ : ∃ u, pickN di 4 = u := ⟨_, rfl⟩
  have hu4 : u < 4 := by rw [← hu]; exact pickN_lt di 4 (by decide)
  have HPI : Hid (∀ W, Calls Try.prog 14 #[.int .i64 di, .int .i64 (4 : Int)] W fun e w' => e = .returned (.int .i64 (u : Int)) ∧ w' = W) := fun W => by
    have h := pick_any di 4 W hdi (by decide) (by decide)
    rw [hu] at h
    exact h
  obtain ⟨dl, hdle⟩ : ∃ x : Int, 1 + (p : Int) = x := ⟨_, rfl⟩
  have hdl : (1 : Int) ≤ dl ∧ dl ≤ 1073741824 := by omega
  have sw1 : IntKind.i64.wrap (1 + (p : Int)) = dl := by rw [IntWalk.i64_in _ (by omega)]; exact hdle
  obtain ⟨i, hi⟩ : ∃ i : Nat, 1 + u = i := ⟨_, rfl⟩
  obtain ⟨iI, hiI⟩ : ∃ x : Int, (i : Int) = x := ⟨_, rfl⟩
  have hi1 : 1 ≤ i := by omega
  have hi6 : i ≤ 60 := by omega
  have sw2 : IntKind.i64.wrap (1 + (u : Int)) = iI := by rw [IntWalk.i64_in _ (by omega)]; omega
  have HII := Lib.hid hiI
  have H8 : Hid (∀ W A1 c1, Sat w0 W (Row 3 1 A1 m c1 (nums t) :: F) → Calls Try.prog 8 #[.slice A1 m c1, .int .i64 dl] W fun e w' => ∃ r, e = .returned (.tuple #[.pointer (some ⟨r, 0, none⟩), .int .i64 0]) ∧ Sat w0 w' (PRet r t dl noneW :: Row 3 1 A1 m c1 (nums t) :: F)) := fun W A1 c1 h => by
    have h2 := pnew_ok (c := c1) h.rowNs hm hdl h
    rw [hmm] at h2
    exact h2
  have H9 : Hid (∀ W A1 c1 r, Sat w0 W (PRet r t dl noneW :: Row 3 1 A1 m c1 (nums t) :: F) → Calls Try.prog 8 #[.slice A1 m c1, .int .i64 dl] W fun e w' => ∃ s, e = .returned (.tuple #[.pointer (some ⟨s, 0, none⟩), .int .i64 0]) ∧
      Sat w0 w' (PRet r t dl noneW :: PRet s t dl noneW :: F)) := fun W A1 c1 r h => by
    have h2 := pnew_ok (c := c1) h.r2.rowNs hm hdl h
    rw [hmm] at h2
    refine h2.mono ?_
    rintro e w' ⟨s, rfl, h3⟩
    exact ⟨s, rfl, h3.r3.tail.r2⟩
  have HLV : Hid (∀ W G, Sat w0 W G → Calls Try.prog 10 #[] W fun e w' => e = .returned (.bool true) ∧ Sat w0 w' G) := fun W G h => live_any h
  obtain ⟨n, hn⟩ : ∃ n, l.length = n := ⟨_, rfl⟩
  obtain ⟨n0, hn0⟩ : ∃ n, raw.length = n := ⟨_, rfl⟩
  have HN := Lib.hid hn
  have HLW := Lib.hid hlw
  have HC : Hid (∀ wr G, Sat w0 wr (G ++ F) → ∀ k (hk : k < l.length), ∃ b of, B = some ⟨b, of, none⟩ ∧ wr.cell? ⟨b, of + k * 3, none⟩ = some (.int .i64 l[k].act) ∧ wr.cell? ⟨b, of + k * 3 + 1, none⟩ = some (.int .i64 l[k].id) ∧ wr.cell? ⟨b, of + k * 3 + 2, none⟩ = some (.int .i64 l[k].at_)) :=
    fun wr G h k hk => rop_cells hE (h.old (List.mem_append_right _ hO)) k hk
  rw [hn] at hll ⊢
  rw [hn0] at H13 ⊢
  have HM := Lib.hid hm
  have HDL := Lib.hid hdl
  clear hK hl hwf hd hdi hE hO hS ht hp hm hmm hn hn0 hdl htl hlw hu hi hdle hiI
  go_enter Try.func7, Try.ntmps7
  go_wp2_with fail
  refine H13.out.mono ?_
  rintro e w1 ⟨A1, c1, rfl, h1⟩
  have H1 := Lib.hid h1
  clear h1 H13
  go_wp2_with fail
  refine (HPD.out _).mono ?_
  rintro e w2 ⟨rfl, rfl⟩
  go_wp2_with fail
  refine (HPI.out _).mono ?_
  rintro e w3 ⟨rfl, rfl⟩
  go_wp2_with fail
  refine (H8.out _ _ _ H1.out).mono ?_
  rintro e w4 ⟨r, rfl, h4⟩
  have H4 := Lib.hid h4
  clear h4 H1
  go_wp2_with fail
  refine (H9.out _ _ _ _ H4.out).mono ?_
  rintro e w5 ⟨s, rfl, h5⟩
  have H5 := Lib.hid h5
  clear h5 H4
  go_wp2_with fail
  refine (HLV.out _ _ H5.out).mono ?_
  rintro e w6 ⟨rfl, h6⟩
  have H6 := Lib.hid h6
  clear h6 H5 H8 H9 HLV HPD HPI
  go_wp2_with fail
  go_loopw [14, 15] (ApR w0 F r s t dl i n) (fun _ k _ => n - (intOf k).toNat)
  case atStart => exact ⟨0, noneW, noneW, 0, Nat.zero_le _, rfl, rfl, Int.le_refl _, by omega, WOk.start, WOk.start, Alone.start, H6.out⟩
  case round =>
    obtain ⟨k, W, V, now, hk, rfl, rfl, hnow0, hnow4, hW, hV, hAl, hS⟩ := hrel
    clear H6
    by_cases hlt : k < n
    · obtain ⟨b, z, rfl, x0, x1, x2⟩ := HC.out wr [_, _] hS k (by rw [HN.out]; exact hlt)
      have howf := HLW.out (l[k]'(by rw [HN.out]; exact hlt)) (List.getElem_mem _)
      obtain ⟨o, ho⟩ : ∃ o, l[k]'(by rw [HN.out]; exact hlt) = o := ⟨_, rfl⟩
      rw [ho] at x0 x1 x2 howf
      obtain ⟨act, id, at_⟩ := o
      obtain ⟨wf0, wf1, wf2⟩ := howf
      simp only at x0 x1 x2 wf0 wf1 wf2
      obtain ⟨ka, hka⟩ : ∃ x, pickN id 4 = x := ⟨_, rfl⟩
      obtain ⟨aa, haa⟩ : ∃ x : Int, ((pickN act 4 : Nat) : Int) = x := ⟨_, rfl⟩
      obtain ⟨na, hna⟩ : ∃ x, pickN at_ 5 = x := ⟨_, rfl⟩
      have hka4 : ka < 4 := by rw [← hka]; exact pickN_lt id 4 (by decide)
      have hna5 : na < 5 := by rw [← hna]; exact pickN_lt at_ 5 (by decide)
      have HPK : Hid (∀ W, Calls Try.prog 14 #[.int .i64 id, .int .i64 (4 : Int)] W fun e w' => e = .returned (.int .i64 (ka : Int)) ∧ w' = W) := fun W => by
        have h := pick_any id 4 W wf1 (by decide) (by decide)
        rw [hka] at h
        exact h
      have HPA : Hid (∀ W, Calls Try.prog 14 #[.int .i64 act, .int .i64 (4 : Int)] W fun e w' => e = .returned (.int .i64 aa) ∧ w' = W) := fun W => by
        have h := pick_any act 4 W wf0 (by decide) (by decide)
        rw [haa] at h
        exact h
      have HPN : Hid (∀ W, Calls Try.prog 14 #[.int .i64 at_, .int .i64 (5 : Int)] W fun e w' => e = .returned (.int .i64 (na : Int)) ∧ w' = W) := fun W => by
        have h := pick_any at_ 5 W wf2 (by decide) (by decide)
        rw [hna] at h
        exact h
      have haR : 0 ≤ aa ∧ aa < 4 := by
        have := pickN_lt act 4 (by decide)
        omega
      obtain ⟨kI, hkI⟩ : ∃ x : Int, 1 + (ka : Int) = x := ⟨_, rfl⟩
      have sw3 : IntKind.i64.wrap (1 + (ka : Int)) = kI := by rw [IntWalk.i64_in _ (by omega)]; exact hkI
      obtain ⟨nw, hnw⟩ : ∃ x : Int, now + (na : Int) = x := ⟨_, rfl⟩
      have sw4 : IntKind.i64.wrap (now + (na : Int)) = nw := by rw [IntWalk.i64_in _ (by omega)]; exact hnw
      have hnw0 : 0 ≤ nw ∧ nw ≤ 4 * ((k + 1 : Nat) : Int) := by omega
      have HWN : Hid (WOk W (k : Int)) := hW
      have HVN : Hid (WOk V (k : Int)) := hV
      have HAL : Hid (Alone i W V) := hAl
      obtain ⟨ob, hob⟩ : ∃ ob, wr.heap.size = ob := ⟨_, rfl⟩
      have hU := hS.new #[.int .i64 act, .int .i64 id, .int .i64 at_] 45
      rw [hob] at hU
      have HU := Lib.hid hU.b3
      obtain ⟨G, hG⟩ : ∃ G, G = Blk ob 45 [.int .i64 act, .int .i64 id, .int .i64 at_] :: F := ⟨_, rfl⟩
      have HG := Lib.hid hG
      change Hid (Sat w0 _ (PRet r t dl W :: PRet s t dl V :: Blk ob 45 [.int .i64 act, .int .i64 id, .int .i64 at_] :: F)) at HU
      rw [← hG] at HU
      have CELL : Hid (∀ W L, Sat w0 W (L ++ G) → W.cell? ⟨ob, 0, none⟩ = some (.int .i64 act) ∧ W.cell? ⟨ob, 1, none⟩ = some (.int .i64 id) ∧ W.cell? ⟨ob, 2, none⟩ = some (.int .i64 at_)) := fun W L h => by
        rw [HG.out] at h
        have h2 : Sat w0 W (Blk ob 45 [.int .i64 act, .int .i64 id, .int .i64 at_] :: (F ++ L)) := h.swapA
        exact ⟨h2.blk.cell 0, h2.blk.cell 1, h2.blk.cell 2⟩
      have HDROP : Hid (∀ W E D, Sat w0 W (PRet r t dl E :: PRet s t dl D :: G) → Sat w0 W (PRet r t dl E :: PRet s t dl D :: F)) := fun W E D h => by
        rw [HG.out] at h
        exact h.r3.tail
      have hk64 : (k : Int) ≤ 4611686018427387904 := by omega
      clear hS hW hV hAl ho hU hG wf0 wf1 wf2 hka haa hna hkI hnw hka4 hna5
      go_upto_region 13 with fail
      obtain ⟨W1, hW1⟩ : ∃ x, x = wr.alloc (.cells #[.int .i64 act, .int .i64 id, .int .i64 at_] 45) := ⟨_, rfl⟩
      rw [← hW1] at HU ⊢
      try rw [hob]
      clear hW1 x0 x1 x2 hob
      obtain ⟨x0, x1, x2⟩ := CELL.out W1 [_, _] HU.out
      go_wp2_with fail
      refine (HPK.out _).mono ?_
      rintro e w2 ⟨rfl, rfl⟩
      go_wp2_with fail
      refine (HPA.out _).mono ?_
      rintro e w3 ⟨rfl, rfl⟩
      by_cases a0 : aa = 0
      · have t1 : (aa == 0) = true := by simp [a0]
        have z1 : (aa == 1) = false := by simp [a0]
        have z2 : (aa == 2) = false := by simp [a0]
        have z3 : (aa == 3) = false := by simp [a0]
        clear a0
        obtain ⟨v, E, hB⟩ : ∃ v E, beginE t dl W kI now = (v, E) := ⟨_, _, rfl⟩
        have HWE : Hid (WOk E ((k + 1 : Nat) : Int)) := by
          have h := HWN.out.begin (by omega) HM.out HDL.out.1 (dl := dl) (id := kI) (now := now)
          rw [hB] at h
          exact h.up (by omega)
        have HC1 : Hid (∀ W', Sat w0 W' (PRet r t dl W :: PRet s t dl V :: G) → Calls Try.prog 15 #[.pointer (some ⟨r, 0, none⟩), .int .i64 kI, .int .i64 now] W' fun e w' => e = .returned (.int .i64 v) ∧ Sat w0 w' (PRet r t dl E :: PRet s t dl V :: G)) := fun W' h => by
          have h2 := pbegin_any kI now HM.out HDL.out h
          rw [hB] at h2
          exact h2
        have hS := HU.out
        by_cases hki : kI = iI
        · have tk : (kI == iI) = true := by simp [hki]
          have hke : kI = (i : Int) := by rw [hki]; exact HII.out.symm
          obtain ⟨D, hD⟩ : ∃ D, (beginE t dl V kI now).2 = D := ⟨_, rfl⟩
          have hAA := HAL.out.begin (t := t) (dl := dl) hi1 hi6 now
          rw [← hke, hB, hD] at hAA
          have HAE : Hid (Alone i E D) := hAA.2
          have HVE : Hid (WOk D ((k + 1 : Nat) : Int)) := by
            have h := HVN.out.begin (by omega) HM.out HDL.out.1 (dl := dl) (id := kI) (now := now)
            rw [hD] at h
            exact h.up (by omega)
          have HC2 : Hid (∀ W', Sat w0 W' (PRet r t dl E :: PRet s t dl V :: G) → Calls Try.prog 15 #[.pointer (some ⟨s, 0, none⟩), .int .i64 kI, .int .i64 now] W' fun e w' => e = .returned (.int .i64 v) ∧ Sat w0 w' (PRet r t dl E :: PRet s t dl D :: G)) := fun W' h => by
            have h2 := pbegin_any kI now HM.out HDL.out h.r2
            rw [hAA.1, hD] at h2
            refine h2.mono ?_
            rintro e w' ⟨rfl, h3⟩
            exact ⟨rfl, h3.r2⟩
          have qv : (v != v) = false := by simp
          clear hke hAA hD hB hki hS x0 x1 x2
          go_wp2_with fail
          refine (HC1.out _ HU.out).mono ?_
          rintro e w5 ⟨rfl, h5⟩
          have H5 := Lib.hid h5
          clear h5 HU
          go_wp2_with fail
          refine (HC2.out _ H5.out).mono ?_
          rintro e w6 ⟨rfl, h6⟩
          have H6 := Lib.hid h6
          clear h6 H5
          go_wp2_with fail
          go_roundw
          case rel => exact ⟨k + 1, E, D, now, by omega, by go_num, rfl, hnow0, by omega, HWE.out, HVE.out, HAE.out, HDROP.out _ _ _ H6.out⟩
          case measure => simp [intOf]; omega
        · have tk : (kI == iI) = false := by simp [hki]
          have HAE : Hid (Alone i E V) := by
            have h := HAL.out.begin2 (t := t) (dl := dl) (by rw [HII.out]; exact hki) now
            rw [hB] at h
            exact h
          clear hB hki hS x0 x1 x2
          go_wp2_with fail
          refine (HC1.out _ HU.out).mono ?_
          rintro e w5 ⟨rfl, h5⟩
          have H5 := Lib.hid h5
          clear h5 HU
          go_wp2_with fail
          go_roundw
          case rel => exact ⟨k + 1, E, V, now, by omega, by go_num, rfl, hnow0, by omega, HWE.out, HVN.out.up (by omega), HAE.out, HDROP.out _ _ _ H5.out⟩
          case measure => simp [intOf]; omega
      · by_cases a1 : aa = 1
        · have t1 : (aa == 0) = false := by simp [a0]
          have t2 : (aa == 1) = true := by simp [a1]
          have z2 : (aa == 2) = false := by simp [a1]
          have z3 : (aa == 3) = false := by simp [a1]
          clear a0 a1
          obtain ⟨v, E, hB⟩ : ∃ v E, movedE t W kI now = (v, E) := ⟨_, _, rfl⟩
          have HWE : Hid (WOk E ((k + 1 : Nat) : Int)) := by
            have h := HWN.out.moved (by omega) HM.out (id := kI) (now := now)
            rw [hB] at h
            exact h.up (by omega)
          have HC1 : Hid (∀ W', Sat w0 W' (PRet r t dl W :: PRet s t dl V :: G) → Calls Try.prog 18 #[.pointer (some ⟨r, 0, none⟩), .int .i64 kI, .int .i64 now] W' fun e w' => e = .returned (.int .i64 v) ∧ Sat w0 w' (PRet r t dl E :: PRet s t dl V :: G)) := fun W' h => by
            have h2 := pmoved_any kI now HM.out h
            rw [hB] at h2
            exact h2
          have hS := HU.out
          by_cases hki : kI = iI
          · have tk : (kI == iI) = true := by simp [hki]
            have hke : kI = (i : Int) := by rw [hki]; exact HII.out.symm
            obtain ⟨D, hD⟩ : ∃ D, (movedE t V kI now).2 = D := ⟨_, rfl⟩
            have hAA := HAL.out.moved (t := t) hi1 hi6 now
            rw [← hke, hB, hD] at hAA
            have HAE : Hid (Alone i E D) := hAA.2
            have HVE : Hid (WOk D ((k + 1 : Nat) : Int)) := by
              have h := HVN.out.moved (by omega) HM.out (id := kI) (now := now)
              rw [hD] at h
              exact h.up (by omega)
            have HC2 : Hid (∀ W', Sat w0 W' (PRet r t dl E :: PRet s t dl V :: G) → Calls Try.prog 18 #[.pointer (some ⟨s, 0, none⟩), .int .i64 kI, .int .i64 now] W' fun e w' => e = .returned (.int .i64 v) ∧ Sat w0 w' (PRet r t dl E :: PRet s t dl D :: G)) := fun W' h => by
              have h2 := pmoved_any kI now HM.out h.r2
              rw [hAA.1, hD] at h2
              refine h2.mono ?_
              rintro e w' ⟨rfl, h3⟩
              exact ⟨rfl, h3.r2⟩
            have qv : (v != v) = false := by simp
            clear hke hAA hD hB hki hS x0 x1 x2
            go_wp2_with fail
            refine (HC1.out _ HU.out).mono ?_
            rintro e w5 ⟨rfl, h5⟩
            have H5 := Lib.hid h5
            clear h5 HU
            go_wp2_with fail
            refine (HC2.out _ H5.out).mono ?_
            rintro e w6 ⟨rfl, h6⟩
            have H6 := Lib.hid h6
            clear h6 H5
            go_wp2_with fail
            go_roundw
            case rel => exact ⟨k + 1, E, D, now, by omega, by go_num, rfl, hnow0, by omega, HWE.out, HVE.out, HAE.out, HDROP.out _ _ _ H6.out⟩
            case measure => simp [intOf]; omega
          · have tk : (kI == iI) = false := by simp [hki]
            have HAE : Hid (Alone i E V) := by
              have h := HAL.out.moved2 (t := t) (by rw [HII.out]; exact hki) now
              rw [hB] at h
              exact h
            clear hB hki hS x0 x1 x2
            go_wp2_with fail
            refine (HC1.out _ HU.out).mono ?_
            rintro e w5 ⟨rfl, h5⟩
            have H5 := Lib.hid h5
            clear h5 HU
            go_wp2_with fail
            go_roundw
            case rel => exact ⟨k + 1, E, V, now, by omega, by go_num, rfl, hnow0, by omega, HWE.out, HVN.out.up (by omega), HAE.out, HDROP.out _ _ _ H5.out⟩
            case measure => simp [intOf]; omega
        · by_cases a2 : aa = 2
          · have t1 : (aa == 0) = false := by simp [a0]
            have t2 : (aa == 1) = false := by simp [a1]
            have t3 : (aa == 2) = true := by simp [a2]
            have z3 : (aa == 3) = false := by simp [a2]
            clear a0 a1 a2
            obtain ⟨v, E, hB⟩ : ∃ v E, stopE W kI = (v, E) := ⟨_, _, rfl⟩
            have HWE : Hid (WOk E ((k + 1 : Nat) : Int)) := by
              have h := HWN.out.stop (by omega) (id := kI)
              rw [hB] at h
              exact h.up (by omega)
            have HC1 : Hid (∀ W', Sat w0 W' (PRet r t dl W :: PRet s t dl V :: G) → Calls Try.prog 19 #[.pointer (some ⟨r, 0, none⟩), .int .i64 kI] W' fun e w' => e = .returned (.int .i64 v) ∧ Sat w0 w' (PRet r t dl E :: PRet s t dl V :: G)) := fun W' h => by
              have h2 := pstop_any kI h
              rw [hB] at h2
              exact h2
            have hS := HU.out
            by_cases hki : kI = iI
            · have tk : (kI == iI) = true := by simp [hki]
              have hke : kI = (i : Int) := by rw [hki]; exact HII.out.symm
              obtain ⟨D, hD⟩ : ∃ D, (stopE V kI).2 = D := ⟨_, rfl⟩
              have hAA := HAL.out.stop hi1 hi6
              rw [← hke, hB, hD] at hAA
              have HAE : Hid (Alone i E D) := hAA.2
              have HVE : Hid (WOk D ((k + 1 : Nat) : Int)) := by
                have h := HVN.out.stop (by omega) (id := kI)
                rw [hD] at h
                exact h.up (by omega)
              have HC2 : Hid (∀ W', Sat w0 W' (PRet r t dl E :: PRet s t dl V :: G) → Calls Try.prog 19 #[.pointer (some ⟨s, 0, none⟩), .int .i64 kI] W' fun e w' => e = .returned (.int .i64 v) ∧ Sat w0 w' (PRet r t dl E :: PRet s t dl D :: G)) := fun W' h => by
                have h2 := pstop_any kI h.r2
                rw [hAA.1, hD] at h2
                refine h2.mono ?_
                rintro e w' ⟨rfl, h3⟩
                exact ⟨rfl, h3.r2⟩
              have qv : (v != v) = false := by simp
              clear hke hAA hD hB hki hS x0 x1 x2
              go_wp2_with fail
              refine (HC1.out _ HU.out).mono ?_
              rintro e w5 ⟨rfl, h5⟩
              have H5 := Lib.hid h5
              clear h5 HU
              go_wp2_with fail
              refine (HC2.out _ H5.out).mono ?_
              rintro e w6 ⟨rfl, h6⟩
              have H6 := Lib.hid h6
              clear h6 H5
              go_wp2_with fail
              go_roundw
              case rel => exact ⟨k + 1, E, D, now, by omega, by go_num, rfl, hnow0, by omega, HWE.out, HVE.out, HAE.out, HDROP.out _ _ _ H6.out⟩
              case measure => simp [intOf]; omega
            · have tk : (kI == iI) = false := by simp [hki]
              have HAE : Hid (Alone i E V) := by
                have h := HAL.out.stop2 (by rw [HII.out]; exact hki)
                rw [hB] at h
                exact h
              clear hB hki hS x0 x1 x2
              go_wp2_with fail
              refine (HC1.out _ HU.out).mono ?_
              rintro e w5 ⟨rfl, h5⟩
              have H5 := Lib.hid h5
              clear h5 HU
              go_wp2_with fail
              go_roundw
              case rel => exact ⟨k + 1, E, V, now, by omega, by go_num, rfl, hnow0, by omega, HWE.out, HVN.out.up (by omega), HAE.out, HDROP.out _ _ _ H5.out⟩
              case measure => simp [intOf]; omega
          · have t1 : (aa == 0) = false := by simp [a0]
            have t2 : (aa == 1) = false := by simp [a1]
            have t3 : (aa == 2) = false := by simp [a2]
            have t4 : (aa == 3) = true := by
              have : aa = 3 := by omega
              simp [this]
            obtain ⟨E, D, n1, n2, n3, n4, l1, l2, l3, l4, b1, b2, hWE, hVE, hAE, hn3, hn4, hD⟩ := due_apart (w0 := w0) (G := G) (r := r) (s := s) (dl := dl) nw HM.out HWN.out HVN.out ⟨by omega, hk64⟩ HAL.out hi1 hi6
            rw [HII.out] at hD
            have HWE := Lib.hid hWE
            have HVE := Lib.hid hVE
            have HAE := Lib.hid hAE
            have HD := Lib.hid hD
            have qb1 : (b1 != b1) = false := by simp
            have qb2 : (b2 != b2) = false := by simp
            have g3 : decide ((1 : Int) < (n3 : Int)) = false := decide_eq_false (by omega)
            have g4 : decide ((1 : Int) < (n4 : Int)) = false := decide_eq_false (by omega)
            have g3' : ¬ (1 : Int) < (n3 : Int) := by omega
            have g4' : ¬ (1 : Int) < (n4 : Int) := by omega
            have qh : (0 : Int) = 0 := rfl
            clear a0 a1 a2 hWE hVE hAE hD
            go_wp2_with fail
            refine (HPN.out _).mono ?_
            rintro e w4 ⟨rfl, rfl⟩
            go_wp2_with fail
            refine (HD.out.p _ HU.out).mono ?_
            rintro e w5 ⟨A5, c5, A6, c6, rfl, h5⟩
            have H5 := Lib.hid h5
            clear h5 HU x0 x1 x2
            go_wp2_with fail
            refine (HD.out.q _ _ _ _ _ H5.out).mono ?_
            rintro e w6 ⟨A7, c7, A8, c8, rfl, h6, K1, K2, K3, K4⟩
            have H6 := Lib.hid h6
            have K1 := Lib.hid K1
            have K2 := Lib.hid K2
            have K3 := Lib.hid K3
            have K4 := Lib.hid K4
            clear h6 H5
            go_wp2_with fail
            refine K1.out.mono ?_
            rintro e w7 ⟨rfl, rfl⟩
            go_wp2_with fail
            refine K3.out.mono ?_
            rintro e w7 ⟨rfl, rfl⟩
            go_wp2_with fail
            refine K2.out.mono ?_
            rintro e w7 ⟨rfl, rfl⟩
            go_wp2_with fail
            refine K4.out.mono ?_
            rintro e w7 ⟨rfl, rfl⟩
            cases hkk : (kI == iI) <;>
            (go_wp2_with fail
             go_roundw
             case rel => exact ⟨k + 1, E, D, nw, by omega, by go_num, rfl, hnw0.1, hnw0.2, by rw [Int.natCast_succ]; exact HWE.out, by rw [Int.natCast_succ]; exact HVE.out, HAE.out, HDROP.out _ _ _ H6.out⟩
             case measure => simp [intOf]; omega)
    · have HS := Lib.hid hS.tail.tail
      clear hS hW hV hAl
      go_wp2_with fail
      go_ret
      exact ⟨rfl, HS.out⟩
end
theorem retryApart_walk (a0 : Option Addr) (len0 cap0 : Nat) (z0 : List Int) (a1 a2 : Int) (a3 : Option Addr) (len3 cap3 : Nat) (z3 : List ROp) (w : World) (w0 : NumsAt w a0 len0 cap0 z0) (y0 : len0 * 8 ≤ 140737488351232) (w1 : (Lit.int .i64 a1).wf = true) (w2 : (Lit.int .i64 a2).wf = true) (w3 : OpsAt w a3 len3 cap3 z3) (y3 : len3 * 24 ≤ 140737488351232) :
    Calls Try.prog 7 #[.slice a0 len0 cap0, .int .i64 a1, .int .i64 a2, .slice a3 len3 cap3] w fun e w' => e = .returned (.bool true) ∧ Below w.heap.size w w' := by
  have hn := w0.ns
  obtain ⟨rfl, _, hwf⟩ := w0
  obtain ⟨rfl, hE, hlw⟩ := w3
  refine (apart_any (fun W G h => hn.keep (h.old (List.mem_append_right _ (by simp)))) (by omega) hwf (wf64_of w1) (wf64_of w2) hE hlw (by omega) (by simp) (Sat.start w)).mono ?_
  rintro e w' ⟨rfl, h⟩
  exact ⟨rfl, h.old (by simp)⟩
end Go.Proofs.Ytbgbpibfmdkndaa
