/- The walk of RetryScripts. -/
import Derived.Test.YtbgbpibfmdkndaaRT
import Derived.Test.YtbgbpibfmdkndaaRN
import Derived.Test.YtbgbpibfmdkndaaRE
import Derived.Test.YtbgbpibfmdkndaaRF
set_option linter.unusedVariables false
set_option linter.unusedSimpArgs false
set_option linter.unnecessarySimpa false
set_option maxRecDepth 100000
namespace Go.Proofs.Ytbgbpibfmdkndaa
open Go.RowKit Go.ChangeShapes Go.WideShapes Go.ChangeAt
/-- the words of a Due of both, and of the comparison behind it -/
structure DueW (w0 : World) (G : List HP) (r x : Nat) (t : List Int) (dl : Int) (W E : List Wt) (now : Int) (n1 n2 : Nat) (l1 l2 : List Int) : Prop where
  p : ∀ Wd, Sat w0 Wd (PRet r t dl W :: RDoc x t dl W :: G) → Calls Try.prog 16 #[.pointer (some ⟨r, 0, none⟩), .int .i64 now] Wd fun e w' => ∃ A1 c1 A2 c2, e = .returned (.tuple #[.slice A1 n1 c1, .slice A2 n2 c2]) ∧
    Sat w0 w' (Row 3 1 A1 n1 c1 (nums l1) :: Row 3 1 A2 n2 c2 (nums l2) :: PRet r t dl E :: RDoc x t dl W :: G)
  d : ∀ A1 c1 A2 c2 Wd, Sat w0 Wd (Row 3 1 A1 n1 c1 (nums l1) :: Row 3 1 A2 n2 c2 (nums l2) :: PRet r t dl E :: RDoc x t dl W :: G) → Calls Try.prog 24 #[.pointer (some ⟨x, 0, none⟩), .int .i64 now] Wd fun e w' => ∃ A3 c3 A4 c4, e = .returned (.tuple #[.slice A3 n1 c3, .slice A4 n2 c4]) ∧
    Sat w0 w' (Row 3 1 A3 n1 c3 (nums l1) :: Row 3 1 A4 n2 c4 (nums l2) :: Row 3 1 A1 n1 c1 (nums l1) :: Row 3 1 A2 n2 c2 (nums l2) :: PRet r t dl E :: RDoc x t dl E :: G)
  s1 : ∀ A1 c1 A2 c2 A3 c3 A4 c4 Wd, Sat w0 Wd (Row 3 1 A3 n1 c3 (nums l1) :: Row 3 1 A4 n2 c4 (nums l2) :: Row 3 1 A1 n1 c1 (nums l1) :: Row 3 1 A2 n2 c2 (nums l2) :: PRet r t dl E :: RDoc x t dl E :: G) →
    Calls Try.prog 25 #[.slice A1 n1 c1, .slice A3 n1 c3] Wd fun e w' => e = .returned (.bool true) ∧ Sat w0 w' (Row 3 1 A4 n2 c4 (nums l2) :: Row 3 1 A1 n1 c1 (nums l1) :: Row 3 1 A2 n2 c2 (nums l2) :: PRet r t dl E :: RDoc x t dl E :: G)
  s2 : ∀ A1 c1 A2 c2 A4 c4 Wd, Sat w0 Wd (Row 3 1 A4 n2 c4 (nums l2) :: Row 3 1 A1 n1 c1 (nums l1) :: Row 3 1 A2 n2 c2 (nums l2) :: PRet r t dl E :: RDoc x t dl E :: G) →
    Calls Try.prog 25 #[.slice A2 n2 c2, .slice A4 n2 c4] Wd fun e w' => e = .returned (.bool true) ∧ Sat w0 w' (Row 3 1 A1 n1 c1 (nums l1) :: Row 3 1 A2 n2 c2 (nums l2) :: PRet r t dl E :: RDoc x t dl E :: G)
  f1 : ∀ A1 c1 A2 c2 Wd, Sat w0 Wd (Row 3 1 A1 n1 c1 (nums l1) :: Row 3 1 A2 n2 c2 (nums l2) :: PRet r t dl E :: RDoc x t dl E :: G) → Calls Try.prog 20 #[.slice A1 n1 c1] Wd fun e w' => e = .returned (.tuple #[]) ∧ Sat w0 w' (Row 3 1 A2 n2 c2 (nums l2) :: PRet r t dl E :: RDoc x t dl E :: G)
  f2 : ∀ A2 c2 Wd, Sat w0 Wd (Row 3 1 A2 n2 c2 (nums l2) :: PRet r t dl E :: RDoc x t dl E :: G) → Calls Try.prog 20 #[.slice A2 n2 c2] Wd fun e w' => e = .returned (.tuple #[]) ∧ Sat w0 w' (PRet r t dl E :: RDoc x t dl E :: G)
theorem due_words {w0 : World} {G : List HP} {r x : Nat} {t : List Int} {dl : Int} {W : List Wt} {N : Int} (now : Int) (hm : mayB t = true) (hW : WOk W N) (hN : 0 ≤ N ∧ N ≤ 4611686018427387904) :
    ∃ n1 n2 l1 l2 E, WOk E (N + 1) ∧ DueW w0 G r x t dl W E now n1 n2 l1 l2 := by
  have q1 := agT_len W now
  have q2 := ltT_len W now
  refine ⟨_, _, agT W now, ltT W now, dueT t now W, hW.dueT hN.1 hm, ⟨fun Wd h => pdue_all hm hW hN h, fun A1 c1 A2 c2 Wd h => ?_, fun A1 c1 A2 c2 A3 c3 A4 c4 Wd h => ?_, fun A1 c1 A2 c2 A4 c4 Wd h => ?_, fun A1 c1 A2 c2 Wd h => filled_any h (by omega), fun A2 c2 Wd h => filled_any h (by omega)⟩⟩
  · refine (rdue_all hm hW hN h.r4).mono ?_
    rintro e w' ⟨A3, c3, A4, c4, rfl, h2⟩
    exact ⟨A3, c3, A4, c4, rfl, h2.perm ((((List.Perm.swap _ _ _).trans ((List.Perm.swap _ _ _).cons _)).trans (((List.Perm.swap _ _ _).cons _).cons _)).cons _ |>.cons _)⟩
  · refine (same_any (c := c1) (e := c3) (L := agT W now) (M := agT W now) h.r3.rowNs h.rowNs (by omega) (by omega)).mono ?_
    rintro e w' ⟨rfl, q, rfl⟩
    exact ⟨by rw [decide_eq_true rfl], h.tail.drewN q⟩
  · refine (same_any (c := c2) (e := c4) (L := ltT W now) (M := ltT W now) h.r3.rowNs h.rowNs (by omega) (by omega)).mono ?_
    rintro e w' ⟨rfl, q, rfl⟩
    exact ⟨by rw [decide_eq_true rfl], h.tail.drewN q⟩
def ScR (w0 : World) (F : List HP) (r x : Nat) (t : List Int) (dl : Int) (n : Nat) (i : Value) (wr : World) : Prop :=
  ∃ (k : Nat) (W : List Wt), k ≤ n ∧ i = .int .i64 k ∧ WOk W (k : Int) ∧ Sat w0 wr (PRet r t dl W :: RDoc x t dl W :: F)
section
variable {w w0 : World} {F : List HP} {A B : Option Addr} {c d : Nat}
set_option maxHeartbeats 6400000 in
theorem scripts_any {raw : List Int} {dn : Int} {l : List ROp} (hK : NsF w0 F A raw) (hl : raw.length ≤ 140737488351232) (hwf : ∀ x ∈ raw, wf64 x) (hd : wf64 dn)
    (hE : Elems w0 (.slice B l.length d) 3 (l.map ROp.vs)) (hll : l.length ≤ 140737488351232) (hO : Old w0 ∈ F) (hS : Sat w0 w F) :
    Calls Try.prog 6 #[.slice A raw.length c, .int .i64 dn, .slice B l.length d] w fun e w' => e = .returned (.bool true) ∧ Sat w0 w' F := by
  obtain ⟨t, ht⟩ : ∃ t, fitN raw = t := ⟨_, rfl⟩
  obtain ⟨p, hp⟩ : ∃ p, pickN dn 100 = p := ⟨_, rfl⟩
  have hp100 : p < 100 := by rw [← hp]; exact pickN_lt dn 100 (by decide)
  have hm : mayB t = true := by rw [← ht]; exact fit_may raw
  have htl : t.length ≤ 1000 := by have := (may_len hm).2.1; omega
  have H13 := Lib.hid (fit_any (c := c) hK hl hwf hS)
  have H14 : Hid (∀ W, Calls Try.prog 14 #[.int .i64 dn, .int .i64 (100 : Int)] W fun e w' => e = .returned (.int .i64 (p : Int)) ∧ w' = W) := fun W => by
    have h := pick_any dn 100 W hd (by decide) (by decide)
    rw [hp] at h
    exact h
  rw [ht] at H13
  obtain ⟨m, hmm⟩ : ∃ m, t.length = m := ⟨_, rfl⟩
  have hdl : (1 : Int) ≤ 1 + (p : Int) ∧ 1 + (p : Int) ≤ 1073741824 := by omega
  have sw1 : IntKind.i64.wrap (1 + (p : Int)) = 1 + (p : Int) := IntWalk.i64_in _ (by omega)
  have H8 : Hid (∀ W A1 c1, Sat w0 W (Row 3 1 A1 m c1 (nums t) :: F) → Calls Try.prog 8 #[.slice A1 m c1, .int .i64 (1 + (p : Int))] W fun e w' => ∃ r, e = .returned (.tuple #[.pointer (some ⟨r, 0, none⟩), .int .i64 0]) ∧ Sat w0 w' (PRet r t (1 + (p : Int)) noneW :: Row 3 1 A1 m c1 (nums t) :: F)) := fun W A1 c1 h => by
    have h2 := pnew_ok (c := c1) h.rowNs hm hdl h
    rw [hmm] at h2
    exact h2
  have H9 : Hid (∀ W A1 c1 r, Sat w0 W (PRet r t (1 + (p : Int)) noneW :: Row 3 1 A1 m c1 (nums t) :: F) → Calls Try.prog 9 #[.slice A1 m c1, .int .i64 (1 + (p : Int))] W fun e w' => ∃ x, e = .returned (.tuple #[.pointer (some ⟨x, 0, none⟩), .int .i64 0]) ∧
      Sat w0 w' (Row 3 1 A1 m c1 (nums t) :: PRet r t (1 + (p : Int)) noneW :: RDoc x t (1 + (p : Int)) noneW :: F)) := fun W A1 c1 r h => by
    have h2 := rnew_ok (c := c1) h.r2.rowNs hm hdl h
    rw [hmm] at h2
    refine h2.mono ?_
    rintro e w' ⟨x, rfl, h3⟩
    exact ⟨x, rfl, h3.r3.perm ((List.Perm.swap _ _ _).cons _)⟩
  have H20 : Hid (∀ W A1 c1 G, Sat w0 W (Row 3 1 A1 m c1 (nums t) :: G) → Calls Try.prog 20 #[.slice A1 m c1] W fun e w' => e = .returned (.tuple #[]) ∧ Sat w0 w' G) := fun W A1 c1 G h => filled_any h (by omega)
  have HLV : Hid (∀ W G, Sat w0 W G → Calls Try.prog 10 #[] W fun e w' => e = .returned (.bool true) ∧ Sat w0 w' G) := fun W G h => live_any h
  rw [hmm] at H13
  obtain ⟨n, hn⟩ : ∃ n, l.length = n := ⟨_, rfl⟩
  obtain ⟨n0, hn0⟩ : ∃ n, raw.length = n := ⟨_, rfl⟩
  have HN := Lib.hid hn
  have HC : Hid (∀ wr G, Sat w0 wr (G ++ F) → ∀ k (hk : k < l.length), ∃ b of, B = some ⟨b, of, none⟩ ∧ wr.cell? ⟨b, of + k * 3, none⟩ = some (.int .i64 l[k].act) ∧ wr.cell? ⟨b, of + k * 3 + 1, none⟩ = some (.int .i64 l[k].id) ∧ wr.cell? ⟨b, of + k * 3 + 2, none⟩ = some (.int .i64 l[k].at_)) :=
    fun wr G h k hk => rop_cells hE (h.old (List.mem_append_right _ hO)) k hk
  rw [hn] at hll ⊢
  rw [hn0] at H13 ⊢
  have HM := Lib.hid hm
  have HDL := Lib.hid hdl
  have HO := Lib.hid hO
  clear hK hl hwf hd hE hO hS ht hp hm hmm hn hn0 hdl htl
  go_enter Try.func6, Try.ntmps6
  go_wp2_with fail
  refine H13.out.mono ?_
  rintro e w1 ⟨A1, c1, rfl, h1⟩
  have H1 := Lib.hid h1
  clear h1 H13
  go_wp2_with fail
  refine (H14.out _).mono ?_
  rintro e w2 ⟨rfl, rfl⟩
  go_wp2_with fail
  refine (H8.out _ _ _ H1.out).mono ?_
  rintro e w3 ⟨r, rfl, h3⟩
  have H3 := Lib.hid h3
  clear h3 H1
  go_wp2_with fail
  refine (H14.out _).mono ?_
  rintro e w4 ⟨rfl, rfl⟩
  go_wp2_with fail
  refine (H9.out _ _ _ _ H3.out).mono ?_
  rintro e w5 ⟨x, rfl, h5⟩
  have H5 := Lib.hid h5
  clear h5 H3
  go_wp2_with fail
  refine (HLV.out _ _ H5.out).mono ?_
  rintro e w6 ⟨rfl, h6⟩
  have H6 := Lib.hid h6
  clear h6 H5
  go_wp2_with fail
  refine (H20.out _ _ _ _ H6.out).mono ?_
  rintro e w7 ⟨rfl, h7⟩
  have H7 := Lib.hid h7
  clear h7 H6 H8 H9 H14 H20 HLV
  go_wp2_with fail
  go_loopw [12] (ScR w0 F r x t (1 + (p : Int)) n) (fun i _ => n - (intOf i).toNat)
  case atStart => exact ⟨0, noneW, Nat.zero_le _, rfl, WOk.start, H7.out⟩
  case round =>
    obtain ⟨k, W, hk, rfl, hW, hS⟩ := hrel
    clear H7
    by_cases hlt : k < n
    · obtain ⟨b, s, rfl, x0, x1, x2⟩ := HC.out wr [_, _] hS k (by rw [HN.out]; exact hlt)
      obtain ⟨o, ho⟩ : ∃ o, l[k]'(by rw [HN.out]; exact hlt) = o := ⟨_, rfl⟩
      rw [ho] at x0 x1 x2
      obtain ⟨act, id, at_⟩ := o
      simp only at x0 x1 x2
      have HWN : Hid (WOk W (k : Int)) := hW
      obtain ⟨ob, hob⟩ : ∃ ob, wr.heap.size = ob := ⟨_, rfl⟩
      have hU := hS.new #[.int .i64 act, .int .i64 id, .int .i64 at_] 45
      rw [hob] at hU
      have HU := Lib.hid hU.b3
      obtain ⟨G, hG⟩ : ∃ G, G = Blk ob 45 [.int .i64 act, .int .i64 id, .int .i64 at_] :: F := ⟨_, rfl⟩
      have HG := Lib.hid hG
      change Hid (Sat w0 _ (PRet r t (1 + (p : Int)) W :: RDoc x t (1 + (p : Int)) W :: Blk ob 45 [.int .i64 act, .int .i64 id, .int .i64 at_] :: F)) at HU
      rw [← hG] at HU
      have CELL : Hid (∀ W L, Sat w0 W (L ++ G) → W.cell? ⟨ob, 0, none⟩ = some (.int .i64 act) ∧ W.cell? ⟨ob, 1, none⟩ = some (.int .i64 id) ∧ W.cell? ⟨ob, 2, none⟩ = some (.int .i64 at_)) := fun W L h => by
        rw [HG.out] at h
        have h2 : Sat w0 W (Blk ob 45 [.int .i64 act, .int .i64 id, .int .i64 at_] :: (F ++ L)) := h.swapA
        exact ⟨h2.blk.cell 0, h2.blk.cell 1, h2.blk.cell 2⟩
      have HDROP : Hid (∀ W E, Sat w0 W (PRet r t (1 + (p : Int)) E :: RDoc x t (1 + (p : Int)) E :: G) → Sat w0 W (PRet r t (1 + (p : Int)) E :: RDoc x t (1 + (p : Int)) E :: F)) := fun W E h => by
        rw [HG.out] at h
        exact h.r3.tail
      have hk64 : (k : Int) ≤ 4611686018427387904 := by omega
      clear hS hW ho hU hG
      go_upto_region 11 with fail
      obtain ⟨W1, hW1⟩ : ∃ x, x = wr.alloc (.cells #[.int .i64 act, .int .i64 id, .int .i64 at_] 45) := ⟨_, rfl⟩
      rw [← hW1] at HU ⊢
      try rw [hob]
      clear hW1 x0 x1 x2 hob
      by_cases a0 : act = 0
      · have t1 : (act == 0) = true := by simp [a0]
        obtain ⟨v, E, hB⟩ : ∃ v E, beginE t (1 + (p : Int)) W id at_ = (v, E) := ⟨_, _, rfl⟩
        have HWE : Hid (WOk E ((k + 1 : Nat) : Int)) := by
          have h := HWN.out.begin (by omega) HM.out HDL.out.1 (dl := 1 + (p : Int)) (id := id) (now := at_)
          rw [hB] at h
          exact h.up (by omega)
        have HC1 : Hid (∀ Q W', Sat w0 W' (PRet r t (1 + (p : Int)) W :: RDoc x t (1 + (p : Int)) Q :: G) → Calls Try.prog 15 #[.pointer (some ⟨r, 0, none⟩), .int .i64 id, .int .i64 at_] W' fun e w' => e = .returned (.int .i64 v) ∧ Sat w0 w' (PRet r t (1 + (p : Int)) E :: RDoc x t (1 + (p : Int)) Q :: G)) := fun Q W' h => by
          have h2 := pbegin_any id at_ HM.out HDL.out h
          rw [hB] at h2
          exact h2
        have HC2 : Hid (∀ Q W', Sat w0 W' (PRet r t (1 + (p : Int)) Q :: RDoc x t (1 + (p : Int)) W :: G) → Calls Try.prog 21 #[.pointer (some ⟨x, 0, none⟩), .int .i64 id, .int .i64 at_] W' fun e w' => e = .returned (.int .i64 v) ∧ Sat w0 w' (PRet r t (1 + (p : Int)) Q :: RDoc x t (1 + (p : Int)) E :: G)) := fun Q W' h => by
          have h2 := rbegin_any id at_ HWN.out.len HM.out HDL.out h.r2
          rw [hB] at h2
          refine h2.mono ?_
          rintro e w' ⟨rfl, h3⟩
          exact ⟨rfl, h3.r2⟩
        have q1 : (v == v) = true := by simp
        have z1 : (act == 1) = false := by simp [a0]
        have z2 : (act == 2) = false := by simp [a0]
        have z3 : (act == 3) = false := by simp [a0]
        clear a0 hB
        have hS := HU.out
        obtain ⟨x0, x1, x2⟩ := CELL.out W1 [_, _] hS
        go_wp2_with fail
        go_region_held3 (fun w' => w'.cell? ⟨ob, 1, none⟩ = some (.int .i64 id) ∧ w'.cell? ⟨ob, 2, none⟩ = some (.int .i64 at_))
          (first | exact ⟨x1, x2⟩ | exact ⟨y1, y2⟩ | exact ⟨v1, v2⟩)
          (first
            | (go_at_call 15; refine (HC1.out _ _ hS.drew).mono ?_; rintro e w5 ⟨rfl, h5⟩; obtain ⟨y0, y1, y2⟩ := CELL.out w5 [_, _] h5)
            | (go_at_call 21; refine (HC2.out _ _ h5).mono ?_; rintro e w6 ⟨rfl, h6⟩; obtain ⟨v0, v1, v2⟩ := CELL.out w6 [_, _] h6)
            | (go_at_call 21; refine (HC2.out _ _ hS.drew).mono ?_; rintro e w5 ⟨rfl, h5⟩; obtain ⟨y0, y1, y2⟩ := CELL.out w5 [_, _] h5)
            | (go_at_call 15; refine (HC1.out _ _ h5).mono ?_; rintro e w6 ⟨rfl, h6⟩; obtain ⟨v0, v1, v2⟩ := CELL.out w6 [_, _] h6))
        all_goals
          have H6 := Lib.hid h6
          clear h5 h6 hS HU x0 x1 x2 y0 y1 y2
          go_wp2_with fail
          go_roundw
          case rel => exact ⟨k + 1, E, by omega, by go_num, HWE.out, HDROP.out _ _ H6.out⟩
          case measure => simp [intOf]; omega
      · by_cases a1 : act = 1
        · have t1 : (act == 0) = false := by simp [a0]
          have t2 : (act == 1) = true := by simp [a1]
          obtain ⟨v, E, hB⟩ : ∃ v E, movedE t W id at_ = (v, E) := ⟨_, _, rfl⟩
          have HWE : Hid (WOk E ((k + 1 : Nat) : Int)) := by
            have h := HWN.out.moved (by omega) HM.out (id := id) (now := at_)
            rw [hB] at h
            exact h.up (by omega)
          have HC1 : Hid (∀ Q W', Sat w0 W' (PRet r t (1 + (p : Int)) W :: RDoc x t (1 + (p : Int)) Q :: G) → Calls Try.prog 18 #[.pointer (some ⟨r, 0, none⟩), .int .i64 id, .int .i64 at_] W' fun e w' => e = .returned (.int .i64 v) ∧ Sat w0 w' (PRet r t (1 + (p : Int)) E :: RDoc x t (1 + (p : Int)) Q :: G)) := fun Q W' h => by
            have h2 := pmoved_any id at_ HM.out h
            rw [hB] at h2
            exact h2
          have HC2 : Hid (∀ Q W', Sat w0 W' (PRet r t (1 + (p : Int)) Q :: RDoc x t (1 + (p : Int)) W :: G) → Calls Try.prog 22 #[.pointer (some ⟨x, 0, none⟩), .int .i64 id, .int .i64 at_] W' fun e w' => e = .returned (.int .i64 v) ∧ Sat w0 w' (PRet r t (1 + (p : Int)) Q :: RDoc x t (1 + (p : Int)) E :: G)) := fun Q W' h => by
            have h2 := rmoved_any id at_ HWN.out.len HM.out h.r2
            rw [hB] at h2
            refine h2.mono ?_
            rintro e w' ⟨rfl, h3⟩
            exact ⟨rfl, h3.r2⟩
          have q1 : (v == v) = true := by simp
          have z2 : (act == 2) = false := by simp [a1]
          have z3 : (act == 3) = false := by simp [a1]
          clear a0 a1 hB
          have hS := HU.out
          obtain ⟨x0, x1, x2⟩ := CELL.out W1 [_, _] hS
          go_wp2_with fail
          go_region_held3 (fun w' => w'.cell? ⟨ob, 1, none⟩ = some (.int .i64 id) ∧ w'.cell? ⟨ob, 2, none⟩ = some (.int .i64 at_))
            (first | exact ⟨x1, x2⟩ | exact ⟨y1, y2⟩ | exact ⟨v1, v2⟩)
            (first
              | (go_at_call 18; refine (HC1.out _ _ hS.drew).mono ?_; rintro e w5 ⟨rfl, h5⟩; obtain ⟨y0, y1, y2⟩ := CELL.out w5 [_, _] h5)
              | (go_at_call 22; refine (HC2.out _ _ h5).mono ?_; rintro e w6 ⟨rfl, h6⟩; obtain ⟨v0, v1, v2⟩ := CELL.out w6 [_, _] h6)
              | (go_at_call 22; refine (HC2.out _ _ hS.drew).mono ?_; rintro e w5 ⟨rfl, h5⟩; obtain ⟨y0, y1, y2⟩ := CELL.out w5 [_, _] h5)
              | (go_at_call 18; refine (HC1.out _ _ h5).mono ?_; rintro e w6 ⟨rfl, h6⟩; obtain ⟨v0, v1, v2⟩ := CELL.out w6 [_, _] h6))
          all_goals
            have H6 := Lib.hid h6
            clear h5 h6 hS HU x0 x1 x2 y0 y1 y2
            go_wp2_with fail
            go_roundw
            case rel => exact ⟨k + 1, E, by omega, by go_num, HWE.out, HDROP.out _ _ H6.out⟩
            case measure => simp [intOf]; omega
        · by_cases a2 : act = 2
          · have t1 : (act == 0) = false := by simp [a0]
            have t2 : (act == 1) = false := by simp [a1]
            have t3 : (act == 2) = true := by simp [a2]
            obtain ⟨v, E, hB⟩ : ∃ v E, stopE W id = (v, E) := ⟨_, _, rfl⟩
            have HWE : Hid (WOk E ((k + 1 : Nat) : Int)) := by
              have h := HWN.out.stop (by omega) (id := id)
              rw [hB] at h
              exact h.up (by omega)
            have HC1 : Hid (∀ Q W', Sat w0 W' (PRet r t (1 + (p : Int)) W :: RDoc x t (1 + (p : Int)) Q :: G) → Calls Try.prog 19 #[.pointer (some ⟨r, 0, none⟩), .int .i64 id] W' fun e w' => e = .returned (.int .i64 v) ∧ Sat w0 w' (PRet r t (1 + (p : Int)) E :: RDoc x t (1 + (p : Int)) Q :: G)) := fun Q W' h => by
              have h2 := pstop_any id h
              rw [hB] at h2
              exact h2
            have HC2 : Hid (∀ Q W', Sat w0 W' (PRet r t (1 + (p : Int)) Q :: RDoc x t (1 + (p : Int)) W :: G) → Calls Try.prog 23 #[.pointer (some ⟨x, 0, none⟩), .int .i64 id] W' fun e w' => e = .returned (.int .i64 v) ∧ Sat w0 w' (PRet r t (1 + (p : Int)) Q :: RDoc x t (1 + (p : Int)) E :: G)) := fun Q W' h => by
              have h2 := rstop_any id HWN.out.len h.r2
              rw [hB] at h2
              refine h2.mono ?_
              rintro e w' ⟨rfl, h3⟩
              exact ⟨rfl, h3.r2⟩
            have q1 : (v == v) = true := by simp
            have z3 : (act == 3) = false := by simp [a2]
            clear a0 a1 a2 hB
            have hS := HU.out
            obtain ⟨x0, x1, x2⟩ := CELL.out W1 [_, _] hS
            go_wp2_with fail
            go_region_held3 (fun w' => w'.cell? ⟨ob, 1, none⟩ = some (.int .i64 id))
              (first | exact x1 | exact y1 | exact v1)
              (first
                | (go_at_call 19; refine (HC1.out _ _ hS.drew).mono ?_; rintro e w5 ⟨rfl, h5⟩; obtain ⟨y0, y1, y2⟩ := CELL.out w5 [_, _] h5)
                | (go_at_call 23; refine (HC2.out _ _ h5).mono ?_; rintro e w6 ⟨rfl, h6⟩; obtain ⟨v0, v1, v2⟩ := CELL.out w6 [_, _] h6)
                | (go_at_call 23; refine (HC2.out _ _ hS.drew).mono ?_; rintro e w5 ⟨rfl, h5⟩; obtain ⟨y0, y1, y2⟩ := CELL.out w5 [_, _] h5)
                | (go_at_call 19; refine (HC1.out _ _ h5).mono ?_; rintro e w6 ⟨rfl, h6⟩; obtain ⟨v0, v1, v2⟩ := CELL.out w6 [_, _] h6))
            all_goals
              have H6 := Lib.hid h6
              clear h5 h6 hS HU x0 x1 x2 y0 y1 y2
              go_wp2_with fail
              go_roundw
              case rel => exact ⟨k + 1, E, by omega, by go_num, HWE.out, HDROP.out _ _ H6.out⟩
              case measure => simp [intOf]; omega
          · have t1 : (act == 0) = false := by simp [a0]
            have t2 : (act == 1) = false := by simp [a1]
            have t3 : (act == 2) = false := by simp [a2]
            by_cases a3 : act = 3
            · have t4 : (act == 3) = true := by simp [a3]
              obtain ⟨n1, n2, l1, l2, E, hWE, hD⟩ := due_words (w0 := w0) (G := G) (r := r) (x := x) (dl := 1 + (p : Int)) at_ HM.out HWN.out ⟨by omega, hk64⟩
              have HWE := Lib.hid hWE
              have HD := Lib.hid hD
              clear a0 a1 a2 a3 hWE hD
              obtain ⟨x0, x1, x2⟩ := CELL.out W1 [_, _] HU.out
              go_wp2_with fail
              refine (HD.out.p _ HU.out).mono ?_
              rintro e w3 ⟨A3, c3, A4, c4, rfl, h3⟩
              have H3 := Lib.hid h3
              clear HU x0 x1 x2
              obtain ⟨x0, x1, x2⟩ := CELL.out w3 [_, _, _, _] h3
              clear h3
              go_wp2_with fail
              refine (HD.out.d _ _ _ _ _ H3.out).mono ?_
              rintro e w4 ⟨A5, c5, A6, c6, rfl, h4⟩
              have H4 := Lib.hid h4
              clear h4 H3 x0 x1 x2
              go_wp2_with fail
              refine (HD.out.s1 _ _ _ _ _ _ _ _ _ H4.out).mono ?_
              rintro e w5 ⟨rfl, h5⟩
              have H5 := Lib.hid h5
              clear h5 H4
              go_wp2_with fail
              refine (HD.out.s2 _ _ _ _ _ _ _ H5.out).mono ?_
              rintro e w6 ⟨rfl, h6⟩
              have H6 := Lib.hid h6
              clear h6 H5
              go_wp2_with fail
              refine (HD.out.f1 _ _ _ _ _ H6.out).mono ?_
              rintro e w7 ⟨rfl, h7⟩
              have H7 := Lib.hid h7
              clear h7 H6
              go_wp2_with fail
              refine (HD.out.f2 _ _ _ H7.out).mono ?_
              rintro e w8 ⟨rfl, h8⟩
              have H8 := Lib.hid h8
              clear h8 H7
              go_wp2_with fail
              go_roundw
              case rel => exact ⟨k + 1, E, by omega, by go_num, by rw [Int.natCast_succ]; exact HWE.out, HDROP.out _ _ H8.out⟩
              case measure => simp [intOf]; omega
            · have t4 : (act == 3) = false := by simp [a3]
              clear a0 a1 a2 a3
              obtain ⟨x0, x1, x2⟩ := CELL.out W1 [_, _] HU.out
              go_wp2_with fail
              go_roundw
              case rel => exact ⟨k + 1, W, by omega, by go_num, HWN.out.up (by omega), HDROP.out _ _ HU.out⟩
              case measure => simp [intOf]; omega
    · obtain ⟨n1, n2, l1, l2, E, hWE, hD⟩ := due_words (w0 := w0) (G := F) (r := r) (x := x) (dl := 1 + (p : Int)) 1073741824 HM.out hW ⟨by omega, by omega⟩
      have HD := Lib.hid hD
      have HS := Lib.hid hS
      clear hWE hD hS hW
      go_wp2_with fail
      refine (HD.out.p _ HS.out).mono ?_
      rintro e w3 ⟨A3, c3, A4, c4, rfl, h3⟩
      have H3 := Lib.hid h3
      clear h3 HS
      go_wp2_with fail
      refine (HD.out.d _ _ _ _ _ H3.out).mono ?_
      rintro e w4 ⟨A5, c5, A6, c6, rfl, h4⟩
      have H4 := Lib.hid h4
      clear h4 H3
      go_wp2_with fail
      refine (HD.out.s1 _ _ _ _ _ _ _ _ _ H4.out).mono ?_
      rintro e w5 ⟨rfl, h5⟩
      have H5 := Lib.hid h5
      clear h5 H4
      go_wp2_with fail
      refine (HD.out.s2 _ _ _ _ _ _ _ H5.out).mono ?_
      rintro e w6 ⟨rfl, h6⟩
      have H6 := Lib.hid h6.tail.tail.tail.tail
      clear h6 H5
      go_wp2_with fail
      go_ret
      exact ⟨rfl, H6.out⟩
end
theorem retryScripts_walk (a0 : Option Addr) (len0 cap0 : Nat) (z0 : List Int) (a1 : Int) (a2 : Option Addr) (len2 cap2 : Nat) (z2 : List ROp) (w : World) (w0 : NumsAt w a0 len0 cap0 z0) (y0 : len0 * 8 ≤ 140737488351232) (w1 : (Lit.int .i64 a1).wf = true) (w2 : OpsAt w a2 len2 cap2 z2) (y2 : len2 * 24 ≤ 140737488351232) :
    Calls Try.prog 6 #[.slice a0 len0 cap0, .int .i64 a1, .slice a2 len2 cap2] w fun e w' => e = .returned (.bool true) ∧ Below w.heap.size w w' := by
  have hn := w0.ns
  obtain ⟨rfl, _, hwf⟩ := w0
  obtain ⟨rfl, hE, _⟩ := w2
  refine (scripts_any (fun W G h => hn.keep (h.old (List.mem_append_right _ (by simp)))) (by omega) hwf (wf64_of w1) hE (by omega) (by simp) (Sat.start w)).mono ?_
  rintro e w' ⟨rfl, h⟩
  exact ⟨rfl, h.old (by simp)⟩
end Go.Proofs.Ytbgbpibfmdkndaa
