/- The document's Same, of any two definitions. -/
import Derived.Test.YtpmoanjeoaeabaaDoorRA
set_option linter.unusedVariables false
set_option linter.unusedSimpArgs false
set_option linter.unnecessarySimpa false
set_option maxRecDepth 100000
namespace Go.Proofs.YtpmoanjeoaeabaaDoor
open Go.RowKit Go.ChangeShapes Go.WideShapes Go.ChangeAt
open Classical in
/-- do two definitions say the same? -/
noncomputable def likeB (a d : Df) : Bool := decide (Like a d)
open Classical in
theorem like_yes {a d : Df} (h : Like a d) : likeB a d = true := by unfold likeB; exact decide_eq_true h
open Classical in
theorem like_no {a d : Df} (h : ¬ Like a d) : likeB a d = false := by unfold likeB; exact decide_eq_false h
theorem str_ne {a b : ByteArray} (h : ¬ a = b) : (a.toList != b.toList) = true := by rw [bne, str_no h]; rfl
theorem str_eq {a b : ByteArray} (h : a = b) : (a.toList != b.toList) = false := by rw [bne, str_yes h]; rfl
theorem str_nn {a b : ByteArray} (h : ¬ a = b) : ¬ a.toList = b.toList := fun e => by
  have := str_no h
  rw [e] at this
  simp at this
theorem like_of {a d : Df} (h1 : a.name = d.name) (h2 : a.steps.length = d.steps.length) (h3 : ∀ j (hj : j < a.steps.length) (hj2 : j < d.steps.length), a.steps[j].core = d.steps[j].core) : Like a d := by
  refine ⟨h1, List.ext_getElem (by rw [List.length_map, List.length_map, h2]) fun j g1 g2 => ?_⟩
  rw [List.getElem_map, List.getElem_map]
  exact h3 j _ _
theorem list_of {α : Type} {l m : List α} {z : α} (h : l.length = m.length) (he : ∀ j, j < l.length → l.getD j z = m.getD j z) : l = m := by
  refine List.ext_getElem h fun j g1 g2 => ?_
  have := he j g1
  rwa [← List.getElem_eq_getD (h := g1), ← List.getElem_eq_getD (h := g2)] at this
def SaRel (W : World) (L : List HP) (a d : Df) (n : Nat) (x : Value) (wr : World) : Prop :=
  ∃ k : Nat, k ≤ n ∧ x = .int .i64 k ∧ Sat W wr L ∧ ∀ j (hj : j < a.steps.length) (hj2 : j < d.steps.length), j < k → a.steps[j].core = d.steps[j].core
def SbRel {α : Type} (W : World) (L : List HP) (l m : List α) (z : α) (x : Value) (wr : World) : Prop :=
  ∃ k : Nat, k ≤ l.length ∧ x = .int .i64 k ∧ Sat W wr L ∧ ∀ j, j < k → l.getD j z = m.getD j z
set_option maxHeartbeats 6400000 in
theorem same10_any {w : World} {a d : Df} (ha : DefAt w a) (hd : DefAt w d) (hz : Fits a) (hz2 : Fits d) : Calls Tryd.prog 28 #[a.v, d.v] w (Quietly w (.bool (likeB a d))) := by
  have HA := Lib.hid ha
  have HD := Lib.hid hd
  have HZ := Lib.hid hz
  have HZ2 := Lib.hid hz2
  have HNM : Hid (a.name ≠ d.name → likeB a d = false) := fun h => like_no fun g => h g.name
  have HLE : Hid (a.steps.length ≠ d.steps.length → likeB a d = false) := fun h => like_no fun g => h g.len
  have HCO : Hid (∀ j (hj : j < a.steps.length) (hj2 : j < d.steps.length), a.steps[j].core ≠ d.steps[j].core → likeB a d = false) := fun j hj hj2 h => like_no fun g => h (core_at g hj hj2)
  have HOK : Hid (a.name = d.name → a.steps.length = d.steps.length → (∀ j (hj : j < a.steps.length) (hj2 : j < d.steps.length), a.steps[j].core = d.steps[j].core) → likeB a d = true) := fun h1 h2 h3 => like_yes (like_of h1 h2 h3)
  obtain ⟨r, hr⟩ : ∃ x, likeB a d = x := ⟨_, rfl⟩
  rw [hr] at HNM HLE HCO HOK ⊢
  have hn5 := hz.steps
  have hn6 := hz2.steps
  obtain ⟨b, hb⟩ : ∃ b, w.heap.size = b := ⟨_, rfl⟩
  have hs1 : (w.alloc (.cells #[.string a.name, .slice a.A a.steps.length a.c] 24)).heap.size = w.heap.size + 1 := by simp
  have h2 := ((Sat.start w).new #[.string a.name, .slice a.A a.steps.length a.c] 24).new #[.string d.name, .slice d.A d.steps.length d.c] 24
  rw [hs1, hb] at h2
  unfold Df.v Quietly
  obtain ⟨P, hP⟩ : ∃ x, a.A = x := ⟨_, rfl⟩
  obtain ⟨R, hR⟩ : ∃ x, d.A = x := ⟨_, rfl⟩
  rw [hP, hR] at h2 ⊢
  have HP := Lib.hid hP
  have HR := Lib.hid hR
  obtain ⟨n1, hn1⟩ : ∃ x, a.steps.length = x := ⟨_, rfl⟩
  obtain ⟨n, hn⟩ : ∃ x, d.steps.length = x := ⟨_, rfl⟩
  have HN1 := Lib.hid hn1
  have HN := Lib.hid hn
  rw [hn1, hn] at h2 HLE ⊢
  rw [hn1] at hn5
  rw [hn] at hn6
  obtain ⟨na, hna⟩ : ∃ x, a.name = x := ⟨_, rfl⟩
  obtain ⟨nd, hnd⟩ : ∃ x, d.name = x := ⟨_, rfl⟩
  rw [hna, hnd] at h2 HNM HOK ⊢
  have H2 := Lib.hid h2
  clear hna hnd ha hd hz hz2 hr hP hR hs1 h2 hn1 hn
  by_cases hnm : na = nd
  · subst hnm
    by_cases hln : n1 = n
    · subst hln
      have HOK2 : Hid ((∀ j (hj : j < a.steps.length) (hj2 : j < d.steps.length), a.steps[j].core = d.steps[j].core) → r = true) := fun h => HOK.out rfl (by rw [HN1.out, HN.out]) h
      clear HNM HLE HOK
      go_enter Tryd.func28, Tryd.ntmps28
      go_wp2_with fail
      try simp only [hb]
      go_loopw [5] (SaRel w [Blk (b + 1) 24 [.string na, .slice R n1 d.c], Blk b 24 [.string na, .slice P n1 a.c], Old w] a d n1) (fun x _ => n1 - (intOf x).toNat)
      case atStart => exact ⟨0, Nat.zero_le _, rfl, H2.out, fun j _ _ hj => absurd hj (Nat.not_lt_zero _)⟩
      case round =>
        obtain ⟨k, hk, rfl, hS, hok⟩ := hrel
        clear H2
        have h9 := hS.old (by simp)
        by_cases hlt : k < n1
        · have ha1 : k < a.steps.length := by rw [HN1.out]; exact hlt
          have hd1 : k < d.steps.length := by rw [HN.out]; exact hlt
          obtain ⟨g, o, e1, s0, s1, s2, s3, s4⟩ := step_at a (HA.out.keep h9) k ha1
          obtain ⟨g2, o2, e2, t0, t1, t2, t3, t4⟩ := step_at d (HD.out.keep h9) k hd1
          obtain rfl : P = some ⟨g, o, none⟩ := HP.out.symm.trans e1
          obtain rfl : R = some ⟨g2, o2, none⟩ := HR.out.symm.trans e2
          have hsa := HA.out.each _ (List.getElem_mem ha1)
          have hsd := HD.out.each _ (List.getElem_mem hd1)
          have hk1 := HZ.out.keyn _ (List.getElem_mem ha1)
          have hk2 := HZ.out.needs _ (List.getElem_mem ha1)
          have hk3 := HZ2.out.keyn _ (List.getElem_mem hd1)
          have hk4 := HZ2.out.needs _ (List.getElem_mem hd1)
          have HF0 : Hid (a.steps[k].core ≠ d.steps[k].core → r = false) := HCO.out k ha1 hd1
          have HNX : Hid (a.steps[k].core = d.steps[k].core → ∀ j (hj : j < a.steps.length) (hj2 : j < d.steps.length), j < k + 1 → a.steps[j].core = d.steps[j].core) := fun h j hj hj2 hjk => by
            by_cases e : j = k
            · subst e; exact h
            · exact hok j hj hj2 (by omega)
          obtain ⟨s, hs⟩ : ∃ x, a.steps[k] = x := ⟨_, rfl⟩
          obtain ⟨t, ht⟩ : ∃ x, d.steps[k] = x := ⟨_, rfl⟩
          rw [hs] at s0 s1 s2 s3 s4 hsa hk1 hk2 HF0 HNX
          rw [ht] at t0 t1 t2 t3 t4 hsd hk3 hk4 HF0 HNX
          obtain ⟨sn, sk, sp, sks, sns, kA, kc, nA, nc⟩ := s
          obtain ⟨tn, tk', tp, tks, tns, kB, kd, nB, ne⟩ := t
          have HF : Hid (¬ (sn = tn ∧ sk = tk' ∧ sp = tp ∧ sks = tks ∧ sns = tns) → r = false) := fun h => HF0.out fun e => by
            injection e with e1 e2 e3 e4 e5
            exact h ⟨e1, e2, e3, e4, e5⟩
          have HG : Hid ((sn = tn ∧ sk = tk' ∧ sp = tp ∧ sks = tks ∧ sns = tns) → ∀ j (hj : j < a.steps.length) (hj2 : j < d.steps.length), j < k + 1 → a.steps[j].core = d.steps[j].core) := fun ⟨e1, e2, e3, e4, e5⟩ => HNX.out (by subst e1 e2 e3 e4 e5; rfl)
          have hka := hsa.keys
          have hna := hsa.needs
          have hkb := hsd.keys
          have hnb := hsd.needs
          simp only at hk1 hk2 hk3 hk4 hka hna hkb hnb s3 s4 t3 t4
          obtain ⟨m1, hm1⟩ : ∃ m, sks.length = m := ⟨_, rfl⟩
          obtain ⟨m2, hm2⟩ : ∃ m, tks.length = m := ⟨_, rfl⟩
          obtain ⟨m3, hm3⟩ : ∃ m, sns.length = m := ⟨_, rfl⟩
          obtain ⟨m4, hm4⟩ : ∃ m, tns.length = m := ⟨_, rfl⟩
          rw [hm1] at hk1 s3
          rw [hm2] at hk3 t3
          rw [hm3] at hk2 s4
          rw [hm4] at hk4 t4
          have HKA := Lib.hid hka
          have HNA := Lib.hid hna
          have HKB := Lib.hid hkb
          have HNB := Lib.hid hnb
          have HM1 := Lib.hid hm1
          have HM2 := Lib.hid hm2
          have HM3 := Lib.hid hm3
          have HM4 := Lib.hid hm4
          clear hka hna hkb hnb hm1 hm2 hm3 hm4
          have b1 : wr.cell? ⟨b, 1, none⟩ = some (.slice (some ⟨g, o, none⟩) n1 a.c) := hS.r2.blk.cell 1
          have b2 : wr.cell? ⟨b + 1, 1, none⟩ = some (.slice (some ⟨g2, o2, none⟩) n1 d.c) := hS.blk.cell 1
          obtain ⟨q, hq⟩ : ∃ q, wr.heap.size = q := ⟨_, rfl⟩
          have h3 := hS.new #[.string sn, .int .i64 sk, .int .i64 sp, .slice kA m1 kc, .slice nA m3 nc] 35
          have hsz : (wr.alloc (.cells #[.string sn, .int .i64 sk, .int .i64 sp, .slice kA m1 kc, .slice nA m3 nc] 35)).heap.size = wr.heap.size + 1 := by simp
          have h4 := h3.new #[.string tn, .int .i64 tk', .int .i64 tp, .slice kB m2 kd, .slice nB m4 ne] 35
          rw [hsz, hq] at h4
          have u2 := cell_alloc (.cells #[.string sn, .int .i64 sk, .int .i64 sp, .slice kA m1 kc, .slice nA m3 nc] 35) b2
          have v0 := cell_alloc (.cells #[.string sn, .int .i64 sk, .int .i64 sp, .slice kA m1 kc, .slice nA m3 nc] 35) t0
          have v1 := cell_alloc (.cells #[.string sn, .int .i64 sk, .int .i64 sp, .slice kA m1 kc, .slice nA m3 nc] 35) t1
          have v2 := cell_alloc (.cells #[.string sn, .int .i64 sk, .int .i64 sp, .slice kA m1 kc, .slice nA m3 nc] 35) t2
          have v3 := cell_alloc (.cells #[.string sn, .int .i64 sk, .int .i64 sp, .slice kA m1 kc, .slice nA m3 nc] 35) t3
          have v4 := cell_alloc (.cells #[.string sn, .int .i64 sk, .int .i64 sp, .slice kA m1 kc, .slice nA m3 nc] 35) t4
          have H4 := Lib.hid h4
          have HOB := Lib.hid (h4.old (by simp))
          clear h3 h4 hS hsa hsd hs ht e1 e2 hsz hok HF0 HNX h9
          by_cases c1 : sn = tn
          · subst c1
            by_cases c2 : sk = tk'
            · subst c2
              by_cases c3 : sp = tp
              · subst c3
                by_cases c4 : m1 = m2
                · subst c4
                  by_cases c5 : m3 = m4
                  · subst c5
                    have HG2 : Hid (sks = tks → sns = tns → ∀ j (hj : j < a.steps.length) (hj2 : j < d.steps.length), j < k + 1 → a.steps[j].core = d.steps[j].core) := fun e4 e5 => HG.out ⟨rfl, rfl, rfl, e4, e5⟩
                    clear HG
                    go_wp2_with fail
                    try simp only [hq]
                    have HS0 : Hid (Sat w _ [Blk (q + 1) 35 [.string sn, .int .i64 sk, .int .i64 sp, .slice kB m1 kd, .slice nB m3 ne], Blk q 35 [.string sn, .int .i64 sk, .int .i64 sp, .slice kA m1 kc, .slice nA m3 nc], Blk (b + 1) 24 [.string na, .slice (some ⟨g2, o2, none⟩) n1 d.c], Blk b 24 [.string na, .slice (some ⟨g, o, none⟩) n1 a.c], Old w]) := H4.out
                    clear H4 s0 s1 s2 s3 s4 t0 t1 t2 t3 t4 u2 v0 v1 v2 v3 v4 b1 b2
                    go_loopw [8] (SbRel w [Blk (q + 1) 35 [.string sn, .int .i64 sk, .int .i64 sp, .slice kB m1 kd, .slice nB m3 ne], Blk q 35 [.string sn, .int .i64 sk, .int .i64 sp, .slice kA m1 kc, .slice nA m3 nc], Blk (b + 1) 24 [.string na, .slice (some ⟨g2, o2, none⟩) n1 d.c], Blk b 24 [.string na, .slice (some ⟨g, o, none⟩) n1 a.c], Old w] sks tks .empty) (fun x _ => m1 - (intOf x).toNat)
                    case atStart => exact ⟨0, Nat.zero_le _, rfl, HS0.out, fun j hj => absurd hj (Nat.not_lt_zero _)⟩
                    case round =>
                      obtain ⟨v, hv, rfl, hS, hok⟩ := hrel
                      clear HS0
                      rw [HM1.out] at hv
                      have h9 := hS.old (by simp)
                      have k1 : wr.cell? ⟨q, 3, none⟩ = some (.slice kA m1 kc) := hS.r2.blk.cell 3
                      have k2 : wr.cell? ⟨q + 1, 3, none⟩ = some (.slice kB m1 kd) := hS.blk.cell 3
                      by_cases hvl : v < m1
                      · have hv1 : v < sks.length := by rw [HM1.out]; exact hvl
                        have hv2 : v < tks.length := by rw [HM2.out]; exact hvl
                        obtain ⟨b3, o3, rfl, hc⟩ := key_cells (HKA.out.keep h9) (by omega)
                        obtain ⟨b4, o4, rfl, hc2⟩ := key_cells (HKB.out.keep h9) (by omega)
                        have c0 := hc v hv1
                        have c1 := hc2 v hv2
                        have HNX : Hid (sks[v] = tks[v] → ∀ j, j < v + 1 → sks.getD j .empty = tks.getD j .empty) := fun e j hj => by
                          by_cases g : j = v
                          · subst g
                            rw [← List.getElem_eq_getD (h := hv1), ← List.getElem_eq_getD (h := hv2)]
                            exact e
                          · exact hok j (by omega)
                        have HBAD : Hid (¬ sks[v] = tks[v] → r = false) := fun e => HF.out fun h => e (by
                          have h4 : sks = tks := h.2.2.2.1
                          subst h4
                          rfl)
                        obtain ⟨xx, hxx⟩ : ∃ x, sks[v] = x := ⟨_, rfl⟩
                        obtain ⟨yy, hyy⟩ : ∃ x, tks[v] = x := ⟨_, rfl⟩
                        rw [hxx] at c0 HNX HBAD
                        rw [hyy] at c1 HNX HBAD
                        have HS := Lib.hid hS
                        have H9 := Lib.hid h9
                        have hvm : v ≤ m1 := hv
                        clear hc hc2 hxx hyy hS hok h9 hv1 hv2
                        by_cases he : xx = yy
                        · subst he
                          have HN2 := Lib.hid (HNX.out rfl)
                          have s1 : (xx.toList == xx.toList) = true := str_yes rfl
                          go_wp2_with fail
                          go_quiet (fail)
                          go_wp2_with fail
                          go_roundw
                          case rel => exact ⟨v + 1, by rw [HM1.out]; omega, by go_num, HS.out.drewN _, HN2.out⟩
                          case measure => simp [intOf]; omega
                        · obtain rfl := HBAD.out he
                          have s1 : (xx.toList == yy.toList) = false := str_no he
                          have s2 : (xx.toList != yy.toList) = true := str_ne he
                          go_wp2_with fail
                          go_quiet (fail)
                          go_wp2_with fail
                          go_ret
                          exact ⟨rfl, by have h9 := below_drewN H9.out nq; first | exact h9 | (rw [hb] at h9; exact h9)⟩
                      · obtain rfl : m1 = v := by omega
                        have HEQ : Hid (sks = tks) := list_of (z := .empty) (by rw [HM1.out, HM2.out]) (fun j hj => hok j (by rw [← HM1.out]; exact hj))
                        have HS0 := Lib.hid hS
                        clear hS hok h9
                        have HG3 : Hid (sns = tns → ∀ j (hj : j < a.steps.length) (hj2 : j < d.steps.length), j < k + 1 → a.steps[j].core = d.steps[j].core) := fun e => HG2.out HEQ.out e
                        clear HG2 HEQ
                        go_wp2_with fail
                        go_loopw [9] (SbRel w [Blk (q + 1) 35 [.string sn, .int .i64 sk, .int .i64 sp, .slice kB m1 kd, .slice nB m3 ne], Blk q 35 [.string sn, .int .i64 sk, .int .i64 sp, .slice kA m1 kc, .slice nA m3 nc], Blk (b + 1) 24 [.string na, .slice (some ⟨g2, o2, none⟩) n1 d.c], Blk b 24 [.string na, .slice (some ⟨g, o, none⟩) n1 a.c], Old w] sns tns 0) (fun x _ => m3 - (intOf x).toNat)
                        case atStart => exact ⟨0, Nat.zero_le _, rfl, HS0.out, fun j hj => absurd hj (Nat.not_lt_zero _)⟩
                        case round =>
                          obtain ⟨v, hv, rfl, hS, hok⟩ := hrel
                          clear HS0
                          rw [HM3.out] at hv
                          have h9 := hS.old (by simp)
                          have k1 : wr.cell? ⟨q, 4, none⟩ = some (.slice nA m3 nc) := hS.r2.blk.cell 4
                          have k2 : wr.cell? ⟨q + 1, 4, none⟩ = some (.slice nB m3 ne) := hS.blk.cell 4
                          by_cases hvl : v < m3
                          · have hv1 : v < sns.length := by rw [HM3.out]; exact hvl
                            have hv2 : v < tns.length := by rw [HM4.out]; exact hvl
                            obtain ⟨b3, o3, rfl, hc⟩ := need_cells (HNA.out.keep h9) (by omega)
                            obtain ⟨b4, o4, rfl, hc2⟩ := need_cells (HNB.out.keep h9) (by omega)
                            have c0 := hc v hv1
                            have c1 := hc2 v hv2
                            have HNX : Hid (sns[v] = tns[v] → ∀ j, j < v + 1 → sns.getD j 0 = tns.getD j 0) := fun e j hj => by
                              by_cases g : j = v
                              · subst g
                                rw [← List.getElem_eq_getD (h := hv1), ← List.getElem_eq_getD (h := hv2)]
                                exact e
                              · exact hok j (by omega)
                            have HBAD : Hid (¬ sns[v] = tns[v] → r = false) := fun e => HF.out fun h => e (by
                              have h4 : sns = tns := h.2.2.2.2
                              subst h4
                              rfl)
                            obtain ⟨xx, hxx⟩ : ∃ x, sns[v] = x := ⟨_, rfl⟩
                            obtain ⟨yy, hyy⟩ : ∃ x, tns[v] = x := ⟨_, rfl⟩
                            rw [hxx] at c0 HNX HBAD
                            rw [hyy] at c1 HNX HBAD
                            have HS := Lib.hid hS
                            have H9 := Lib.hid h9
                            have hvm : v ≤ m3 := hv
                            clear hc hc2 hxx hyy hS hok h9 hv1 hv2
                            by_cases he : xx = yy
                            · subst he
                              have HN2 := Lib.hid (HNX.out rfl)
                              skip
                              go_wp2_with fail
                              go_quiet (fail)
                              go_wp2_with fail
                              go_roundw
                              case rel => exact ⟨v + 1, by rw [HM3.out]; omega, by go_num, HS.out.drewN _, HN2.out⟩
                              case measure => simp [intOf]; omega
                            · obtain rfl := HBAD.out he
                              have s1 : (xx == yy) = false := by simp [he]
                              have s2 : (xx != yy) = true := by simp [he]
                              go_wp2_with fail
                              go_quiet (fail)
                              go_wp2_with fail
                              go_ret
                              exact ⟨rfl, by have h9 := below_drewN H9.out nq; first | exact h9 | (rw [hb] at h9; exact h9)⟩
                          · obtain rfl : m3 = v := by omega
                            have HEQ : Hid (sns = tns) := list_of (z := 0) (by rw [HM3.out, HM4.out]) (fun j hj => hok j (by rw [← HM3.out]; exact hj))
                            have HS0 := Lib.hid hS
                            clear hS hok h9
                            go_wp2_with fail
                            go_roundw
                            case rel => exact ⟨k + 1, by omega, by go_num, HS0.out.tail.tail, HG3.out HEQ.out⟩
                            case measure => simp [intOf]; omega
                  · have x5 : ¬ (m3 : Int) = (m4 : Int) := by omega
                    obtain rfl := HF.out fun h => c5 (by rw [← HM3.out, ← HM4.out, h.2.2.2.2])
                    go_wp2_with fail
                    go_ret
                    exact ⟨rfl, by have h9 := HOB.out; first | exact h9 | (rw [hb] at h9; exact h9)⟩
                · have x4 : ¬ (m1 : Int) = (m2 : Int) := by omega
                  obtain rfl := HF.out fun h => c4 (by rw [← HM1.out, ← HM2.out, h.2.2.2.1])
                  go_wp2_with fail
                  go_ret
                  exact ⟨rfl, by have h9 := HOB.out; first | exact h9 | (rw [hb] at h9; exact h9)⟩
              · have x3 : (sp != tp) = true := by simp [c3]
                obtain rfl := HF.out fun h => c3 h.2.2.1
                go_wp2_with fail
                go_ret
                exact ⟨rfl, by have h9 := HOB.out; first | exact h9 | (rw [hb] at h9; exact h9)⟩
            · have x2 : (sk != tk') = true := by simp [c2]
              obtain rfl := HF.out fun h => c2 h.2.1
              go_wp2_with fail
              go_ret
              exact ⟨rfl, by have h9 := HOB.out; first | exact h9 | (rw [hb] at h9; exact h9)⟩
          · have x1 : ¬ sn.toList = tn.toList := str_nn c1
            have x11 : (sn.toList != tn.toList) = true := str_ne c1
            obtain rfl := HF.out fun h => c1 h.1
            go_wp2_with fail
            go_ret
            exact ⟨rfl, by have h9 := HOB.out; first | exact h9 | (rw [hb] at h9; exact h9)⟩
        · obtain rfl : k = n1 := by omega
          obtain rfl := HOK2.out fun j hj hj2 => hok j hj hj2 (by rw [← HN1.out]; exact hj)
          have b1 : wr.cell? ⟨b, 1, none⟩ = some (.slice P k a.c) := hS.r2.blk.cell 1
          go_wp2_with fail
          go_ret
          exact ⟨rfl, by first | exact h9 | (rw [hb] at h9; exact h9)⟩
    · obtain rfl := HLE.out hln
      have t2 : ¬ (n1 : Int) = (n : Int) := by omega
      have HOB := Lib.hid (H2.out.old (by simp))
      clear HNM HLE HOK HCO
      go_enter Tryd.func28, Tryd.ntmps28
      go_wp2_with fail
      go_ret
      exact ⟨rfl, by have h9 := HOB.out; first | exact h9 | (rw [hb] at h9; exact h9)⟩
  · obtain rfl := HNM.out hnm
    have t1 : (na.toList != nd.toList) = true := str_ne hnm
    have t11 : ¬ na.toList = nd.toList := str_nn hnm
    have HOB := Lib.hid (H2.out.old (by simp))
    clear HNM HLE HOK HCO
    go_enter Tryd.func28, Tryd.ntmps28
    go_wp2_with fail
    go_ret
    exact ⟨rfl, by have h9 := HOB.out; first | exact h9 | (rw [hb] at h9; exact h9)⟩
end Go.Proofs.YtpmoanjeoaeabaaDoor
