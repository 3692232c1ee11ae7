/- The program's function values of Check that look at pivots, at the order and at the keys. -/
import Derived.Test.YtpmoanjeoaeabaaDoorCU
import Derived.Test.YtpmoanjeoaeabaaDoorCT
import Derived.Test.YtpmoanjeoaeabaaDoorCR
set_option linter.unusedVariables false
set_option linter.unusedSimpArgs false
set_option linter.unnecessarySimpa false
set_option maxRecDepth 100000
namespace Go.Proofs.YtpmoanjeoaeabaaDoor
open Go.RowKit Go.ChangeShapes Go.WideShapes Go.ChangeAt
def boxV (d : Df) : List Value := [.string d.name, .slice d.A d.steps.length d.c]
section
variable {w0 w : World} {F : List HP} {b pb hb mb : Nat} {d : Df}
set_option maxHeartbeats 1600000 in
theorem tells39 (hD : DefAt w0 d) (hO : Old w0 ∈ F) (k : Nat) (hk : k < d.steps.length) (hn : d.steps.length ≤ 1000000) (hP : pivTo d k ≤ 1000000) (hS : Sat w0 w (Blk pb 3 [.int .i64 (pivTo d k : Nat)] :: Blk b 24 (boxV d) :: F)) :
    Calls Tryd.prog 39 #[.int .i64 k, .pointer (some ⟨b, 0, none⟩), .pointer (some ⟨pb, 0, none⟩)] w fun e w' => e = .returned (.bool (pivB d k)) ∧ Sat w0 w' (Blk pb 3 [.int .i64 (pivTo d (k + 1) : Nat)] :: Blk b 24 (boxV d) :: F) := by
  obtain ⟨g, o, hA, _, s1, _⟩ := step_at d (hD.keep (hS.old (by simp [hO]))) k hk
  rw [kind_at d k hk] at s1
  have HPS : Hid (pivTo d (k + 1) = pivTo d k + if kindAt d k = 2 then 1 else 0) := rfl
  have HPB : Hid (pivB d k = decide (1 < pivTo d (k + 1))) := rfl
  have b1 := hS.r2.blk.cell 1
  have p0 := hS.blk.cell 0
  have pf := hS.blk.free 0
  have HS := Lib.hid hS
  unfold boxV at b1
  rw [hA] at b1
  obtain ⟨n, hN⟩ : ∃ n, d.steps.length = n := ⟨_, rfl⟩
  rw [hN] at hk b1 hn
  rw [HPB.out, HPS.out]
  obtain ⟨P, hPP⟩ : ∃ x, pivTo d k = x := ⟨_, rfl⟩
  rw [hPP] at p0 hP HS HPS ⊢
  obtain ⟨kd, hkd⟩ : ∃ x, kindAt d k = x := ⟨_, rfl⟩
  rw [hkd] at s1 ⊢
  clear hS hN hPP hkd HPS HPB
  have i0 : (0 : Int) ≤ (k : Int) := by omega
  have i1 : (k : Int) < (n : Int) := by omega
  by_cases h2 : kd = 2
  · have t2 : (kd == 2) = true := by rw [beq_iff_eq]; exact h2
    rw [if_pos h2]
    have sw : IntKind.i64.wrap ((P : Int) + 1) = (P : Int) + 1 := IntWalk.i64_in _ (by omega)
    have HT := Lib.hid (HS.out.set 0 (.int .i64 ((P + 1 : Nat) : Int)))
    by_cases h1 : 1 < P + 1
    · have t1 : decide ((1 : Int) < (P : Int) + 1) = true := decide_eq_true (by omega)
      have t3 : decide (1 < P + 1) = true := decide_eq_true h1
      rw [t3]
      clear h2 h1 t3
      go_enter Tryd.func39, Tryd.ntmps39
      go_wp2_with fail
      go_ret
      exact ⟨rfl, HT.out⟩
    · have t1 : decide ((1 : Int) < (P : Int) + 1) = false := decide_eq_false (by omega)
      have t3 : decide (1 < P + 1) = false := decide_eq_false h1
      rw [t3]
      clear h2 h1 t3
      go_enter Tryd.func39, Tryd.ntmps39
      go_wp2_with fail
      go_ret
      exact ⟨rfl, HT.out⟩
  · have t2 : (kd == 2) = false := by rw [beq_eq_false_iff_ne]; exact h2
    rw [if_neg h2, Nat.add_zero]
    by_cases h1 : 1 < P
    · have t1 : decide ((1 : Int) < (P : Int)) = true := decide_eq_true (by omega)
      have t3 : decide (1 < P) = true := decide_eq_true h1
      rw [t3]
      clear h2 h1 t3
      go_enter Tryd.func39, Tryd.ntmps39
      go_wp2_with fail
      go_ret
      exact ⟨rfl, HS.out⟩
    · have t1 : decide ((1 : Int) < (P : Int)) = false := decide_eq_false (by omega)
      have t3 : decide (1 < P) = false := decide_eq_false h1
      rw [t3]
      clear h2 h1 t3
      go_enter Tryd.func39, Tryd.ntmps39
      go_wp2_with fail
      go_ret
      exact ⟨rfl, HS.out⟩
set_option maxHeartbeats 1600000 in
theorem tells42 (hD : DefAt w0 d) (hO : Old w0 ∈ F) (m : Nat) (hm : m < d.steps.length) (hn : d.steps.length ≤ 1000000) (hS : Sat w0 w (Blk b 24 (boxV d) :: F)) :
    Calls Tryd.prog 42 #[.int .i64 m, .pointer (some ⟨b, 0, none⟩)] w fun e w' => e = .returned (.bool (decide (kindAt d m ≠ 1))) ∧ Sat w0 w' (Blk b 24 (boxV d) :: F) := by
  obtain ⟨g, o, hA, _, s1, _⟩ := step_at d (hD.keep (hS.old (by simp [hO]))) m hm
  rw [kind_at d m hm] at s1
  have b1 := hS.blk.cell 1
  have HS := Lib.hid hS
  unfold boxV at b1
  rw [hA] at b1
  obtain ⟨n, hN⟩ : ∃ n, d.steps.length = n := ⟨_, rfl⟩
  rw [hN] at hm b1 hn
  obtain ⟨kd, hkd⟩ : ∃ x, kindAt d m = x := ⟨_, rfl⟩
  rw [hkd] at s1 ⊢
  clear hS hN hkd
  have i0 : (0 : Int) ≤ (m : Int) := by omega
  have i1 : (m : Int) < (n : Int) := by omega
  have t1 : (kd != 1) = decide (kd ≠ 1) := by
    by_cases h : kd = 1
    · rw [h]; rfl
    · rw [decide_eq_true h, bne_iff_ne]; exact h
  obtain ⟨v, hv⟩ : ∃ v, decide (kd ≠ 1) = v := ⟨_, rfl⟩
  rw [hv] at t1 ⊢
  clear hv
  go_enter Tryd.func42, Tryd.ntmps42
  go_wp2_with fail
  go_ret
  exact ⟨rfl, HS.out⟩
theorem any_need {l : List Int} {q : Int → Prop} [DecidablePred q] (h : ∀ m ∈ l, 0 ≤ m) : decide (∃ k, k < l.length ∧ decide (q (l.getD k 0)) = true) = decide (∃ m ∈ l, q m) := by
  apply decide_eq_decide.2
  constructor
  · rintro ⟨k, hk, hq⟩
    refine ⟨l[k], List.getElem_mem hk, ?_⟩
    rw [← List.getElem_eq_getD (h := hk)] at hq
    exact of_decide_eq_true hq
  · rintro ⟨m, hm, hq⟩
    obtain ⟨k, hk, rfl⟩ := List.getElem_of_mem hm
    exact ⟨k, hk, by rw [← List.getElem_eq_getD (h := hk)]; exact decide_eq_true hq⟩
set_option maxHeartbeats 1600000 in
theorem tells40 (hD : DefAt w0 d) (hO : Old w0 ∈ F) (hz : Small d) (k : Nat) (hk : k < d.steps.length) (hS : Sat w0 w (Blk b 24 (boxV d) :: F)) :
    Calls Tryd.prog 40 #[.int .i64 k, .pointer (some ⟨b, 0, none⟩)] w fun e w' => e = .returned (.bool (orderB d k)) ∧ Sat w0 w' (Blk b 24 (boxV d) :: F) := by
  obtain ⟨g, o, hA, _, s1, _, _, s4⟩ := step_at d (hD.keep (hS.old (by simp [hO]))) k hk
  rw [kind_at d k hk] at s1
  rw [(nA_at d k hk).1, (nA_at d k hk).2, needs_at d k hk] at s4
  have hcont := contains42 (w := w) (A := nAat d k) (needsAt d k).length (ncat d k) (fun j => (needsAt d k).getD j 0) #[.pointer (some ⟨b, 0, none⟩)] (fun j => decide (kindAt d ((needsAt d k).getD j 0).toNat ≠ 1))
    (fun w1 => Sat w0 w1 (Blk b 24 (boxV d) :: F)) hS (hz.needs k)
    (fun w1 h1 j hj => need_cell d (hD.keep (h1.old (by simp [hO]))) k hk j hj)
    (fun j w1 hj h1 => by
      obtain ⟨e1, e2⟩ := need_nat hz.need hk hj
      have h := tells42 hD hO _ e2 hz.steps h1
      rw [← e1] at h
      have e3 : ((needsAt d k).getD j 0).toNat = (needN d k).getD j 0 := by rw [e1]; rfl
      rw [e3]
      exact h)
  have e := any_need (l := needsAt d k) (q := fun m => kindAt d m.toNat ≠ 1) (fun m hm => (hz.need k hk m hm).1)
  rw [e] at hcont
  have HB : Hid (orderB d k = (decide (kindAt d k ≠ 3) && decide (∃ m ∈ needsAt d k, kindAt d m.toNat ≠ 1))) := by show _ = _; unfold orderB; rw [Bool.decide_and]
  have HC := Lib.hid hcont
  have b1 := hS.blk.cell 1
  have HS := Lib.hid hS
  unfold boxV at b1
  rw [hA] at b1
  have hn := hz.steps
  rw [HB.out]
  obtain ⟨n, hN⟩ : ∃ n, d.steps.length = n := ⟨_, rfl⟩
  rw [hN] at hk b1 hn
  obtain ⟨kd, hkd⟩ : ∃ x, kindAt d k = x := ⟨_, rfl⟩
  rw [hkd] at s1 ⊢
  obtain ⟨v, hv⟩ : ∃ v, decide (∃ m ∈ needsAt d k, kindAt d m.toNat ≠ 1) = v := ⟨_, rfl⟩
  rw [hv] at HC ⊢
  obtain ⟨l, hl⟩ : ∃ v, (needsAt d k).length = v := ⟨_, rfl⟩
  rw [hl] at s4 HC
  clear hS hN hkd hcont e hz hv hl hD HB
  have i0 : (0 : Int) ≤ (k : Int) := by omega
  have i1 : (k : Int) < (n : Int) := by omega
  by_cases h3 : kd = 3
  · have t3 : (kd != 3) = false := by rw [h3]; rfl
    rw [decide_eq_false (by simpa using h3), Bool.false_and]
    clear h3
    go_enter Tryd.func40, Tryd.ntmps40
    go_wp2_with fail
    go_ret
    exact ⟨rfl, HS.out⟩
  · have t3 : (kd != 3) = true := by rw [bne_iff_ne]; exact h3
    rw [decide_eq_true h3, Bool.true_and]
    clear h3
    go_enter Tryd.func40, Tryd.ntmps40
    go_wp2_with fail
    refine HC.out.mono ?_
    rintro e w1 ⟨rfl, h1⟩
    have H1 := Lib.hid h1
    clear h1
    go_wp2_with fail
    go_ret
    exact ⟨rfl, H1.out⟩
set_option maxHeartbeats 1600000 in
theorem tells46 {f : ByteArray → Int} {q : Nat} (s : ByteArray) (hs : s.size ≤ maxLen) (hS : Sat w0 w (MapC mb q f :: Blk hb 66 [.map (some mb)] :: F)) :
    Calls Tryd.prog 46 #[.string s, .pointer (some ⟨hb, 0, none⟩)] w fun e w' => e = .returned (.bool (decide (f s = 0))) ∧ Sat w0 w' (MapC mb q f :: Blk hb 66 [.map (some mb)] :: F) := by
  have hr := hS.mapLook hs
  have b0 := hS.r2.blk.cell 0
  have HS := Lib.hid hS
  obtain ⟨x, hx⟩ : ∃ x, f s = x := ⟨_, rfl⟩
  rw [hx] at hr ⊢
  clear hS hx
  have t1 : (x == 0) = decide (x = 0) := by
    by_cases h : x = 0
    · rw [h]; rfl
    · rw [decide_eq_false h, beq_eq_false_iff_ne]; exact h
  obtain ⟨v, hv⟩ : ∃ v, decide (x = 0) = v := ⟨_, rfl⟩
  rw [hv] at t1 ⊢
  clear hv
  go_enter Tryd.func46, Tryd.ntmps46
  go_wp2_with fail
  go_ret
  exact ⟨rfl, HS.out⟩
/-- has a step a key at which nothing stands? -/
def keyNo (d : Df) (f : ByteArray → Int) (k : Nat) : Bool := decide (∃ j, j < (keysAt d k).length ∧ decide (f (keyAt (keysAt d k) j) = 0) = true)
set_option maxHeartbeats 1600000 in
theorem tells44 {f : ByteArray → Int} {q : Nat} (hD : DefAt w0 d) (hO : Old w0 ∈ F) (hz : Small d) (hks : ∀ k j, (keyAt (keysAt d k) j).size ≤ maxLen) (k : Nat) (hk : k < d.steps.length) (hS : Sat w0 w (MapC mb q f :: Blk hb 66 [.map (some mb)] :: Blk b 24 (boxV d) :: F)) :
    Calls Tryd.prog 44 #[.int .i64 k, .pointer (some ⟨b, 0, none⟩), .pointer (some ⟨hb, 0, none⟩)] w fun e w' => e = .returned (.bool (keyNo d f k)) ∧ Sat w0 w' (MapC mb q f :: Blk hb 66 [.map (some mb)] :: Blk b 24 (boxV d) :: F) := by
  obtain ⟨g, o, hA, _, _, _, s3, _⟩ := step_at d (hD.keep (hS.old (by simp [hO]))) k hk
  rw [(kA_at d k hk).1, (kA_at d k hk).2, keys_at d k hk] at s3
  have hcont := contains46 (w := w) (A := kAat d k) (keysAt d k).length (kcat d k) (fun j => keyAt (keysAt d k) j) #[.pointer (some ⟨hb, 0, none⟩)] (fun j => decide (f (keyAt (keysAt d k) j) = 0))
    (fun w1 => Sat w0 w1 (MapC mb q f :: Blk hb 66 [.map (some mb)] :: Blk b 24 (boxV d) :: F)) hS (hz.keys k)
    (fun w1 h1 j hj => key_cell d (hD.keep (h1.old (by simp [hO]))) k hk j hj)
    (fun j w1 hj h1 => tells46 _ (hks k j) h1)
  have HB : Hid (keyNo d f k = decide (∃ j, j < (keysAt d k).length ∧ decide (f (keyAt (keysAt d k) j) = 0) = true)) := rfl
  have HC := Lib.hid hcont
  have b1 := hS.r3.blk.cell 1
  have HS := Lib.hid hS
  unfold boxV at b1
  rw [hA] at b1
  have hn := hz.steps
  rw [HB.out]
  obtain ⟨n, hN⟩ : ∃ n, d.steps.length = n := ⟨_, rfl⟩
  rw [hN] at hk b1 hn
  obtain ⟨v, hv⟩ : ∃ v, decide (∃ j, j < (keysAt d k).length ∧ decide (f (keyAt (keysAt d k) j) = 0) = true) = v := ⟨_, rfl⟩
  rw [hv] at HC ⊢
  obtain ⟨l, hl⟩ : ∃ v, (keysAt d k).length = v := ⟨_, rfl⟩
  rw [hl] at s3 HC
  clear hS hN hcont hz hv hl hD HB
  have i0 : (0 : Int) ≤ (k : Int) := by omega
  have i1 : (k : Int) < (n : Int) := by omega
  go_enter Tryd.func44, Tryd.ntmps44
  go_wp2_with fail
  refine HC.out.mono ?_
  rintro e w1 ⟨rfl, h1⟩
  have H1 := Lib.hid h1
  clear h1
  go_wp2_with fail
  go_ret
  exact ⟨rfl, H1.out⟩
end
end Go.Proofs.YtpmoanjeoaeabaaDoor
