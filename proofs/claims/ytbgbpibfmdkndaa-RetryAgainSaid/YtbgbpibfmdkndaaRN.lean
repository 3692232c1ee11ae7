/- pick, fit; the walks of RetryMakes and RetryDelays. -/
import Derived.Test.YtbgbpibfmdkndaaRM
import Derived.StillTailTactics
import Derived.Deep.CutBlock
import Derived.Deep.DeepCutAuto
import Derived.Test.YtbgbpibfmdkndaaRH
set_option linter.unusedVariables false
set_option linter.unusedSimpArgs false
set_option linter.unnecessarySimpa false
set_option maxRecDepth 100000
namespace Go.Proofs.Ytbgbpibfmdkndaa
open Go.RowKit Go.ChangeShapes Go.WideShapes Go.ChangeAt
def pickN (c : Int) (n : Nat) : Nat := (if c < 0 then -(c + 1) else c).toNat % n
theorem pickN_lt (c : Int) (n : Nat) (h : 0 < n) : pickN c n < n := Nat.mod_lt _ h
theorem pick_any (c : Int) (n : Nat) (w : World) (hc : wf64 c) (hn : 0 < n) (hn2 : n ≤ 1048576) : Calls Try.prog 14 #[.int .i64 c, .int .i64 n] w fun e w' => e = .returned (.int .i64 (pickN c n : Nat)) ∧ w' = w := by
  unfold wf64 at hc
  have t0 : ((n : Int) == 0) = false := by rw [beq_eq_false_iff_ne]; omega
  have t1 : ¬ (n : Int) = 0 := by omega
  by_cases h : c < 0
  · obtain ⟨m, hm⟩ : ∃ m : Nat, -(c + 1) = (m : Int) := ⟨(-(c + 1)).toNat, by omega⟩
    have HX : Hid (pickN c n = m % n) := by show _ = _; unfold pickN; rw [if_pos h, hm, Int.toNat_natCast]
    have sw1 : IntKind.i64.wrap (c + 1) = c + 1 := IntWalk.i64_in _ (by omega)
    have sw2 : IntKind.i64.wrap (-(c + 1)) = (m : Int) := by rw [IntWalk.i64_in _ (by omega)]; exact hm
    have t2 : decide (c < 0) = true := decide_eq_true h
    go_enter Try.func14, Try.ntmps14
    go_wp2
    go_ret
    exact ⟨by rw [HX.out]; first | rfl | exact congrArg (fun x => Ending.returned (Value.int .i64 x)) (by omega), rfl⟩
  · obtain ⟨m, rfl⟩ : ∃ m : Nat, c = (m : Int) := ⟨c.toNat, by omega⟩
    have HX : Hid (pickN (m : Int) n = m % n) := by show _ = _; unfold pickN; rw [if_neg h, Int.toNat_natCast]
    have t2 : decide ((m : Int) < 0) = false := decide_eq_false h
    go_enter Try.func14, Try.ntmps14
    go_wp2
    go_ret
    exact ⟨by rw [HX.out]; first | rfl | exact congrArg (fun x => Ending.returned (Value.int .i64 x)) (by omega), rfl⟩
/-- a table that may be, out of raw numbers -/
def fitV (raw : List Int) : Nat → Int
  | 0 => ((pickN raw.length 4 : Nat) : Int) + 1
  | k + 1 => min (fitV raw k + (pickN (raw.getD k 0) 6 : Nat)) 1000
def fitK (raw : List Int) (k : Nat) : List Int := (List.range (k + 1)).map (fitV raw)
def fitN (raw : List Int) : List Int := fitK raw (min raw.length 7)
theorem fitV_in (raw : List Int) : ∀ k, 1 ≤ fitV raw k ∧ fitV raw k ≤ 1000
  | 0 => by
    have := pickN_lt raw.length 4 (by decide)
    unfold fitV
    omega
  | k + 1 => by
    have h := fitV_in raw k
    unfold fitV
    omega
theorem fitV_up (raw : List Int) (k : Nat) : fitV raw k ≤ fitV raw (k + 1) := by
  have h := fitV_in raw k
  show _ ≤ min _ _
  omega
theorem fitK_len (raw : List Int) (k : Nat) : (fitK raw k).length = k + 1 := by unfold fitK; simp
theorem fitK_get (raw : List Int) (k j : Nat) (h : j < k + 1) : (fitK raw k).getD j 0 = fitV raw j := by
  unfold fitK
  simp [List.getD_eq_getElem?_getD, h]
theorem fitK_succ (raw : List Int) (k : Nat) : fitK raw (k + 1) = fitK raw k ++ [fitV raw (k + 1)] := by
  unfold fitK
  rw [List.range_succ (n := k + 1), List.map_append]
  rfl
theorem fit_may (raw : List Int) : mayB (fitN raw) = true := by
  unfold fitN
  refine may_yes (by rw [fitK_len]; omega) (by rw [fitK_len]; omega) fun j hj => ?_
  rw [fitK_len] at hj
  have h := fitV_in raw j
  unfold okAt
  rw [fitK_get _ _ _ hj]
  refine ⟨h.1, h.2, fun hp => ?_⟩
  obtain ⟨p, rfl⟩ : ∃ p, j = p + 1 := ⟨j - 1, by omega⟩
  rw [Nat.add_sub_cancel, fitK_get _ _ _ (by omega)]
  exact fitV_up raw p
def FtRel (w0 : World) (F : List HP) (raw : List Int) (out i : Value) (wr : World) : Prop :=
  ∃ (k : Nat) (A1 : Option Addr) (c1 : Nat), k ≤ raw.length ∧ k ≤ 7 ∧ i = .int .i64 k ∧ out = .slice A1 (k + 1) c1 ∧ Sat w0 wr (Row 3 1 A1 (k + 1) c1 (nums (fitK raw k)) :: F)
def FtMid (w0 : World) (F : List HP) (m : Nat) (xs : List Value) (s : Value) (wr : World) : Prop := ∃ (A2 : Option Addr) (c2 : Nat), s = .slice A2 m c2 ∧ Sat w0 wr (Row 3 1 A2 m c2 xs :: F)
/-- numbers that stand in F's memory -/
def NsF (w0 : World) (F : List HP) (A : Option Addr) (l : List Int) : Prop := ∀ W G, Sat w0 W (G ++ F) → NsAt W A l
section
variable {w w0 : World} {F : List HP} {A : Option Addr} {c : Nat}
set_option maxHeartbeats 3200000 in
theorem fit_any {raw : List Int} (hK : NsF w0 F A raw) (hl : raw.length ≤ 140737488351232) (hwf : ∀ x ∈ raw, wf64 x) (hS : Sat w0 w F) :
    Calls Try.prog 13 #[.slice A raw.length c] w fun e w' => ∃ A1 c1, e = .returned (.slice A1 (fitN raw).length c1) ∧ Sat w0 w' (Row 3 1 A1 (fitN raw).length c1 (nums (fitN raw)) :: F) := by
  obtain ⟨n, hn⟩ : ∃ n, raw.length = n := ⟨_, rfl⟩
  have HN := Lib.hid hn
  have HK := Lib.hid hK
  have HWF := Lib.hid hwf
  have HP : Hid (∀ W, Calls Try.prog 14 #[.int .i64 (n : Int), .int .i64 4] W fun e w' => e = .returned (.int .i64 (pickN n 4 : Nat)) ∧ w' = W) := fun W => pick_any n 4 W (by unfold wf64; omega) (by decide) (by decide)
  have hp4 := pickN_lt n 4 (by decide)
  have HV0 : Hid (fitV raw 0 = ((pickN n 4 : Nat) : Int) + 1) := by show _ = _; rw [← hn]; rfl
  have HFN : Hid (fitN raw = fitK raw (min n 7)) := by show _ = _; unfold fitN; rw [hn]
  obtain ⟨i3, hi3, hz3, hs3, hb3⟩ := info_parts infoI
  have HI3 := Lib.hid hi3
  obtain ⟨g, hg⟩ : ∃ g, w.heap.size = g := ⟨_, rfl⟩
  have H0 : Hid (∀ v, Sat w0 (w.alloc (.cells #[.int .i64 v] 3)) (Row 3 1 (some ⟨g, 0, none⟩) 1 1 [.int .i64 v] :: F)) := fun v => by
    have h := hS.new #[.int .i64 v] 3
    rw [hg] at h
    exact h.rowOf' (Nat.le_refl _) (by unfold maxLen; omega) rfl rfl
  rw [hn] at hl ⊢
  obtain ⟨p4, hpp⟩ : ∃ p, pickN n 4 = p := ⟨_, rfl⟩
  rw [hpp] at HP hp4 HV0
  clear hn hK hwf hi3 hpp hS
  go_enter Try.func13, Try.ntmps13
  go_wp2_with fail
  refine (HP.out _).mono ?_
  rintro e w1 ⟨rfl, rfl⟩
  go_wp2_with fail
  try simp only [hg]
  obtain ⟨W1, hW1⟩ : ∃ X, X = w1.alloc (.cells #[.int .i64 (1 + (p4 : Int))] 3) := ⟨_, rfl⟩
  have H1 : Hid (Sat w0 W1 (Row 3 1 (some ⟨g, 0, none⟩) (0 + 1) 1 (nums (fitK raw 0)) :: F)) := by
    have e : nums (fitK raw 0) = [.int .i64 (1 + (p4 : Int))] := by
      show [Value.int .i64 (fitV raw 0)] = _
      rw [HV0.out, Int.add_comm]
    rw [e, hW1]
    exact H0.out _
  rw [← hW1]
  clear hW1 H0 HP hg
  go_loopw [3, 4] (FtRel w0 F raw) (fun _ i _ => 8 - (intOf i).toNat)
  case atStart => exact ⟨0, some ⟨g, 0, none⟩, 1, Nat.zero_le _, Nat.zero_le _, rfl, rfl, H1.out⟩
  case round =>
    obtain ⟨k, A1, c1, hk, hk7, rfl, rfl, hT⟩ := hrel
    rw [HN.out] at hk
    clear H1
    by_cases hlt : k < n
    · have t1 : decide ((k : Int) < (n : Int)) = true := decide_eq_true (by omega)
      by_cases hk8 : k < 7
      · have t2 : decide ((k : Int) + 1 < 8) = true := decide_eq_true (by omega)
        obtain ⟨b, o, hA, hrc⟩ := (HK.out wr [_] hT).resolve_left (by intro h; have := HN.out; rw [h] at this; simp at this; omega)
        subst hA
        have r0 := hrc k (by rw [HN.out]; exact hlt)
        obtain ⟨g1, rfl, hoc, _⟩ := hT.rowCell (by intro e; have := nums_len (fitK raw k); rw [e, fitK_len] at this; simp at this)
        have o0 : wr.cell? ⟨g1, k, none⟩ = some (.int .i64 (fitV raw k)) := by
          rw [hoc k (by rw [nums_len, fitK_len]; omega), ← fitK_get raw k k (by omega)]
          simp [nums, fitK_len]
        have hxm : raw.getD k 0 ∈ raw := by rw [← List.getElem_eq_getD (h := by rw [HN.out]; exact hlt) 0]; exact List.getElem_mem _
        obtain ⟨x, hx⟩ : ∃ x, raw.getD k 0 = x := ⟨_, rfl⟩
        rw [hx] at r0 hxm
        have hV := fitV_in raw k
        have HV1 : Hid (fitV raw (k + 1) = min (fitV raw k + (pickN x 6 : Nat)) 1000) := by show _ = _; rw [← hx]; rfl
        have HC14 : Hid (∀ W, Calls Try.prog 14 #[.int .i64 x, .int .i64 6] W fun e w' => e = .returned (.int .i64 (pickN x 6 : Nat)) ∧ w' = W) := fun W => pick_any x 6 W (HWF.out x hxm) (by decide) (by decide)
        have hp6 := pickN_lt x 6 (by decide)
        obtain ⟨p, hpp⟩ : ∃ p, pickN x 6 = p := ⟨_, rfl⟩
        obtain ⟨v, hv⟩ : ∃ v, fitV raw k = v := ⟨_, rfl⟩
        rw [hpp] at HV1 HC14 hp6
        rw [hv] at o0 hV HV1
        have HSK := Lib.hid (fitK_succ raw k)
        obtain ⟨hV1, hV2⟩ := hV
        have s1 : IntKind.i64.wrap (v + (p : Int)) = v + p := IntWalk.i64_in _ (by omega)
        have s2 : IntKind.i64.wrap ((k : Int) + 1 - 1) = (k : Int) := by rw [IntWalk.i64_in _ (by omega)]; omega
        have s3 : IntKind.i64.wrap (k : Int) = (k : Int) := IntWalk.i64_in _ (by omega)
        have HTT := Lib.hid hT
        have gk0 : (0 : Int) ≤ (k : Int) := by omega
        have gk1 : (k : Int) < (k : Int) + 1 := by omega
        have gk2 : (k : Int) < (n : Int) := by omega
        have hbk : k + 1 + 1 ≤ maxLen ∧ (k + 1 + 1) * 8 ≤ 140737488355328 := by unfold maxLen; omega
        clear hrc hoc hxm hx hpp hv hT
        have HT9 : Hid (nums (fitK raw (k + 1)) = nums (fitK raw k) ++ [.int .i64 (fitV raw (k + 1))]) := by show _ = _; rw [HSK.out, nums_app]; rfl
        clear HSK
        go_upto_block 1 with fail
        go_cut [3] (FtMid w0 F (k + 1 + 1) (nums (fitK raw (k + 1))))
        case first =>
          go_wp2_with fail
          go_region_law (first
            | (refine step_app1 rfl (.tmp 21) (.tmp 35) 22 (by rfl) 3 i3 (.int .i64 0) 1 8 Try.underlying22 HI3.out hz3 hs3 hb3 rfl (by decide) (by rfl) (HTT.out.drew.new #[.int .i64 _] 3) (by rfl) (by rfl) (nums_one [_]) hbk.1 hbk.2 ?_; intro A2 c2 w2 hS2)
            | (go_simp; go_at_call 14; refine (HC14.out _).mono ?_; rintro e w5 ⟨rfl, rfl⟩))
          all_goals
            go_wp2_with fail
            go_meet
            refine ⟨A2, c2, rfl, ?_⟩
            rw [HT9.out, HV1.out]
            exact hS2
        case rest =>
          obtain ⟨A2, c2, hu, hS2⟩ := hcut
          rw [hu]
          have HS2 := Lib.hid hS2
          clear hu hS2
          go_wp2_with fail
          go_roundw
          case rel => exact ⟨k + 1, A2, c2, by rw [HN.out]; omega, by omega, by go_num, rfl, HS2.out⟩
          case measure => simp [intOf]; omega
      · have hk77 : k = 7 := by omega
        have HT := Lib.hid hT
        have HE : Hid (min n 7 = k) := by show _ = _; omega
        have t2 : decide ((k : Int) + 1 < 8) = false := decide_eq_false (by omega)
        clear hT hk77
        go_wp2_with fail
        go_ret
        refine ⟨A1, c1, ?_, ?_⟩
        · rw [HFN.out, HE.out, fitK_len]; rfl
        · rw [HFN.out, HE.out, fitK_len]; exact HT.out
    · obtain rfl : k = n := by omega
      have HT := Lib.hid hT
      have HE : Hid (min k 7 = k) := by show _ = _; omega
      have t1 : decide ((k : Int) < (k : Int)) = false := decide_eq_false (by omega)
      clear hT hlt
      go_wp2_with fail
      go_ret
      refine ⟨A1, c1, ?_, ?_⟩
      · rw [HFN.out, HE.out, fitK_len]; rfl
      · rw [HFN.out, HE.out, fitK_len]; exact HT.out
end
end Go.Proofs.Ytbgbpibfmdkndaa
