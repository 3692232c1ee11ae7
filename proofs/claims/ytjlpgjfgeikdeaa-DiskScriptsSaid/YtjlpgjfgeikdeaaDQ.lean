/- The law DiskSafe: the walk. -/
import Derived.Test.YtjlpgjfgeikdeaaDP
set_option linter.unusedVariables false
set_option linter.unusedSimpArgs false
set_option linter.unnecessarySimpa false
namespace Go.Proofs.Ytjlpgjfgeikdeaa
open Go.RowKit Go.ChangeShapes Go.WideShapes Go.ChangeAt
/-- a script in memory -/
def OpsAt (w : World) (A : Option Addr) (n c : Nat) (l : List DOp) : Prop := Elems w (.slice A n c) 5 (l.map DOp.vs) ∧ ∀ o ∈ l, o.wf
theorem str_yes (a : ByteArray) : (a.toList == a.toList) = true := by simp
def SfRel (w : World) (g f : Nat) (s : ByteArray) (n : Nat) (i : Value) (wr : World) : Prop :=
  ∃ (k : Nat) (v : Nat → Value) (M : MD), k ≤ n ∧ i = .int .i64 k ∧ M.Ok ∧ SafeP M f s ∧ Sat w wr [DiskV g v M, Old w]
set_option maxRecDepth 100000 in
set_option maxHeartbeats 3200000 in
theorem diskSafe_walk (room : Int) (A : Option Addr) (n c : Nat) (l : List DOp) (name : Int) (A3 : Option Addr) (n3 c3 : Nat) (l3 : List DOp) (w : World) (w0 : (Lit.int .i64 room).wf = true) (w1 : OpsAt w A n c l) (_ : n * 48 ≤ 140737488351232)
    (w2 : (Lit.int .i64 name).wf = true) (w3 : OpsAt w A3 n3 c3 l3) (_ : n3 * 48 ≤ 140737488351232) :
    Calls Try.prog 5 #[.int .i64 room, .slice A n c, .int .i64 name, .slice A3 n3 c3] w fun e w' => e = .returned (.bool true) ∧ Below w.heap.size w w' := by
  have HE := Lib.hid w3.1
  obtain ⟨hn, hml, _⟩ := w3.1.at_
  rw [List.length_map] at hn hml
  subst hn
  unfold maxLen at hml
  have HW := Lib.hid w3.2
  have HE1 := Lib.hid w1.1
  have HW1 := Lib.hid w1.2
  have HR : Hid (wf64 room) := i64_of w0
  have HNM : Hid (wf64 name) := i64_of w2
  have hpk := pickN_lt name 4 (by decide)
  have hpr := pickN_lt room 200 (by decide)
  obtain ⟨f, hf⟩ : ∃ f, pickN name 4 = f := ⟨_, rfl⟩
  rw [hf] at hpk
  have HF := Lib.hid hf
  obtain ⟨M0, hM0⟩ : ∃ M0, playM (begM (3 + (pickN room 200 : Nat))) l = M0 := ⟨_, rfl⟩
  have HM0 := Lib.hid hM0
  have HOK : Hid M0.Ok := by show _; rw [← hM0]; exact play_ok (beg_ok (by omega) (by omega)) l
  clear hf hM0 hpr w0 w1 w2 w3
  go_enter Try.func5, Try.ntmps5
  go_wp2_with fail
  refine (plays_any room A n c l w w [Old w] (Sat.start w) (by simp) HR.out HE1.out HW1.out).mono ?_
  rintro e w1 ⟨g, v, rfl, hS⟩
  rw [HM0.out] at hS
  go_wp2_with fail
  refine (pick_any name 4 _ HNM.out (by decide) (by decide)).mono ?_
  rintro e w2 ⟨rfl, rfl⟩
  rw [HF.out]
  go_wp2_with fail
  refine (sync_sat hS (f : Int)).mono ?_
  rintro e w3 ⟨rfl, v3, hS3⟩
  have hc0 : (syncR M0 (f : Int)).2 = 0 := by unfold syncR; rw [if_pos (isB_of f hpk)]
  rw [hc0]
  have HSP : Hid (SafeP (syncR M0 (f : Int)).1 f (M0.f f).b) := safe_begin M0 f hpk
  have HOK1 : Hid (syncR M0 (f : Int)).1.Ok := sync_ok HOK.out f
  have hbs : ((syncR M0 (f : Int)).1.f f).b = (M0.f f).b := by unfold syncR; rw [if_pos (isB_of f hpk), Int.toNat_natCast]; simp [set_f]
  have hsz := (ok_size HOK.out f hpk).1
  obtain ⟨s, hs⟩ : ∃ s, (M0.f f).b = s := ⟨_, rfl⟩
  obtain ⟨M1, hM1⟩ : ∃ M1, (syncR M0 (f : Int)).1 = M1 := ⟨_, rfl⟩
  rw [hs] at HSP hbs hsz
  rw [hM1] at HSP HOK1 hbs hS3
  have HBS := Lib.hid hbs
  clear hc0 hbs hs hM1 hS
  go_wp2_with fail
  refine (read_any g v3 M1 f _ hpk hS3.disk).mono ?_
  rintro e w4 ⟨rfl, rfl⟩
  rw [HBS.out]
  go_wp2_with fail
  go_loopw [13] (SfRel w g f s l3.length) (fun i _ => l3.length - (intOf i).toNat)
  case atStart => exact ⟨0, v3, M1, Nat.zero_le _, rfl, HOK1.out, HSP.out, hS3⟩
  case round =>
    obtain ⟨k, v5, M, hk, rfl, hok, hsp, hT⟩ := hrel
    have HO := Lib.hid hok
    have HS := Lib.hid hsp
    clear hok hsp hS3
    by_cases hlt : k < l3.length
    · obtain ⟨b, of, rfl, hc⟩ := (HE.out.keep (hT.old (by simp))).at_.2.2 (by rw [List.length_map]; omega)
      have hc' := hc k (by rw [List.length_map]; exact hlt)
      have hx : (l3.map DOp.vs).getD k [] = (l3[k]).vs := by simp [List.getD, hlt]
      rw [hx] at hc'
      obtain ⟨o1, o2, o3⟩ := HW.out _ (List.getElem_mem hlt)
      obtain ⟨⟨act, dk, fl, nm, t⟩, hM⟩ : ∃ x, l3[k] = x := ⟨_, rfl⟩
      rw [hM] at hc' o1 o2 o3
      have e0 := hc' 0 (by decide)
      have e2 := hc' 2 (by decide)
      have e3 := hc' 3 (by decide)
      have e4 := hc' 4 (by decide)
      simp only [DOp.vs] at e0 e2 e3 e4
      rw [Nat.add_zero] at e0
      simp only at o2 o3
      have HO2 := Lib.hid o2
      clear hc hc' hx hM o1 o2
      by_cases a0 : act = 0
      · subst a0
        go_wp2_with fail
        go_region_with (go_at_call 19; refine (app_sat (hT.drewN _) HO.out fl t o3).mono ?_; rintro e w5 ⟨rfl, v6, hT5⟩)
        all_goals
          go_wp2_with fail
          go_roundw
          case rel => exact ⟨k + 1, v6, _, by omega, by go_num, app_ok HO.out _ _, safe_app HO.out hpk HS.out _ _, by first | exact hT5 | exact hT5.undrew | exact hT5.drewN _⟩
          case measure => simp [intOf]; omega
      by_cases a1 : act = 1
      · subst a1
        go_wp2_with (go_at_call 17; refine (sync_sat hT fl).mono ?_; rintro e w5 ⟨rfl, v6, hT5⟩)
        go_roundw
        case rel => exact ⟨k + 1, v6, _, by omega, by go_num, sync_ok HO.out _, safe_sync HO.out hpk HS.out _, hT5⟩
        case measure => simp [intOf]; omega
      by_cases a5 : act = 5
      · subst a5
        go_wp2_with (go_at_call 15; refine (crash_sat hT HO.out nm HO2.out).mono ?_; rintro e w5 ⟨rfl, v6, hT5⟩)
        go_roundw
        case rel => exact ⟨k + 1, v6, _, by omega, by go_num, crash_ok HO.out _, safe_crash HS.out _, hT5⟩
        case measure => simp [intOf]; omega
      · have t0 : (act == 0) = false := by rw [beq_eq_false_iff_ne]; exact a0
        have t1 : (act == 1) = false := by rw [beq_eq_false_iff_ne]; exact a1
        have t5 : (act == 5) = false := by rw [beq_eq_false_iff_ne]; exact a5
        clear a0 a1 a5
        go_wp2_with fail
        go_roundw
        case rel => exact ⟨k + 1, v5, M, by omega, by go_num, HO.out, HS.out, hT⟩
        case measure => simp [intOf]; omega
    · have hsl := (ok_size HO.out f hpk)
      obtain ⟨p1, p2⟩ := HS.out
      obtain ⟨tb, htb⟩ : ∃ tb, (M.f f).b = tb := ⟨_, rfl⟩
      rw [htb] at hsl p2
      have hle : s.size ≤ tb.size := by omega
      have HP2 := Lib.hid p2
      have HTB := Lib.hid htb
      have k1 : ((tb.extract 0 s.size).toList == s.toList) = true := by rw [HP2.out]; exact str_yes s
      clear p2 htb
      go_wp2_with fail
      refine (read_any g v5 M f _ hpk hT.disk).mono ?_
      rintro e w6 ⟨rfl, rfl⟩
      rw [HTB.out]
      go_wp2_with fail
      go_ret
      exact ⟨rfl, hT.old (by simp)⟩
end Go.Proofs.Ytjlpgjfgeikdeaa
