/- plays: a disk behind a script. -/
import Derived.Test.YtjlpgjfgeikdeaaDN
import Derived.Test.YtjlpgjfgeikdeaaDat
set_option linter.unusedVariables false
set_option linter.unusedSimpArgs false
set_option linter.unnecessarySimpa false
namespace Go.Proofs.Ytjlpgjfgeikdeaa
open Go.RowKit Go.ChangeShapes Go.WideShapes Go.ChangeAt
/-- a call of a script -/
structure DOp where
  act : Int
  disk : Int
  file : Int
  num : Int
  s : ByteArray
def DOp.vs (o : DOp) : List Value := [.int .i64 o.act, .int .i64 o.disk, .int .i64 o.file, .int .i64 o.num, .string o.s]
def DOp.wf (o : DOp) : Prop := wf64 o.disk ∧ wf64 o.num ∧ o.s.size ≤ 9223372036854775807
def stepM (M : MD) (o : DOp) : MD :=
  if o.act = 0 then (appR M o.file o.s).1 else if o.act = 1 then (syncR M o.file).1 else if o.act = 2 then (cutR M o.file o.num).1 else if o.act = 5 then crashM M o.num.toNat else M
theorem step_ok {M : MD} (h : M.Ok) (o : DOp) : (stepM M o).Ok := by
  unfold stepM
  split
  · exact app_ok h _ _
  split
  · exact sync_ok h _
  split
  · exact cut_ok h _ _
  split
  · exact crash_ok h _
  · exact h
def playM (M : MD) (l : List DOp) : MD := l.foldl stepM M
theorem play_ok {M : MD} (h : M.Ok) (l : List DOp) : (playM M l).Ok := by
  induction l generalizing M with
  | nil => exact h
  | cons o l ih => exact ih (step_ok h o)
theorem play_next (M : MD) (l : List DOp) (k : Nat) (h : k < l.length) : playM M (l.take (k + 1)) = stepM (playM M (l.take k)) l[k] := by
  unfold playM
  rw [List.take_succ_eq_append_getElem h, List.foldl_append]
  rfl
theorem beg_ok {room : Int} (h : 3 ≤ room) (h2 : room ≤ 1048576) : (begM room).Ok := by
  rw [begM_eq]
  refine ok_set (fresh_ok h h2) (by decide) ?_ (by decide)
  show (3 : Int) ≤ ((freshM room).f 3).b.size + ((freshM room).room - (freshM room).used)
  show (3 : Int) ≤ 0 + (room - 0)
  omega
def PlRel (w0 : World) (F : List HP) (g : Nat) (B : MD) (l : List DOp) (i : Value) (wr : World) : Prop :=
  ∃ (k : Nat) (v : Nat → Value), k ≤ l.length ∧ i = .int .i64 k ∧ Sat w0 wr (DiskV g v (playM B (l.take k)) :: F)
set_option maxRecDepth 100000 in
set_option maxHeartbeats 3200000 in
theorem plays_any (room : Int) (A : Option Addr) (n c : Nat) (l : List DOp) (w0 w : World) (F : List HP) (hS : Sat w0 w F) (hF : Old w0 ∈ F) (hr : wf64 room) (hE : Elems w0 (.slice A n c) 5 (l.map DOp.vs)) (hwf : ∀ o ∈ l, o.wf) :
    Calls Try.prog 13 #[.int .i64 room, .slice A n c] w fun e w' => ∃ g v, e = .returned (.pointer (some ⟨g, 0, none⟩)) ∧ Sat w0 w' (DiskV g v (playM (begM (3 + (pickN room 200 : Nat))) l) :: F) := by
  have HE := Lib.hid hE
  obtain ⟨hn, hml, hcells⟩ := hE.at_
  rw [List.length_map] at hn hml
  subst hn
  unfold maxLen at hml
  have HW := Lib.hid hwf
  have hpk := pickN_lt room 200 (by decide)
  obtain ⟨p, hp⟩ : ∃ p, pickN room 200 = p := ⟨_, rfl⟩
  rw [hp] at hpk ⊢
  have HP := Lib.hid hp
  have HB : Hid ((begM (3 + (p : Int))).Ok) := beg_ok (by omega) (by omega)
  have HR := Lib.hid hr
  obtain ⟨B, hB⟩ : ∃ B, begM (3 + (p : Int)) = B := ⟨_, rfl⟩
  rw [hB] at HB ⊢
  have HBB := Lib.hid hB
  clear hB
  clear hE hcells hwf hp hr
  have sw0 : IntKind.i64.wrap (3 + (p : Int)) = 3 + (p : Int) := IntWalk.i64_in _ (by omega)
  go_enter Try.func13, Try.ntmps13
  go_wp2_with fail
  refine (pick_any room 200 w HR.out (by decide) (by decide)).mono ?_
  rintro e w1 ⟨rfl, rfl⟩
  rw [HP.out]
  go_wp2_with fail
  refine (begun_sat hS (3 + (p : Int)) (by omega) (by omega)).mono ?_
  rintro e w2 ⟨g, v, rfl, hS2⟩
  rw [HBB.out] at hS2
  clear hS
  go_wp2_with fail
  go_loopw [6] (PlRel w0 F g B l) (fun i _ => l.length - (intOf i).toNat)
  case atStart => exact ⟨0, v, Nat.zero_le _, rfl, hS2⟩
  case round =>
    obtain ⟨k, v2, hk, rfl, hT⟩ := hrel
    clear hS2
    by_cases hlt : k < l.length
    · obtain ⟨b, of, rfl, hc⟩ := (HE.out.keep (hT.old (.tail _ hF))).at_.2.2 (by rw [List.length_map]; omega)
      have hc' := hc k (by rw [List.length_map]; exact hlt)
      have hx : (l.map DOp.vs).getD k [] = (l[k]).vs := by simp [List.getD, hlt]
      rw [hx] at hc'
      obtain ⟨o1, o2, o3⟩ := HW.out _ (List.getElem_mem hlt)
      have hnx := play_next B l k hlt
      obtain ⟨⟨act, dk, fl, nm, s⟩, hM⟩ : ∃ x, l[k] = x := ⟨_, rfl⟩
      rw [hM] at hc' o1 o2 o3 hnx
      have HNX := Lib.hid hnx
      have HOK := Lib.hid (play_ok HB.out (l.take k))
      have e0 := hc' 0 (by decide)
      have e1 := hc' 1 (by decide)
      have e2 := hc' 2 (by decide)
      have e3 := hc' 3 (by decide)
      have e4 := hc' 4 (by decide)
      simp only [DOp.vs] at e0 e1 e2 e3 e4
      rw [Nat.add_zero] at e0
      obtain ⟨Mk, hMk⟩ : ∃ Mk, playM B (l.take k) = Mk := ⟨_, rfl⟩
      rw [hMk] at hT HNX HOK
      simp only at o1 o2 o3
      have HO2 := Lib.hid o2
      have hT2 : Sat w0 _ (DiskV g v2 Mk :: _) := (hT.new #[.int .i64 act, .int .i64 dk, .int .i64 fl, .int .i64 nm, .string s] 48).tail
      clear hc hc' hx hM hnx hMk o1 o2
      by_cases a0 : act = 0
      · have HN : Hid (playM B (l.take (k + 1)) = (appR Mk fl s).1) := by show _ = _; rw [HNX.out]; unfold stepM; rw [if_pos a0]
        subst a0
        go_wp2_with (go_at_call 19; refine (app_sat hT2 HOK.out fl s o3).mono ?_; rintro e w5 ⟨rfl, v5, hT5⟩)
        go_roundw
        case rel => exact ⟨k + 1, v5, by omega, by go_num, by rw [HN.out]; exact hT5⟩
        case measure => simp [intOf]; omega
      by_cases a1 : act = 1
      · have HN : Hid (playM B (l.take (k + 1)) = (syncR Mk fl).1) := by show _ = _; rw [HNX.out]; unfold stepM; rw [if_neg a0, if_pos a1]
        subst a1
        go_wp2_with (go_at_call 17; refine (sync_sat hT2 fl).mono ?_; rintro e w5 ⟨rfl, v5, hT5⟩)
        go_roundw
        case rel => exact ⟨k + 1, v5, by omega, by go_num, by rw [HN.out]; exact hT5⟩
        case measure => simp [intOf]; omega
      by_cases a2 : act = 2
      · have HN : Hid (playM B (l.take (k + 1)) = (cutR Mk fl nm).1) := by show _ = _; rw [HNX.out]; unfold stepM; rw [if_neg a0, if_neg a1, if_pos a2]
        subst a2
        go_wp2_with (go_at_call 22; refine (cut_sat hT2 HOK.out fl nm).mono ?_; rintro e w5 ⟨rfl, v5, hT5⟩)
        go_roundw
        case rel => exact ⟨k + 1, v5, by omega, by go_num, by rw [HN.out]; exact hT5⟩
        case measure => simp [intOf]; omega
      by_cases a5 : act = 5
      · have HN : Hid (playM B (l.take (k + 1)) = crashM Mk nm.toNat) := by show _ = _; rw [HNX.out]; unfold stepM; rw [if_neg a0, if_neg a1, if_neg a2, if_pos a5]
        subst a5
        go_wp2_with (go_at_call 15; refine (crash_sat hT2 HOK.out nm HO2.out).mono ?_; rintro e w5 ⟨rfl, v5, hT5⟩)
        go_roundw
        case rel => exact ⟨k + 1, v5, by omega, by go_num, by rw [HN.out]; exact hT5⟩
        case measure => simp [intOf]; omega
      · have HN : Hid (playM B (l.take (k + 1)) = Mk) := by show _ = _; rw [HNX.out]; unfold stepM; rw [if_neg a0, if_neg a1, if_neg a2, if_neg a5]
        have t0 : (act == 0) = false := by rw [beq_eq_false_iff_ne]; exact a0
        have t1 : (act == 1) = false := by rw [beq_eq_false_iff_ne]; exact a1
        have t2 : (act == 2) = false := by rw [beq_eq_false_iff_ne]; exact a2
        have t5 : (act == 5) = false := by rw [beq_eq_false_iff_ne]; exact a5
        clear a0 a1 a2 a5
        go_wp2_with fail
        go_roundw
        case rel => exact ⟨k + 1, v2, by omega, by go_num, by rw [HN.out]; exact hT2⟩
        case measure => simp [intOf]; omega
    · have hkl : k = l.length := by omega
      subst hkl
      rw [List.take_length] at hT
      go_wp2_with fail
      go_ret
      exact ⟨g, v2, rfl, hT⟩
end Go.Proofs.Ytjlpgjfgeikdeaa
