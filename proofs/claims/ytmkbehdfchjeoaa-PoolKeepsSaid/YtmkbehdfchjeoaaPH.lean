/- The walks of the laws PoolMakes and PoolScripts. -/
import Derived.Test.YtmkbehdfchjeoaaPF
import Derived.Test.YtmkbehdfchjeoaaPG
namespace Go.Proofs.Ytmkbehdfchjeoaa
open Go.RowKit Go.ChangeShapes Go.WideShapes Go.ChangeAt
set_option maxRecDepth 100000 in
theorem poolMakes_walk (a0 : Int) (w : World) (w0 : (Lit.int .i64 a0).wf = true) : Calls Try.prog 7 #[.int .i64 a0] w fun e w' => e = .returned (.bool true) ∧ Below w.heap.size w w' := by
  clear w0
  by_cases h : 1 ≤ a0 ∧ a0 ≤ 200
  · have H := Lib.hid h
    clear h
    go_enter Try.func7, Try.ntmps7
    go_wp2_with fail
    refine (pnew_ok a0 w _ _ (Sat.start w) H.out.1 H.out.2).mono ?_
    rintro e w1 ⟨rfl, hS1⟩
    go_wp2_with fail
    refine (qnew_ok a0 w _ _ hS1 H.out.1 H.out.2).mono ?_
    rintro e w2 ⟨rfl, hS2⟩
    go_wp2_with fail
    refine (plen_any _ a0 [] w _ _ hS2.r2).mono ?_
    rintro e w3 ⟨rfl, rfl⟩
    go_wp2_with fail
    refine (all_any _ a0 [] w _ _ hS2.r2 (by decide)).mono ?_
    rintro e w4 ⟨A, c, rfl, hS3⟩
    go_wp2_with fail
    refine (plive_any _).mono ?_
    rintro e w5 ⟨rfl, hb⟩
    have hS4 := hS3.below hb
    go_wp2
    go_ret
    exact ⟨rfl, hS4.old (by simp)⟩
  · have H := Lib.hid h
    clear h
    go_enter Try.func7, Try.ntmps7
    go_wp2_with fail
    refine (pnew_no a0 _ H.out).mono ?_
    rintro e w1 ⟨rfl, rfl⟩
    go_wp2_with fail
    refine (qnew_no a0 _ H.out).mono ?_
    rintro e w2 ⟨rfl, rfl⟩
    go_wp2_with fail
    refine (plive_any _).mono ?_
    rintro e w5 ⟨rfl, hb⟩
    go_wp2
    go_ret
    exact ⟨rfl, hb⟩
theorem stepL_len (room : Int) (L : List ByteArray) (d n : Int) (s : ByteArray) (h : L.length ≤ room) : (stepL room L d n s).length ≤ room := by
  have h1 : (L.eraseIdx n.toNat).length ≤ L.length := List.length_eraseIdx_le ..
  unfold stepL sendL takeL dblL
  repeat' split
  all_goals (try simp only [List.length_append, List.length_singleton])
  all_goals omega
def ScrRel (w : World) (p q o : Nat) (room : Int) (N : Nat) (i : Value) (wr : World) : Prop :=
  ∃ (k : Nat) (L : List ByteArray), k ≤ N ∧ i = .int .i64 k ∧ L.length ≤ room ∧ Sat w wr [PoolC p 70 room L, PoolC q 87 room L, PoolC o 70 room [], Old w]
set_option maxRecDepth 100000 in
set_option maxHeartbeats 3200000 in
theorem poolScripts_walk (a0 : Int) (A : Option Addr) (n c : Nat) (M : List POp) (w : World) (w0 : (Lit.int .i64 a0).wf = true) (w1 : Elems w (.slice A n c) 3 (M.map POp.vs)) (y1 : n * 32 ≤ 140737488351232) :
    Calls Try.prog 8 #[.int .i64 a0, .slice A n c] w fun e w' => e = .returned (.bool true) ∧ Below w.heap.size w w' := by
  have HE := Lib.hid w1
  obtain ⟨hn, _, _⟩ := w1.at_
  rw [List.length_map] at hn
  subst hn
  obtain ⟨hi1, hi2⟩ := i64_of w0
  clear w0 w1
  go_enter Try.func8, Try.ntmps8
  go_wp2_with fail
  refine (pick_any a0 200 _ hi1 hi2 (by decide) (by decide)).mono ?_
  rintro e w' ⟨pk, hp1, hp2, rfl, rfl⟩
  clear hi1 hi2
  go_wp2_with fail
  obtain ⟨room, hroom⟩ : ∃ room, room = 1 + pk := ⟨_, rfl⟩
  rw [← hroom]
  have hr1 : 1 ≤ room := by omega
  have hr2 : room ≤ 200 := by omega
  clear hroom hp1 hp2
  refine (pnew_ok room w' _ _ (Sat.start w') hr1 hr2).mono ?_
  rintro e w1 ⟨rfl, hS1⟩
  go_wp2_with fail
  refine (pnew_ok room w' _ _ hS1 hr1 hr2).mono ?_
  rintro e w2 ⟨rfl, hS2⟩
  go_wp2_with fail
  refine (qnew_ok room w' _ _ hS2 hr1 hr2).mono ?_
  rintro e w3 ⟨rfl, hS3⟩
  go_wp2_with fail
  refine (plive_any _).mono ?_
  rintro e w4 ⟨rfl, hb⟩
  have hS4 := (hS3.below hb).r3
  clear hS1 hS2 hS3 hb
  go_wp2_with fail
  go_loopw [11] (ScrRel w' w'.heap.size w2.heap.size w1.heap.size room M.length) (fun i _ => M.length - (intOf i).toNat)
  case atStart => exact ⟨0, [], Nat.zero_le _, rfl, by simp; omega, hS4⟩
  case round =>
    obtain ⟨k, L, hk, rfl, hL, hT⟩ := hrel
    clear hS4
    by_cases hlt : k < M.length
    · obtain ⟨b, of, rfl, hc⟩ := (HE.out.keep (hT.old (by simp))).at_.2.2 (by rw [List.length_map]; omega)
      have hc' := hc k (by rw [List.length_map]; exact hlt)
      have hx : (M.map POp.vs).getD k [] = (M[k]).vs := by simp [List.getD, hlt]
      rw [hx] at hc'
      obtain ⟨⟨d, m, s⟩, hM⟩ : ∃ x, M[k] = x := ⟨_, rfl⟩
      rw [hM] at hc'
      have e0 := hc' 0 (by decide)
      have e1 := hc' 1 (by decide)
      have e2 := hc' 2 (by decide)
      simp only [POp.vs] at e0 e1 e2
      rw [Nat.add_zero] at e0
      clear hc hc' hx hM
      have hL2 := stepL_len room L d m s hL
      go_wp2_with fail
      refine (does_any _ _ room L d m s w' _ _ hT hL hr2).mono ?_
      rintro e v1 ⟨rfl, hT1⟩
      clear e0 e1 e2
      go_wp2_with fail
      refine (all_any _ room (stepL room L d m s) w' _ _ hT1 (by omega)).mono ?_
      rintro e v2 ⟨A2, c2, rfl, hT2⟩
      go_wp2_with fail
      refine (qall_any _ room (stepL room L d m s) w' _ _ hT2.r3 (by omega)).mono ?_
      rintro e v3 ⟨A3, c3, rfl, hT3⟩
      go_wp2_with fail
      refine (same_yes A2 A3 c2 c3 (stepL room L d m s) w' _ _ hT3.r3 (by omega)).mono ?_
      rintro e v4 ⟨rfl, m4, rfl⟩
      have hT5 := hT3.drewN m4
      go_wp2_with fail
      refine (plen_any _ room (stepL room L d m s) w' _ _ hT5.r4).mono ?_
      rintro e v5 ⟨rfl, rfl⟩
      go_wp2_with fail
      refine (qlen_any _ room (stepL room L d m s) w' _ _ hT5.r2).mono ?_
      rintro e v6 ⟨rfl, rfl⟩
      go_wp2_with fail
      go_roundw
      case rel => exact ⟨k + 1, stepL room L d m s, by omega, by go_num, hL2, hT5.tail.r2.tail.r2⟩
      case measure => simp [intOf]; omega
    · go_wp2_with fail
      refine (plen_any _ room [] w' _ _ hT.r3).mono ?_
      rintro e v1 ⟨rfl, rfl⟩
      go_wp2
      go_ret
      exact ⟨rfl, hT.old (by simp)⟩
end Go.Proofs.Ytmkbehdfchjeoaa
