/- The law DiskCrash: what a crash leaves; the walk. -/
import Derived.Test.YtjlpgjfgeikdeaaDS
set_option linter.unusedVariables false
set_option linter.unusedSimpArgs false
set_option linter.unnecessarySimpa false
namespace Go.Proofs.Ytjlpgjfgeikdeaa
open Go.RowKit Go.ChangeShapes Go.WideShapes Go.ChangeAt
/-- what the first k files have that is not safe -/
def unsafeN (M : MD) : Nat → Nat
  | 0 => 0
  | k + 1 => unsafeN M k + ((M.f k).b.size - (M.f k).safe)
theorem left_eq (M : MD) (L : Nat) : ∀ k, (crashTo M L k).2 = L - unsafeN M k := by
  intro k
  induction k with
  | zero => rfl
  | succ k ih =>
    show (crashTo M L k).2 - keptOf (M.f k) (crashTo M L k).2 = _
    rw [ih]
    show _ = L - (unsafeN M k + ((M.f k).b.size - (M.f k).safe))
    unfold keptOf
    omega
theorem crash_f (M : MD) (L : Nat) : ∀ n k, k < n → (crashTo M L n).1.f k = crashF (M.f k) (L - unsafeN M k) := by
  intro n
  induction n with
  | zero => intro k hk; omega
  | succ n ih =>
    intro k hk
    show ((crashTo M L n).1.set n _).f k = _
    rw [set_f]
    by_cases e : k = n
    · rw [if_pos e, e, left_eq]
    · rw [if_neg e]; exact ih k (by omega)
/-- what a crash keeps of a file -/
structure Left (a b : MF) (K : Nat) : Prop where
  le : b.b.size ≤ a.b.size
  safe : a.safe ≤ b.b.size
  same : a.b.extract 0 b.b.size = b.b
  all : b.safe = b.b.size
  kept : b.b.size = a.safe + K
theorem crash_left {M : MD} (h : M.Ok) (L k : Nat) (hk : k < 4) : Left (M.f k) ((crashM M L).f k) (min (L - unsafeN M k) ((M.f k).b.size - (M.f k).safe)) := by
  have h1 := (ok_size h k hk).2
  have e : (crashM M L).f k = crashF (M.f k) (L - unsafeN M k) := crash_f M L 4 k hk
  rw [e]
  have hz : (crashF (M.f k) (L - unsafeN M k)).b.size = (M.f k).safe + min (L - unsafeN M k) ((M.f k).b.size - (M.f k).safe) := by
    unfold crashF keptOf
    simp only [ByteArray.size_extract]
    omega
  refine ⟨by omega, by omega, ?_, ?_, hz⟩
  · rw [hz]; rfl
  · rw [hz]; rfl
theorem unsafe_lt {M : MD} (h : M.Ok) : ∀ k, k ≤ 4 → unsafeN M k ≤ k * 1048576 := by
  intro k
  induction k with
  | zero => intro _; simp [unsafeN]
  | succ k ih =>
    intro hk
    have := ih (by omega)
    have := (ok_size h k (by omega)).1
    unfold unsafeN
    omega
theorem ex_all (b : ByteArray) : b.extract 0 b.size = b := by
  apply ByteArray.ext
  apply Array.toList_inj.1
  simp only [ByteArray.data_extract, Array.toList_extract, List.extract_eq_take_drop, List.drop_zero, Nat.sub_zero]
  exact List.take_of_length_le (by show b.data.toList.length ≤ b.data.size; simp)
theorem crash_again {M : MD} (h : M.Ok) (L K k : Nat) (hk : k < 4) : (crashM (crashM M L) K).f k = (crashM M L).f k := by
  have a := crash_left h L k hk
  have b := crash_left (crash_ok h L) K k hk
  obtain ⟨⟨x, s⟩, hx⟩ : ∃ x, (crashM M L).f k = x := ⟨_, rfl⟩
  obtain ⟨⟨y, t⟩, hy⟩ : ∃ x, (crashM (crashM M L) K).f k = x := ⟨_, rfl⟩
  rw [hx] at a b ⊢
  rw [hy] at b ⊢
  obtain ⟨_, _, _, a4, _⟩ := a
  obtain ⟨b1, b2, b3, b4, _⟩ := b
  simp only at a4 b1 b2 b3 b4
  have e : y.size = x.size := by omega
  rw [e, ex_all] at b3
  subst b3
  rw [b4, a4]
def CwRel (w : World) (L : Nat) (M : MD) (F : List HP) (u kp i : Value) (wr : World) : Prop :=
  ∃ k : Nat, k ≤ 4 ∧ i = .int .i64 k ∧ u = .int .i64 (unsafeN M k) ∧ kp = .int .i64 (min L (unsafeN M k) : Nat) ∧ Sat w wr F
def CwRel2 (w : World) (F : List HP) (good i : Value) (wr : World) : Prop := ∃ k : Nat, k ≤ 4 ∧ i = .int .i64 k ∧ good = .bool true ∧ Sat w wr F
theorem str_same (a b : ByteArray) (h : a = b) : (a.toList != b.toList) = false := by subst h; simp
set_option maxRecDepth 100000 in
set_option maxHeartbeats 3200000 in
theorem diskCrash_walk (room : Int) (A : Option Addr) (n c : Nat) (l : List DOp) (keep again : Int) (w : World) (w0 : (Lit.int .i64 room).wf = true) (w1 : OpsAt w A n c l) (_ : n * 48 ≤ 140737488351232)
    (w2 : (Lit.int .i64 keep).wf = true) (w3 : (Lit.int .i64 again).wf = true) :
    Calls Try.prog 4 #[.int .i64 room, .slice A n c, .int .i64 keep, .int .i64 again] w fun e w' => e = .returned (.bool true) ∧ Below w.heap.size w w' := by
  have HE1 := Lib.hid w1.1
  have HW1 := Lib.hid w1.2
  have HR : Hid (wf64 room) := i64_of w0
  have HK : Hid (wf64 keep) := i64_of w2
  have HA : Hid (wf64 again) := i64_of w3
  have hpr := pickN_lt room 200 (by decide)
  obtain ⟨M0, hM0⟩ : ∃ M0, playM (begM (3 + (pickN room 200 : Nat))) l = M0 := ⟨_, rfl⟩
  have HM0 := Lib.hid hM0
  have HOK : Hid M0.Ok := by show _; rw [← hM0]; exact play_ok (beg_ok (by omega) (by omega)) l
  obtain ⟨L, hL⟩ : ∃ L, keep.toNat = L := ⟨_, rfl⟩
  have HL := Lib.hid hL
  have HMX : Hid (max keep 0 = (L : Int)) := by show _ = _; omega
  clear hM0 hpr w0 w1 w2 w3 hL
  go_enter Try.func4, Try.ntmps4
  go_wp2_with fail
  refine (plays_any room A n c l w w [Old w] (Sat.start w) (by simp) HR.out HE1.out HW1.out).mono ?_
  rintro e w1 ⟨g, v, rfl, hS⟩
  rw [HM0.out] at hS
  go_wp2_with fail
  refine (files_any g v M0 w _ _ hS HOK.out).mono ?_
  rintro e w3 ⟨A1, c1, rfl, hS3⟩
  clear hS
  go_wp2_with fail
  refine (crash_sat hS3.r2 HOK.out keep HK.out).mono ?_
  rintro e w4 ⟨rfl, v4, hS4⟩
  clear hS3
  have HOK1 : Hid (crashM M0 L).Ok := crash_ok HOK.out L
  rw [HL.out] at hS4
  obtain ⟨M1, hM1⟩ : ∃ M1, crashM M0 L = M1 := ⟨_, rfl⟩
  have HM1 := Lib.hid hM1
  rw [hM1] at HOK1 hS4
  clear hM1
  go_wp2_with fail
  refine (files_any g v4 M1 w _ _ hS4 HOK1.out).mono ?_
  rintro e w5 ⟨A2, c2, rfl, hS5⟩
  clear hS4
  go_wp2_with fail
  obtain ⟨g1, rfl, _⟩ := files_cells hS5.r3
  obtain ⟨g2, rfl, _⟩ := files_cells hS5
  go_loopw [14, 15, 16] (CwRel w L M0 [Row 41 2 (some ⟨g2, 0, none⟩) 4 c2 (filesV M1 4), DiskV g v4 M1, Row 41 2 (some ⟨g1, 0, none⟩) 4 c1 (filesV M0 4), Old w]) (fun _ _ i _ => 4 - (intOf i).toNat)
  case atStart => exact ⟨0, by omega, rfl, rfl, by simp [unsafeN], hS5⟩
  case round =>
    obtain ⟨k, hk, rfl, rfl, rfl, hT⟩ := hrel
    clear hS5
    by_cases hlt : k < 4
    · obtain ⟨_, q1, hc1⟩ := files_cells hT.r3
      obtain ⟨_, q2, hc2⟩ := files_cells hT
      cases q1
      cases q2
      obtain ⟨x1, x2⟩ := hc1 k hlt
      obtain ⟨y1, y2⟩ := hc2 k hlt
      clear hc1 hc2
      have hU : Hid (unsafeN M0 (k + 1) = unsafeN M0 k + ((M0.f k).b.size - (M0.f k).safe)) := rfl
      have hsz := ok_size HOK.out k hlt
      have hus := unsafe_lt HOK.out k hk
      have hl := crash_left HOK.out L k hlt
      rw [HM1.out] at hl
      obtain ⟨⟨b0, s0⟩, hb0⟩ : ∃ x, M0.f k = x := ⟨_, rfl⟩
      obtain ⟨⟨b1, s1⟩, hb1⟩ : ∃ x, M1.f k = x := ⟨_, rfl⟩
      obtain ⟨U, hUk⟩ : ∃ U, unsafeN M0 k = U := ⟨_, rfl⟩
      rw [hb0] at x1 x2 hU hsz hl
      rw [hb1] at y1 y2 hl
      rw [hUk] at hU hus hl ⊢
      clear hb0 hb1
      have hUk2 := Lib.hid hUk
      clear hUk
      obtain ⟨l1, l2, l3, l4, l5⟩ := hl
      simp only at x1 x2 y1 y2 hU hsz l1 l2 l3 l4 l5
      subst l4
      obtain ⟨kk, hkk⟩ : ∃ kk, min L U = kk := ⟨_, rfl⟩
      have HKK : Hid (min L (U + (b0.size - s0)) = kk + b1.size - s0) := by show _ = _; omega
      have hkm : kk ≤ U := by omega
      rw [hkk]
      have HKK0 := Lib.hid hkk
      clear hkk l5
      have t1 : decide (b1.size > b0.size) = false := by simp; omega
      have t2 : decide (b0.size < b1.size) = false := by simp; omega
      have t3 := str_same _ _ l3
      have t3b : ((b0.extract 0 b1.size).toList == b1.toList) = true := by rw [l3]; exact str_yes b1
      have t4 : decide (b1.size < s0) = false := by simp; omega
      have t5 : ((b1.size : Int) != (b1.size : Int)) = false := by simp
      have l3' := Lib.hid l3
      clear l3
      have sw1 : IntKind.i64.wrap ((U : Int) + (b0.size : Int)) = (U : Int) + (b0.size : Int) := IntWalk.i64_in _ (by omega)
      have sw2 : IntKind.i64.wrap ((U : Int) + (b0.size : Int) - (s0 : Int)) = (U : Int) + (b0.size : Int) - (s0 : Int) := IntWalk.i64_in _ (by omega)
      go_wp2_with fail
      go_quiet (fail)
      go_wp2_with fail
      go_quiet (fail)
      go_wp2_with fail
      go_roundw
      case rel => exact ⟨k + 1, by omega, by go_num, nat_val (by rw [hU.out]; omega), nat_val (by rw [hU.out, HKK.out]; omega), hT.drewN _⟩
      case measure => simp [intOf]; omega
    · have hk4 : k = 4 := by omega
      subst hk4
      have hus := unsafe_lt HOK.out 4 (by omega)
      obtain ⟨U, hUk⟩ : ∃ U, unsafeN M0 4 = U := ⟨_, rfl⟩
      rw [hUk] at hus ⊢
      have HUK := Lib.hid hUk
      clear hUk
      have hmx := HMX.out
      have K3 : (keep < 0 ∧ min L U = 0) ∨ ((¬ keep < 0 ∧ (U : Int) < keep) ∧ min L U = U) ∨ ((¬ keep < 0 ∧ ¬ (U : Int) < keep) ∧ ((min L U : Nat) : Int) = keep) := by omega
      clear hmx
      rcases K3 with ⟨k1, k2⟩ | ⟨⟨k1, k3⟩, k2⟩ | ⟨⟨k1, k3⟩, k2⟩
      all_goals
        rw [k2]
        clear k2
        go_wp2_with fail
        refine (crash_sat hT.r2 HOK1.out again HA.out).mono ?_
        rintro e w6 ⟨rfl, v6, hS6⟩
        have HOK2 : Hid (crashM M1 again.toNat).Ok := crash_ok HOK1.out _
        have HSM : Hid (∀ k, k < 4 → (crashM M1 again.toNat).f k = M1.f k) := by
          show ∀ k, _
          intro k hk
          rw [← HM1.out]
          exact crash_again HOK.out L _ k hk
        obtain ⟨M2, hM2⟩ : ∃ M2, crashM M1 again.toNat = M2 := ⟨_, rfl⟩
        rw [hM2] at HOK2 HSM hS6
        clear hM2 hT
        go_wp2_with fail
        refine (files_any g v6 M2 w _ _ hS6 HOK2.out).mono ?_
        rintro e w7 ⟨A3, c3, rfl, hS7⟩
        clear hS6
        obtain ⟨g3, rfl, _⟩ := files_cells hS7
        go_wp2_with fail
        go_loopw [19, 20] (CwRel2 w [Row 41 2 (some ⟨g3, 0, none⟩) 4 c3 (filesV M2 4), DiskV g v6 M2, Row 41 2 (some ⟨g2, 0, none⟩) 4 c2 (filesV M1 4), Row 41 2 (some ⟨g1, 0, none⟩) 4 c1 (filesV M0 4), Old w]) (fun _ i _ => 4 - (intOf i).toNat)
        case atStart => exact ⟨0, by omega, rfl, rfl, hS7⟩
        case round =>
          obtain ⟨j, hj, rfl, rfl, hV⟩ := hrel
          clear hS7
          by_cases hjl : j < 4
          · obtain ⟨_, q1, hc1⟩ := files_cells hV.r3
            obtain ⟨_, q2, hc2⟩ := files_cells hV
            cases q1
            cases q2
            obtain ⟨x1, x2⟩ := hc1 j hjl
            obtain ⟨y1, y2⟩ := hc2 j hjl
            clear hc1 hc2
            rw [HSM.out j hjl] at y1 y2
            obtain ⟨⟨b, sf⟩, hb⟩ : ∃ b, M1.f j = b := ⟨_, rfl⟩
            rw [hb] at x1 x2 y1 y2
            simp only at x1 x2 y1 y2
            clear hb
            go_wp2_with fail
            go_quiet (fail)
            go_wp2_with fail
            go_roundw
            case rel => exact ⟨j + 1, by omega, by go_num, rfl, hV.drewN _⟩
            case measure => simp [intOf]; omega
          · go_wp2_with fail
            go_ret
            exact ⟨rfl, hV.old (by simp)⟩
end Go.Proofs.Ytjlpgjfgeikdeaa
