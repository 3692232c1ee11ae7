/- What odysseyref05.Wrap and odysseyref05.Size compute. -/
import Derived.Test.YthbmkoiaennejabDoorWalkB
import Derived.Deep.DeepCutAuto
namespace Go.Proofs.YthbmkoiaennejabDoor
open Go.RowKit Go.ChangeShapes Go.WideShapes Go.ChangeAt
set_option maxHeartbeats 400000 in
theorem rwrap_long (s : ByteArray) (w : World) (h : 200000 < s.size) (hs : s.size ≤ maxLen) :
    Calls Tryd.prog 10 #[.string s] w fun e w' => e = .returned (.tuple #[.string { data := #[] }, .int .i64 2]) ∧ w' = w := by
  unfold maxLen at hs
  go_enter Tryd.func10, Tryd.ntmps10
  go_wp2
  go_ret2
  exact ⟨rfl, rfl⟩
set_option maxHeartbeats 400000 in
theorem rwrap_fits (s : ByteArray) (w : World) (h : s.size ≤ 200000) :
    Calls Tryd.prog 10 #[.string s] w fun e w' => e = .returned (.tuple #[.string (wrapS s), .int .i64 0]) ∧ Below w.heap.size w w' := by
  obtain ⟨x, hx⟩ : ∃ x, x = strOfNats (FrM.low s.size 3) := ⟨_, rfl⟩
  have hback := back8 (Row8.lit w (FrM.low s.size 3) #[.int .u8 ((s.size : Int) % 256), .int .u8 ((s.size : Int) / 256 % 256), .int .u8 ((s.size : Int) / 65536)] (by
    rw [FrM.low3, show s.size / 65536 % 256 = s.size / 65536 by omega]; simp)) (n := 3) (c := 3) (FrM.low_length _ 3)
  rw [← hx] at hback
  have hx3 : x.size = 3 := by rw [hx, strOfNats_size, FrM.low_length]
  have hxs : (x ++ s).size ≤ maxLen := by rw [ByteArray.size_append]; unfold maxLen; omega
  have hx4 : x.size ≤ 3 := by omega
  have HX : Hid (bytesOf x = FrM.low s.size 3) := by show _ = _; rw [hx]; exact strOfNats_bytes _ (FrM.low_lt _ _)
  have HXE := Lib.hid hx
  clear hx hx3
  go_enter Tryd.func10, Tryd.ntmps10
  go_wp2_with fail
  refine (rsum_any (x ++ s) _ hxs).mono ?_
  rintro e w' ⟨rfl, rfl⟩
  have HP : Hid (CrcM.ext 0 (bytesOf (x ++ s)) = FrM.sumOf (FrM.low s.size 3 ++ bytesOf s)) := by show _ = _; rw [bytes_append, HX.out]; rfl
  rw [HP.out]
  have hq := sum_head s s.size
  obtain ⟨q, hqe⟩ : ∃ q, q = FrM.sumOf (FrM.low s.size 3 ++ bytesOf s) := ⟨_, rfl⟩
  rw [← hqe] at hq ⊢
  have HQ := Lib.hid hqe
  clear hqe
  clear hback
  go_wp2_with fail
  refine (four_any q _ hq).mono ?_
  rintro e w2 ⟨rfl, hb2⟩
  obtain ⟨y, hy⟩ : ∃ y, y = strOfNats (FrM.low q 4) := ⟨_, rfl⟩
  rw [← hy]
  have HF : Hid (({ data := #[167] } ++ x ++ y ++ s : ByteArray) = wrapS s) := by
    show _ = _
    rw [HXE.out, hy]
    exact wrap_bytes s _ _ rfl (by rw [HQ.out])
  have hy4 : y.size ≤ 4 := by rw [hy, strOfNats_size, FrM.low_length]; omega
  clear hy
  go_wp2
  go_ret2
  exact ⟨by rw [← HF.out]; simp, below_step ((Below.refl _ _).alloc (Nat.le_refl _) _) hb2⟩
/-- what is left of a string behind a place -/
def restOf (s : ByteArray) (at_ : Nat) : List Nat := (bytesOf s).drop at_
theorem rest_getD (s : ByteArray) (a i : Nat) (h : a + i < s.size) : (restOf s a).getD i 0 = s[a + i].toNat := by
  unfold restOf bytesOf
  simp [List.getD, h]
  rfl
theorem rest_length (s : ByteArray) (a : Nat) : (restOf s a).length = s.size - a := by unfold restOf; rw [List.length_drop, len_bytes]
theorem bytes_lt' (s : ByteArray) : ∀ x ∈ bytesOf s, x < 256 := by
  have := bytes_lt s s.size
  rwa [List.take_of_length_le (by rw [len_bytes]; omega)] at this
theorem rest_lt (s : ByteArray) (a : Nat) : ∀ x ∈ restOf s a, x < 256 := fun x hx => bytes_lt' s x (List.mem_of_mem_drop hx)
theorem str_eq (a b : ByteArray) : (a.toList == b.toList) = decide (bytesOf a = bytesOf b) := by
  rw [ByteArray.toList_eq, ByteArray.toList_eq, Bool.eq_iff_iff, beq_iff_eq, decide_eq_true_iff]
  constructor
  · intro h; unfold bytesOf; rw [h]
  · intro h; rw [bytes_inj h]
theorem ret_i64 {a b : Int} (h : a = b) : Ending.returned (.int .i64 a) = .returned (.int .i64 b) := by rw [h]
set_option maxHeartbeats 800000 in
theorem size_core (s : ByteArray) (a : Nat) (w : World) (hs : s.size ≤ 140737488351232) (ha : a + 8 ≤ s.size) (b0 : a < s.size) (h167 : s[a].toNat = 167) :
    Calls Tryd.prog 21 #[.string s, .int .i64 (a : Int)] w fun e w' => e = .returned (.int .i64 ((FrM.size (restOf s a) : Nat) : Int)) ∧ Below w.heap.size w w' := by
  have hl := rest_length s a
  obtain ⟨n, hn⟩ : ∃ n, n = FrM.numOf (restOf s a) := ⟨_, rfl⟩
  have t1 : ((s[a].toNat : Int) != 167) = false := by rw [bne_eq_false_iff_eq]; omega
  have hnb : n ≤ 16777215 := by
    rw [hn]; unfold FrM.numOf
    rw [rest_getD s a 1 (by omega), rest_getD s a 2 (by omega), rest_getD s a 3 (by omega)]
    have g1 := s[a + 1].toNat_lt
    have g2 := s[a + 2].toNat_lt
    have g3 := s[a + 3].toNat_lt
    omega
  have HG : Hid ((restOf s a).getD 0 0 = 167) := by show _ = _; rw [rest_getD s a 0 (by omega)]; exact h167
  have HN := Lib.hid hn
  have HL := Lib.hid hl
  clear hn hl h167
  go_enter Tryd.func21, Tryd.ntmps21
  go_wp2_with fail
  clear t1
  go_cut [5] (fun v wx => v = .int .i64 (n : Int) ∧ Below w.heap.size w wx)
  case first =>
    have hn2 : (s[a + 1].toNat : Int) + 256 * (s[a + 2].toNat : Int) + 65536 * (s[a + 3].toNat : Int) = (n : Int) := by
      rw [HN.out]; unfold FrM.numOf
      rw [rest_getD s a 1 (by omega), rest_getD s a 2 (by omega), rest_getD s a 3 (by omega)]; simp
    have g1 := s[a + 1].toNat_lt
    have g2 := s[a + 2].toNat_lt
    have g3 := s[a + 3].toNat_lt
    have b1 : (a : Int) + 1 < s.size := by omega
    have b2 : (a : Int) + 2 < s.size := by omega
    have b3 : (a : Int) + 3 < s.size := by omega
    have q1 : IntKind.i64.wrap ((a : Int) + 1) = (a : Int) + 1 := IntWalk.i64_in _ (by omega)
    have q2 : IntKind.i64.wrap ((a : Int) + 2) = (a : Int) + 2 := IntWalk.i64_in _ (by omega)
    have q3 : IntKind.i64.wrap ((a : Int) + 3) = (a : Int) + 3 := IntWalk.i64_in _ (by omega)
    have q4 : IntKind.i64.wrap (256 * (s[a + 2].toNat : Int)) = 256 * (s[a + 2].toNat : Int) := IntWalk.i64_in _ (by omega)
    have q5 : IntKind.i64.wrap (65536 * (s[a + 3].toNat : Int)) = 65536 * (s[a + 3].toNat : Int) := IntWalk.i64_in _ (by omega)
    have q6 : IntKind.i64.wrap ((s[a + 1].toNat : Int) + 256 * (s[a + 2].toNat : Int)) = (s[a + 1].toNat : Int) + 256 * (s[a + 2].toNat : Int) := IntWalk.i64_in _ (by omega)
    have q7 : IntKind.i64.wrap ((s[a + 1].toNat : Int) + 256 * (s[a + 2].toNat : Int) + 65536 * (s[a + 3].toNat : Int)) = (n : Int) := by rw [IntWalk.i64_in _ (by omega)]; exact hn2
    have p1 : 0 ≤ (a : Int) + 1 := by omega
    have p2 : 0 ≤ (a : Int) + 2 := by omega
    have p3 : 0 ≤ (a : Int) + 3 := by omega
    have r1 : ((a : Int) + 1).toNat = a + 1 := by omega
    have r2 : ((a : Int) + 2).toNat = a + 2 := by omega
    have r3 : ((a : Int) + 3).toNat = a + 3 := by omega
    go_quiet (fail)
    go_wp2_with fail
    go_meet
    exact ⟨rfl, below_drewN (Below.refl _ _) _⟩
  case rest =>
    obtain ⟨rfl, hbel⟩ := hcut
    have hA : 200000 < n ∨ n ≤ 200000 := by omega
    have hB : s.size - a - 8 < n ∨ n ≤ s.size - a - 8 := by omega
    rcases hA with hA | hA
    · have HZ : Hid (FrM.size (restOf s a) = 0) := if_neg (fun h => by
        have h2 := h.2.2.2.1
        rw [← HN.out] at h2; omega)
      clear hB
      go_wp2
      go_ret
      exact ⟨by rw [HZ.out]; rfl, hbel⟩
    · rcases hB with hB | hB
      · have HZ : Hid (FrM.size (restOf s a) = 0) := if_neg (fun h => by
          have h2 := h.2.2.2.2.1
          rw [← HN.out, HL.out] at h2; omega)
        go_wp2
        go_ret
        exact ⟨by rw [HZ.out]; rfl, hbel⟩
      · have hB2 : n + a + 8 ≤ s.size := by omega
        clear hB
        go_wp2_with fail
        obtain ⟨q, hq⟩ : ∃ q, q = FrM.sumOf (((restOf s a).drop 1).take 3 ++ ((restOf s a).drop 8).take n) := ⟨_, rfl⟩
        have hqb : q < 4294967296 := by rw [hq]; exact FrM.sumOf_lt _ (fun x hx => by
          rcases List.mem_append.1 hx with hx | hx
          · exact rest_lt s a x (List.mem_of_mem_drop (List.mem_of_mem_take hx))
          · exact rest_lt s a x (List.mem_of_mem_drop (List.mem_of_mem_take hx)))
        go_cut [6] (fun v wx => v = .int .u32 (q : Int) ∧ Below w.heap.size w wx)
        case first =>
          have q1 : IntKind.i64.wrap ((a : Int) + 1) = (a : Int) + 1 := IntWalk.i64_in _ (by omega)
          have q2 : IntKind.i64.wrap ((a : Int) + 4) = (a : Int) + 4 := IntWalk.i64_in _ (by omega)
          have q3 : IntKind.i64.wrap ((a : Int) + 8) = (a : Int) + 8 := IntWalk.i64_in _ (by omega)
          have q4 : IntKind.i64.wrap ((a : Int) + 8 + (n : Int)) = (a : Int) + 8 + (n : Int) := IntWalk.i64_in _ (by omega)
          have p1 : 0 ≤ (a : Int) + 1 := by omega
          have p4 : 0 ≤ (a : Int) + 4 := by omega
          have p8 : 0 ≤ (a : Int) + 8 := by omega
          have p9 : 0 ≤ (a : Int) + 8 + (n : Int) := by omega
          have r1 : ((a : Int) + 1).toNat = a + 1 := by omega
          have r4 : ((a : Int) + 4).toNat = a + 4 := by omega
          have r8 : ((a : Int) + 8).toNat = a + 8 := by omega
          have r9 : ((a : Int) + 8 + (n : Int)).toNat = a + 8 + n := by omega
          have d1 : (a : Int) + 1 ≤ (a : Int) + 4 := by omega
          have d2 : (a : Int) + 4 ≤ (s.size : Int) := by omega
          have d3 : (a : Int) + 8 ≤ (a : Int) + 8 + (n : Int) := by omega
          have d4 : (a : Int) + 8 + (n : Int) ≤ (s.size : Int) := by omega
          have HQ : Hid (CrcM.ext 0 (bytesOf (s.extract (a + 1) (a + 4) ++ s.extract (a + 8) (a + 8 + n))) = q) := by
            show _ = _
            rw [hq, bytes_append, bytes_extract, bytes_extract, show a + 4 - (a + 1) = 3 by omega, show a + 8 + n - (a + 8) = n by omega]
            unfold restOf FrM.sumOf
            rw [List.drop_drop, List.drop_drop]
          have hsz : (s.extract (a + 1) (a + 4) ++ s.extract (a + 8) (a + 8 + n)).size ≤ maxLen := by
            rw [ByteArray.size_append, ByteArray.size_extract, ByteArray.size_extract]; unfold maxLen; omega
          have hcall : ∀ m, Calls Tryd.prog 18 #[.string (s.extract (a + 1) (a + 4) ++ s.extract (a + 8) (a + 8 + n))] (wc.drewN m) fun e w' => e = .returned (.int .u32 (q : Int)) ∧ w' = wc.drewN m := fun m => by
            have h := rsum_any (s.extract (a + 1) (a + 4) ++ s.extract (a + 8) (a + 8 + n)) (wc.drewN m) hsz
            rw [HQ.out] at h
            exact h
          have HC := Lib.hid hcall
          clear hq hqb hcall hsz
          go_quiet ((go_at_call 18; exact Calls.quiet_of_same (HC.out _)))
          go_wp2_with fail
          go_meet
          exact ⟨rfl, below_drewN hbel _⟩
        case rest =>
          obtain ⟨rfl, hbel2⟩ := hcut
          have HQ := Lib.hid hq
          clear hq hbel
          go_wp2_with fail
          have q1 : IntKind.i64.wrap ((a : Int) + 4) = (a : Int) + 4 := IntWalk.i64_in _ (by omega)
          have q3 : IntKind.i64.wrap ((a : Int) + 8) = (a : Int) + 8 := IntWalk.i64_in _ (by omega)
          have p4 : 0 ≤ (a : Int) + 4 := by omega
          have p8 : 0 ≤ (a : Int) + 8 := by omega
          have r4 : ((a : Int) + 4).toNat = a + 4 := by omega
          have r8 : ((a : Int) + 8).toNat = a + 8 := by omega
          have d1 : (a : Int) + 4 ≤ (a : Int) + 8 := by omega
          have d2 : (a : Int) + 8 ≤ (s.size : Int) := by omega
          obtain ⟨tb, htb⟩ : ∃ tb, tb = !((strOfNats (FrM.low q 4)).toList == (s.extract (a + 4) (a + 8)).toList) := ⟨_, rfl⟩
          have HTB : Hid (tb = false ↔ FrM.low q 4 = ((restOf s a).drop 4).take 4) := by
            show _ ↔ _
            rw [htb, Bool.not_eq_false', str_eq, decide_eq_true_iff, strOfNats_bytes _ (FrM.low_lt _ _), bytes_extract, show a + 8 - (a + 4) = 4 by omega]
            unfold restOf
            rw [List.drop_drop]
          go_cut [72] (fun v wx => v = .bool tb ∧ Below w.heap.size w wx)
          case first =>
            go_region_with (go_at_call 19; refine (four_any q _ hqb).mono ?_; rintro e w2 ⟨rfl, hb2⟩)
            all_goals
              go_wp2_with fail
              go_meet
              exact ⟨by rw [htb], below_step hbel2.drew hb2⟩
          case rest =>
            obtain ⟨rfl, hbel3⟩ := hcut
            clear htb
            cases tb with
            | false =>
              have HZ : Hid (FrM.size (restOf s a) = n + 8) := FrM.size_of ⟨by rw [HL.out]; omega, HG.out, HN.out, hA, by rw [HL.out]; omega, by
                have := HTB.out.1 rfl
                rwa [HQ.out] at this⟩
              go_wp2
              go_ret
              exact ⟨ret_i64 (by rw [HZ.out]; simp), hbel3⟩
            | true =>
              have HZ : Hid (FrM.size (restOf s a) = 0) := if_neg (fun h => by
                have h2 := h.2.2.2.2.2
                rw [← HN.out, ← HQ.out] at h2
                exact absurd (HTB.out.2 h2) (by decide))
              go_wp2
              go_ret
              exact ⟨ret_i64 (by rw [HZ.out]; rfl), hbel3⟩
theorem size_any (s : ByteArray) (a : Nat) (w : World) (hs : s.size ≤ 140737488351232) (ha : a ≤ s.size) :
    Calls Tryd.prog 21 #[.string s, .int .i64 (a : Int)] w fun e w' => e = .returned (.int .i64 ((FrM.size (restOf s a) : Nat) : Int)) ∧ Below w.heap.size w w' := by
  have hl := rest_length s a
  by_cases h8 : s.size < a + 8
  · have HZ : Hid (FrM.size (restOf s a) = 0) := if_neg (fun h => by have := h.1; omega)
    clear hl
    go_enter Tryd.func21, Tryd.ntmps21
    go_wp2
    go_ret
    exact ⟨by rw [HZ.out]; rfl, Below.refl _ _⟩
  · have b0 : a < s.size := by omega
    by_cases h167 : s[a].toNat = 167
    · exact size_core s a w hs (by omega) b0 h167
    · have HZ : Hid (FrM.size (restOf s a) = 0) := if_neg (fun h => by
        have h2 := h.2.1
        rw [rest_getD s a 0 (by omega)] at h2
        exact h167 h2)
      have t1 : ((s[a].toNat : Int) != 167) = true := by rw [bne_iff_ne]; omega
      clear hl h167
      go_enter Tryd.func21, Tryd.ntmps21
      go_wp2
      go_ret
      exact ⟨by rw [HZ.out]; rfl, Below.refl _ _⟩
end Go.Proofs.YthbmkoiaennejabDoor
