/- The walk of the law PoolKeeps. -/
import Derived.Test.YtmkbehdfchjeoaaPJ
import Derived.Deep.CutBlock
namespace Go.Proofs.Ytmkbehdfchjeoaa
open Go.RowKit Go.ChangeShapes Go.WideShapes Go.ChangeAt
/-- what came in, what was taken out, what is there -/
structure Keeps (room : Int) (k : Nat) (L I O : List ByteArray) : Prop where
  room : L.length ≤ room
  k : I.length ≤ k
  len : L.length + O.length = I.length
  cnt : ∀ s, cnt L s + cnt O s = cnt I s
theorem Keeps.start {room : Int} (h : 0 ≤ room) : Keeps room 0 [] [] [] := ⟨by simpa using h, by simp, by simp, fun s => by simp [Ytmkbehdfchjeoaa.cnt]⟩
theorem Keeps.same {room : Int} {k : Nat} {L I O : List ByteArray} (h : Keeps room k L I O) : Keeps room (k + 1) L I O := ⟨h.room, by have := h.k; omega, h.len, h.cnt⟩
theorem Keeps.add {room : Int} {k : Nat} {L I O : List ByteArray} (h : Keeps room k L I O) (s : ByteArray) (hr : L.length < room) : Keeps room (k + 1) (L ++ [s]) (I ++ [s]) O :=
  ⟨by simp; omega, by have := h.k; simp; omega, by have := h.len; simp; omega, fun x => by have := h.cnt x; rw [cnt_snoc, cnt_snoc]; omega⟩
theorem Keeps.take {room : Int} {k : Nat} {L I O : List ByteArray} (h : Keeps room k L I O) (i : Nat) (hi : i < L.length) : Keeps room (k + 1) (L.eraseIdx i) I (O ++ [L[i]]) :=
  ⟨by have := h.room; rw [List.length_eraseIdx_of_lt hi]; omega, by have := h.k; omega, by have := h.len; rw [List.length_eraseIdx_of_lt hi]; simp; omega, fun x => by have := h.cnt x; have e := cnt_erase L i hi x; rw [cnt_snoc]; omega⟩
def KeepRel (w : World) (p : Nat) (room : Int) (N : Nat) (v7 v8 i : Value) (wr : World) : Prop :=
  ∃ (k : Nat) (L I O : List ByteArray) (A1 : Option Addr) (c1 : Nat) (A2 : Option Addr) (c2 : Nat), k ≤ N ∧ i = .int .i64 k ∧ v7 = .slice A1 I.length c1 ∧ v8 = .slice A2 O.length c2 ∧ Keeps room k L I O ∧ Sat w wr [Row 9 1 A1 I.length c1 (strs I), Row 9 1 A2 O.length c2 (strs O), PoolC p 70 room L, Old w]
def KeepMid (w : World) (p : Nat) (room : Int) (k : Nat) (v7 v8 : Value) (wr : World) : Prop :=
  ∃ (L I O : List ByteArray) (A1 : Option Addr) (c1 : Nat) (A2 : Option Addr) (c2 : Nat), v7 = .slice A1 I.length c1 ∧ v8 = .slice A2 O.length c2 ∧ Keeps room (k + 1) L I O ∧ Sat w wr [Row 9 1 A1 I.length c1 (strs I), Row 9 1 A2 O.length c2 (strs O), PoolC p 70 room L, Old w]
set_option maxRecDepth 100000 in
set_option maxHeartbeats 3200000 in
theorem poolKeeps_walk (a0 : Int) (A : Option Addr) (n c : Nat) (M : List POp) (w : World) (w0 : (Lit.int .i64 a0).wf = true) (w1 : Elems w (.slice A n c) 3 (M.map POp.vs)) (y1 : n * 32 ≤ 140737488351232) :
    Calls Try.prog 9 #[.int .i64 a0, .slice A n c] w fun e w' => e = .returned (.bool true) ∧ Below w.heap.size w w' := by
  have HE := Lib.hid w1
  obtain ⟨hn, _, _⟩ := w1.at_
  rw [List.length_map] at hn
  subst hn
  obtain ⟨hi1, hi2⟩ := i64_of w0
  obtain ⟨ii, hi, hz, hsz, hby⟩ := info_parts info9
  clear w0 w1
  go_enter Try.func9, Try.ntmps9
  go_wp2_with fail
  refine (pick_any a0 200 _ hi1 hi2 (by decide) (by decide)).mono ?_
  rintro e w' ⟨pk, hp1, hp2, rfl, rfl⟩
  clear hi1 hi2
  go_wp2_with fail
  obtain ⟨room, hroom⟩ : ∃ room, room = 1 + pk := ⟨_, rfl⟩
  rw [← hroom]
  have hr1 : 1 ≤ room := by omega
  have hr2 : room ≤ 200 := by omega
  clear hroom hp1 hp2
  refine (pnew_ok room w' _ _ (Sat.start w') hr1 hr2).mono ?_
  rintro e w1 ⟨rfl, hS1⟩
  go_wp2_with fail
  refine (plive_any _).mono ?_
  rintro e w2 ⟨rfl, hb⟩
  have hS2 := ((hS1.below hb).nilRow 9 1).nilRow 9 1
  clear hS1 hb
  go_wp2_with fail
  go_loopw [7, 8, 9] (KeepRel w' w'.heap.size room M.length) (fun _ _ i _ => M.length - (intOf i).toNat)
  case atStart => exact ⟨0, [], [], [], none, 0, none, 0, Nat.zero_le _, rfl, rfl, rfl, Keeps.start (by omega), hS2⟩
  case round =>
    obtain ⟨k, L, I, O, A1, c1, A2, c2, hk, rfl, rfl, rfl, hK, hT⟩ := hrel
    clear hS2
    by_cases hlt : k < M.length
    · obtain ⟨b, of, rfl, hc⟩ := HE.out.at_.2.2 (by rw [List.length_map]; omega)
      have hc' := hc k (by rw [List.length_map]; exact hlt)
      have hx : (M.map POp.vs).getD k [] = (M[k]).vs := by simp [List.getD, hlt]
      rw [hx] at hc'
      obtain ⟨⟨d, m, s⟩, hM⟩ : ∃ x, M[k] = x := ⟨_, rfl⟩
      rw [hM] at hc'
      have e0 := old_cell (hT.old (by simp)) (hc' 0 (by decide))
      have e1 := old_cell (hT.old (by simp)) (hc' 1 (by decide))
      have e2 := old_cell (hT.old (by simp)) (hc' 2 (by decide))
      simp only [POp.vs] at e0 e1 e2
      rw [Nat.add_zero] at e0
      clear hc hc' hx hM
      have hLm := hK.room
      have hIm := hK.k
      have hOm := hK.len
      have hb := hT.new #[.int .i64 d, .int .i64 m, .string s] 62
      go_wp2_with fail
      refine (all_any _ room L w' _ _ hb.r4 (by omega)).mono ?_
      rintro e v1 ⟨A3, c3, rfl, hT1⟩
      have x0 := hT1.r3.blk.cell 0
      have x1 := hT1.r3.blk.cell 1
      have x2 := hT1.r3.blk.cell 2
      clear e0 e1 e2
      go_upto_block 2 with fail
      go_cut [7, 8] (KeepMid w' w'.heap.size room k)
      case first =>
        by_cases d0 : d = 0
        · have t0 : (d == 0) = true := by rw [beq_iff_eq]; exact d0
          clear d0
          by_cases h1 : 2000 < s.size
          · go_wp2_with fail
            refine (send_long _ s _ h1).mono ?_
            rintro e v2 ⟨rfl, rfl⟩
            go_wp2_with fail
            go_meet
            exact ⟨L, I, O, A1, c1, A2, c2, rfl, rfl, hK.same, hT1.tail.r2.tail.b3⟩
          · by_cases h2 : room ≤ L.length
            · go_wp2_with fail
              refine (send_full _ room L s w' _ _ hT1.r2 h1 h2).mono ?_
              rintro e v2 ⟨rfl, m2, rfl⟩
              go_wp2_with fail
              go_meet
              exact ⟨L, I, O, A1, c1, A2, c2, rfl, rfl, hK.same, (hT1.tail.r2.tail.b3).drewN m2⟩
            · have h4 : I.length + 1 ≤ maxLen := by unfold maxLen; omega
              have h5 : (I.length + 1) * 16 ≤ 140737488355328 := by omega
              go_wp2_with fail
              refine (send_ok _ room L s w' _ _ hT1.r2 h1 (by omega) hr2).mono ?_
              rintro e v2 ⟨rfl, hT2⟩
              have x2 := hT2.r3.blk.cell 2
              go_wp2_with (at_builtin; refine wpList_app1 rfl (.tmp 55) (.tmp 58) 22 rfl 9 ii (.string ⟨#[]⟩) 1 16 Try.underlying22 hi hz hsz hby rfl (by decide) rfl (hT2.r4.new #[.string s] 9) (by rfl) rfl (strs_one [s]) h4 h5 ?_; intro A' c' w3 hT3; clear x0 x1 x2)
              go_meet
              exact ⟨L ++ [s], I ++ [s], O, A', c', A2, c2, by simp, rfl, hK.add s (by omega), by simpa [strs] using hT3.r5.r2.r4.tail.r4.tail⟩
        have t0 : (d == 0) = false := by rw [beq_eq_false_iff_ne]; exact d0
        clear d0
        by_cases d1 : d = 1
        · have t1 : (d == 1) = true := by rw [beq_iff_eq]; exact d1
          clear d1
          by_cases hm : 0 ≤ m ∧ m < L.length
          · obtain ⟨i, rfl⟩ := Int.eq_ofNat_of_zero_le hm.1
            have hi2 : i < L.length := by omega
            have h4 : O.length + 1 ≤ maxLen := by unfold maxLen; omega
            have h5 : (O.length + 1) * 16 ≤ 140737488355328 := by omega
            clear hm
            go_wp2_with fail
            refine (take_ok _ room L i w' _ _ hT1.r2 hi2 (by omega)).mono ?_
            rintro e v2 ⟨rfl, hT2⟩
            go_wp2_with (at_builtin; refine wpList_app1 rfl (.tmp 71) (.tmp 73) 22 rfl 9 ii (.string ⟨#[]⟩) 1 16 Try.underlying22 hi hz hsz hby rfl (by decide) rfl (hT2.r5.new #[.string L[i]] 9) (by rfl) rfl (strs_one [L[i]]) h4 h5 ?_; intro A' c' w3 hT3; clear x0 x1 x2)
            go_meet
            exact ⟨L.eraseIdx i, I, O ++ [L[i]], A1, c1, A', c', rfl, by simp, hK.take i hi2, by simpa [strs] using hT3.r5.r4.tail.r4.tail⟩
          · go_wp2_with fail
            refine (take_none _ room L m w' _ _ hT1.r2 hm).mono ?_
            rintro e v2 ⟨rfl, rfl⟩
            go_wp2_with fail
            go_meet
            exact ⟨L, I, O, A1, c1, A2, c2, rfl, rfl, hK.same, hT1.tail.r2.tail.b3⟩
        have t1 : (d == 1) = false := by rw [beq_eq_false_iff_ne]; exact d1
        clear d1
        by_cases d2 : d = 2
        · have t2 : (d == 2) = true := by rw [beq_iff_eq]; exact d2
          clear d2
          by_cases hm : 0 ≤ m ∧ m < L.length
          · obtain ⟨i, rfl⟩ := Int.eq_ofNat_of_zero_le hm.1
            have hi2 : i < L.length := by omega
            clear hm
            have hne : strs L ≠ [] := by intro e; rw [strs, List.map_eq_nil_iff] at e; subst e; simp at hi2
            by_cases h2 : room ≤ L.length
            · go_wp2_with fail
              refine (double_full _ room L i w' _ _ hT1.r2 hi2 (by omega) h2).mono ?_
              rintro e v2 ⟨rfl, m2, rfl⟩
              go_wp2_with fail
              go_meet
              exact ⟨L, I, O, A1, c1, A2, c2, rfl, rfl, hK.same, (hT1.tail.r2.tail.b3).drewN m2⟩
            · have h4 : I.length + 1 ≤ maxLen := by unfold maxLen; omega
              have h5 : (I.length + 1) * 16 ≤ 140737488355328 := by omega
              obtain ⟨g, rfl, _, _⟩ := hT1.rowCell hne
              go_wp2_with fail
              refine (double_ok _ room L i w' _ _ hT1.r2 hi2 (by omega) hr2).mono ?_
              rintro e v2 ⟨rfl, hT2⟩
              have x1 := hT2.r3.blk.cell 1
              obtain ⟨g', e, hc, _⟩ := hT2.r2.rowCell hne
              cases e
              have dd := hc i (by rw [strs_len]; exact hi2)
              rw [strs, List.getElem?_map, List.getElem?_eq_getElem hi2, Option.map_some] at dd
              clear hc
              go_wp2_with (at_builtin; refine wpList_app1 rfl (.tmp 92) (.tmp 98) 22 rfl 9 ii (.string ⟨#[]⟩) 1 16 Try.underlying22 hi hz hsz hby rfl (by decide) rfl (hT2.r4.new #[.string L[i]] 9) (by rfl) rfl (strs_one [L[i]]) h4 h5 ?_; intro A' c' w3 hT3; clear x0 x1 x2 dd)
              go_meet
              exact ⟨L ++ [L[i]], I ++ [L[i]], O, A', c', A2, c2, by simp, rfl, hK.add L[i] (by omega), by simpa [strs] using hT3.r5.r2.r4.tail.r4.tail⟩
          · go_wp2_with fail
            refine (double_none _ room L m w' _ _ hT1.r2 hm).mono ?_
            rintro e v2 ⟨rfl, rfl⟩
            go_wp2_with fail
            go_meet
            exact ⟨L, I, O, A1, c1, A2, c2, rfl, rfl, hK.same, hT1.tail.r2.tail.b3⟩
        have t2 : (d == 2) = false := by rw [beq_eq_false_iff_ne]; exact d2
        clear d2
        go_wp2_with fail
        go_meet
        exact ⟨L, I, O, A1, c1, A2, c2, rfl, rfl, hK.same, hT1.tail.r2.tail.b3⟩
      case rest =>
        obtain ⟨L', I', O', B1, k1, B2, k2, rfl, rfl, hK', hU⟩ := hcut
        clear hT1 hT hb x0 x1 x2
        have hLm := hK'.room
        have hIm := hK'.k
        have hOm := hK'.len
        have HC := Lib.hid hK'.cnt
        have HK := Lib.hid hK'
        clear hK hK'
        go_wp2_with fail
        refine (all_any _ room L' w' _ _ hU.r3 (by omega)).mono ?_
        rintro e v3 ⟨A4, c4, rfl, hU1⟩
        have sw : IntKind.i64.wrap ((I'.length : Int) - (O'.length : Int)) = (L'.length : Int) := by rw [IntWalk.i64_in _ (by omega)]; omega
        have tr : decide (room < (L'.length : Int)) = false := decide_eq_false (by omega)
        go_wp2_with fail
        clear sw tr
        go_loopw [15] (fun j wx => ∃ q : Nat, q ≤ L'.length ∧ j = .int .i64 q ∧ Sat w' wx [Row 9 1 A4 L'.length c4 (strs L'), PoolC w'.heap.size 70 room L', Row 9 1 B1 I'.length k1 (strs I'), Row 9 1 B2 O'.length k2 (strs O'), Old w']) (fun j _ => L'.length - (intOf j).toNat)
        case atStart => exact ⟨0, Nat.zero_le _, rfl, hU1⟩
        case round =>
          obtain ⟨q, hq, rfl, hV⟩ := hrel
          clear hU1 hU
          by_cases hql : q < L'.length
          · obtain ⟨g, rfl, hc, _⟩ := hV.rowCell (by intro e; rw [strs, List.map_eq_nil_iff] at e; subst e; simp at hql)
            have dd := hc q (by rw [strs_len]; exact hql)
            rw [strs, List.getElem?_map, List.getElem?_eq_getElem hql, Option.map_some] at dd
            obtain ⟨z, hz'⟩ : ∃ z, L'[q] = z := ⟨_, rfl⟩
            rw [hz'] at dd
            have hcz := HC.out z
            have hcl := cnt_le I' z
            have sw : IntKind.i64.wrap ((cnt I' z : Int) - (cnt O' z : Int)) = (cnt L' z : Int) := by rw [IntWalk.i64_in _ (by omega)]; omega
            have q1 : L'.length ≤ 140737488351232 := by omega
            have q2 : I'.length ≤ 140737488351232 := by omega
            have q3 : O'.length ≤ 140737488351232 := by omega
            clear hc hz' hcz hcl
            go_wp2_with fail
            go_quiet ((first
              | (go_at_call 32; with_reducible exact Calls.quiet_of_same (count_any _ c4 L' z w' _ _ (hV.drewN _) q1))
              | (go_at_call 32; with_reducible exact Calls.quiet_of_same (count_any _ k1 I' z w' _ _ (hV.r3.drewN _) q2))
              | (go_at_call 32; with_reducible exact Calls.quiet_of_same (count_any _ k2 O' z w' _ _ (hV.r4.drewN _) q3))))
            go_wp2_with fail
            clear dd sw
            go_roundw
            case rel => exact ⟨q + 1, by omega, by go_num, hV.drewN _⟩
            case measure => simp [intOf]; omega
          · go_wp2_with fail
            go_roundw
            case rel => exact ⟨k + 1, L', I', O', B1, k1, B2, k2, by omega, by go_num, rfl, rfl, HK.out, hV.tail.b3⟩
            case measure => simp [intOf]; omega
    · go_wp2_with fail
      go_ret
      exact ⟨rfl, hT.old (by simp)⟩
end Go.Proofs.Ytmkbehdfchjeoaa
