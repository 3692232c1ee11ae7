/- The law WheelScripts: the walk. -/
import Derived.Test.YtnjhnchjlecdoaaWN
import Derived.Deep.RegionHeld3
set_option linter.unusedVariables false
set_option linter.unusedSimpArgs false
set_option linter.unnecessarySimpa false
set_option maxRecDepth 100000
namespace Go.Proofs.Ytnjhnchjlecdoaa
open Go.RowKit Go.ChangeShapes Go.WideShapes Go.ChangeAt
def ScRel (w0 : World) (g r n : Nat) (i : Value) (wr : World) : Prop :=
  ∃ (k : Nat) (L : List Tm), k ≤ n ∧ i = .int .i64 k ∧ Fine L ∧ Sat w0 wr [WheelC g 48 50 L, WheelC r 58 61 L, Old w0]
set_option maxHeartbeats 6400000 in
theorem wheelScripts_walk (A : Option Addr) (n c : Nat) (l : List TOp) (w : World) (w0 : OpsAt w A n c l) (_ : n * 24 ≤ 140737488351232) :
    Calls Try.prog 5 #[.slice A n c] w fun e w' => e = .returned (.bool true) ∧ Below w.heap.size w w' := by
  obtain ⟨hn, hml, _⟩ := w0.1.at_
  rw [List.length_map] at hn hml
  subst hn
  unfold maxLen at hml
  have HE := Lib.hid w0.1
  have HW := Lib.hid w0.2
  clear w0
  go_enter Try.func5, Try.ntmps5
  go_wp2_with fail
  refine (begun_any (Sat.start w)).mono ?_
  rintro e w1 ⟨g, rfl, h1⟩
  go_wp2_with fail
  refine (rnew_any h1).mono ?_
  rintro e w2 ⟨rfl, h2⟩
  obtain ⟨r, hr⟩ : ∃ r, w1.heap.size = r := ⟨_, rfl⟩
  rw [hr] at h2 ⊢
  clear hr h1
  go_wp2_with fail
  refine (rset_any 900001 1073741824 h2 (by decide) ((⟨by decide, by decide, by decide⟩ : Fine []).gone _)).mono ?_
  rw [beg1]
  rintro e w3 ⟨rfl, h3⟩
  clear h2
  go_wp2_with fail
  refine (rset_any 900000 1073741824 h3 (by decide) (beg_fine1.gone _)).mono ?_
  rw [beg2]
  rintro e w4 ⟨rfl, h4⟩
  have H4 := Lib.hid h4.r2
  clear h3 h4
  go_wp2_with fail
  go_loopw [5] (ScRel w g r l.length) (fun i _ => l.length - (intOf i).toNat)
  case atStart => exact ⟨0, begL, Nat.zero_le _, rfl, beg_fine, H4.out⟩
  case round =>
    obtain ⟨k, L, hk, rfl, hF, hT⟩ := hrel
    clear H4
    by_cases hlt : k < l.length
    · obtain ⟨b, of, rfl⟩ := op_addr HE.out (by omega)
      obtain ⟨e0, e1, e2⟩ := op_cells HE.out (hT.old (by simp)) k hlt
      obtain ⟨⟨act, id, at_⟩, hM⟩ : ∃ x, l[k] = x := ⟨_, rfl⟩
      rw [hM] at e0 e1 e2
      simp only at e0 e1 e2
      have HF := Lib.hid hF
      have HS := Lib.hid (hT.new #[.int .i64 act, .int .i64 id, .int .i64 at_] 29)
      obtain ⟨o, ho⟩ : ∃ o, wr.heap.size = o := ⟨_, rfl⟩
      rw [ho] at HS
      clear hM hT hF
      by_cases a0 : act = 0
      · subst a0
        have HFN : Hid (Fine (setL L id at_)) := HF.out.set id at_
        have HA := Lib.hid (fun (w1 : World) (G : List HP) (h : Sat w w1 (WheelC g 48 50 L :: G)) => wset_any id at_ h HF.out.len)
        have HB := Lib.hid (fun (w1 : World) (G : List HP) (h : Sat w w1 (WheelC r 58 61 L :: G)) => rset_any id at_ h HF.out.len (HF.out.gone id))
        obtain ⟨K, hK⟩ : ∃ K, setL L id at_ = K := ⟨_, rfl⟩
        obtain ⟨k1, hk1⟩ : ∃ K, setC L id at_ = K := ⟨_, rfl⟩
        rw [hK] at HFN
        rw [hK, hk1] at HA HB
        have i1 : (k1 != k1) = false := by simp
        clear hK hk1
        go_wp2_with fail
        have h1 := HS.out.r3.r3
        generalize (wr.alloc (.cells #[.int .i64 0, .int .i64 id, .int .i64 at_] 29)) = W at h1 HS ⊢
        try rw [ho]
        clear ho HS e0 e1 e2
        have x1 : W.cell? ⟨o, 1, none⟩ = some (.int .i64 id) := h1.r3.blk.cell 1
        have x2 : W.cell? ⟨o, 2, none⟩ = some (.int .i64 at_) := h1.r3.blk.cell 2
        go_region_held3 (fun w' => w'.cell? ⟨o, 1, none⟩ = some (.int .i64 id) ∧ w'.cell? ⟨o, 2, none⟩ = some (.int .i64 at_))
          (first | exact ⟨x1, x2⟩ | exact ⟨y1, y2⟩ | exact ⟨z1, z2⟩)
          (first
            | (go_at_call 10; refine (HA.out _ _ h1.drew).mono ?_; rintro e w5 ⟨rfl, h5⟩; have y1 : w5.cell? ⟨o, 1, none⟩ = some (.int .i64 id) := h5.r3.blk.cell 1; have y2 : w5.cell? ⟨o, 2, none⟩ = some (.int .i64 at_) := h5.r3.blk.cell 2)
            | (go_at_call 16; refine (HB.out _ _ h5.r2).mono ?_; rintro e w6 ⟨rfl, h6'⟩; have h6 := h6'.r2; have z1 : w6.cell? ⟨o, 1, none⟩ = some (.int .i64 id) := h6.r3.blk.cell 1; have z2 : w6.cell? ⟨o, 2, none⟩ = some (.int .i64 at_) := h6.r3.blk.cell 2)
            | (go_at_call 16; refine (HB.out _ _ h1.drew.r2).mono ?_; rintro e w5 ⟨rfl, h5'⟩; have h5 := h5'.r2; have y1 : w5.cell? ⟨o, 1, none⟩ = some (.int .i64 id) := h5.r3.blk.cell 1; have y2 : w5.cell? ⟨o, 2, none⟩ = some (.int .i64 at_) := h5.r3.blk.cell 2)
            | (go_at_call 10; refine (HA.out _ _ h5).mono ?_; rintro e w6 ⟨rfl, h6⟩; have z1 : w6.cell? ⟨o, 1, none⟩ = some (.int .i64 id) := h6.r3.blk.cell 1; have z2 : w6.cell? ⟨o, 2, none⟩ = some (.int .i64 at_) := h6.r3.blk.cell 2))
        all_goals
          have h7 := h6.r3.tail
          clear x1 x2 y1 y2 z1 z2 h1 h5 h6 HA HB
          try clear h5'
          try clear h6'
          have H7 := Lib.hid h7
          have j1 : (nextN K != nextN K) = false := by simp
          have j2 : (nextB K != nextB K) = false := by simp
          have j3 : (((K.length : Nat) : Int) != ((K.length : Nat) : Int)) = false := by simp
          clear h7
          go_wp2_with fail
          refine (wnext_any H7.out (by have := HFN.out.len; omega)).mono ?_
          rintro e v1 ⟨rfl, rfl⟩
          go_wp2_with fail
          refine (rnext_any H7.out.r2 (by have := HFN.out.len; omega)).mono ?_
          rintro e v2 ⟨rfl, rfl⟩
          go_wp2_with fail
          refine (wlen_any H7.out).mono ?_
          rintro e v3 ⟨rfl, rfl⟩
          go_wp2_with fail
          refine (rlen_any H7.out.r2).mono ?_
          rintro e v4 ⟨rfl, rfl⟩
          go_wp2_with fail
          go_roundw
          case rel => exact ⟨k + 1, K, by omega, by go_num, HFN.out, H7.out⟩
          case measure => simp [intOf]; omega
      have t0 : (act == 0) = false := by rw [beq_eq_false_iff_ne]; exact a0
      by_cases a1 : act = 1
      · subst a1
        clear a0
        have HFN : Hid (Fine (stopL L id)) := HF.out.stop id
        have HA := Lib.hid (fun (w1 : World) (G : List HP) (h : Sat w w1 (WheelC g 48 50 L :: G)) => wstop_any id h (by have := HF.out.len; omega))
        have HB := Lib.hid (fun (w1 : World) (G : List HP) (h : Sat w w1 (WheelC r 58 61 L :: G)) => rstop_any id h (by have := HF.out.len; omega))
        obtain ⟨K, hK⟩ : ∃ K, stopL L id = K := ⟨_, rfl⟩
        obtain ⟨k1, hk1⟩ : ∃ K, stopB L id = K := ⟨_, rfl⟩
        rw [hK] at HFN
        rw [hK, hk1] at HA HB
        have i1 : (k1 != k1) = false := by simp
        clear hK hk1
        go_wp2_with fail
        have h1 := HS.out.r3.r3
        generalize (wr.alloc (.cells #[.int .i64 1, .int .i64 id, .int .i64 at_] 29)) = W at h1 HS ⊢
        try rw [ho]
        clear ho HS e0 e1 e2
        have x1 : W.cell? ⟨o, 1, none⟩ = some (.int .i64 id) := h1.r3.blk.cell 1
        go_region_held3 (fun w' => w'.cell? ⟨o, 1, none⟩ = some (.int .i64 id))
          (first | exact x1 | exact y1 | exact z1)
          (first
            | (go_at_call 17; refine (HA.out _ _ h1.drew).mono ?_; rintro e w5 ⟨rfl, h5⟩; have y1 : w5.cell? ⟨o, 1, none⟩ = some (.int .i64 id) := h5.r3.blk.cell 1)
            | (go_at_call 18; refine (HB.out _ _ h5.r2).mono ?_; rintro e w6 ⟨rfl, h6'⟩; have h6 := h6'.r2; have z1 : w6.cell? ⟨o, 1, none⟩ = some (.int .i64 id) := h6.r3.blk.cell 1)
            | (go_at_call 18; refine (HB.out _ _ h1.drew.r2).mono ?_; rintro e w5 ⟨rfl, h5'⟩; have h5 := h5'.r2; have y1 : w5.cell? ⟨o, 1, none⟩ = some (.int .i64 id) := h5.r3.blk.cell 1)
            | (go_at_call 17; refine (HA.out _ _ h5).mono ?_; rintro e w6 ⟨rfl, h6⟩; have z1 : w6.cell? ⟨o, 1, none⟩ = some (.int .i64 id) := h6.r3.blk.cell 1))
        all_goals
          have h7 := h6.r3.tail
          clear x1 y1 z1 h1 h5 h6 HA HB
          try clear h5'
          try clear h6'
          have H7 := Lib.hid h7
          have j1 : (nextN K != nextN K) = false := by simp
          have j2 : (nextB K != nextB K) = false := by simp
          have j3 : (((K.length : Nat) : Int) != ((K.length : Nat) : Int)) = false := by simp
          clear h7
          go_wp2_with fail
          refine (wnext_any H7.out (by have := HFN.out.len; omega)).mono ?_
          rintro e v1 ⟨rfl, rfl⟩
          go_wp2_with fail
          refine (rnext_any H7.out.r2 (by have := HFN.out.len; omega)).mono ?_
          rintro e v2 ⟨rfl, rfl⟩
          go_wp2_with fail
          refine (wlen_any H7.out).mono ?_
          rintro e v3 ⟨rfl, rfl⟩
          go_wp2_with fail
          refine (rlen_any H7.out.r2).mono ?_
          rintro e v4 ⟨rfl, rfl⟩
          go_wp2_with fail
          go_roundw
          case rel => exact ⟨k + 1, K, by omega, by go_num, HFN.out, H7.out⟩
          case measure => simp [intOf]; omega
      have t1 : (act == 1) = false := by rw [beq_eq_false_iff_ne]; exact a1
      by_cases a2 : act = 2
      · subst a2
        clear a0 a1
        have HFN : Hid (Fine (L.drop (dueN L at_))) := HF.out.drop _
        have HA := Lib.hid (fun (w1 : World) (G : List HP) (h : Sat w w1 (WheelC g 48 50 L :: G)) => wdue_any at_ h (by have := HF.out.len; omega))
        have HB := Lib.hid (fun (w1 : World) (G : List HP) (h : Sat w w1 (WheelC r 58 61 L :: G)) => rdue_any at_ h (by have := HF.out.len; omega))
        have hql : ((L.take (dueN L at_)).map (·.1)).length = dueN L at_ := by
          have := first_le L (isLate at_)
          rw [List.length_map, List.length_take]
          unfold dueN
          omega
        have hqi := ids_nums (L.take (dueN L at_))
        obtain ⟨Q, hQ⟩ : ∃ Q, (L.take (dueN L at_)).map (·.1) = Q := ⟨_, rfl⟩
        rw [hQ] at hql hqi
        have hdl : dueN L at_ ≤ 200 := Nat.le_trans (first_le L (isLate at_)) HF.out.len
        obtain ⟨K, hK⟩ : ∃ K, L.drop (dueN L at_) = K := ⟨_, rfl⟩
        rw [hK] at HFN
        rw [hK, hqi] at HA HB
        obtain ⟨N, hN⟩ : ∃ N, dueN L at_ = N := ⟨_, rfl⟩
        rw [hN] at HA HB hql hdl
        clear hK hN hQ hqi
        subst hql
        have x1 := HS.out.blk.cell 2
        go_wp2_with fail
        refine (HA.out _ _ HS.out.r2).mono ?_
        rintro e w5 ⟨A1, c1, rfl, h5⟩
        have x2 := h5.r3.blk.cell 2
        clear x1 HS ho e0 e1 e2
        go_wp2_with fail
        refine (HB.out _ _ h5.r4).mono ?_
        rintro e w6 ⟨A2, c2, rfl, h6⟩
        have HSM := Lib.hid (same_yes h6.r3 (by omega))
        clear x2 h5
        go_wp2_with fail
        refine HSM.out.mono ?_
        rintro e w7 ⟨rfl, h8⟩
        clear HSM h6
        go_wp2_with fail
        refine (filled_any h8 (by omega)).mono ?_
        rintro e w8 ⟨rfl, h9⟩
        have h7 := (h9.tail.r3.tail).r2
        clear h8 h9 HA HB
        have H7 := Lib.hid h7
        have j1 : (nextN K != nextN K) = false := by simp
        have j2 : (nextB K != nextB K) = false := by simp
        have j3 : (((K.length : Nat) : Int) != ((K.length : Nat) : Int)) = false := by simp
        clear h7
        go_wp2_with fail
        refine (wnext_any H7.out (by have := HFN.out.len; omega)).mono ?_
        rintro e v1 ⟨rfl, rfl⟩
        go_wp2_with fail
        refine (rnext_any H7.out.r2 (by have := HFN.out.len; omega)).mono ?_
        rintro e v2 ⟨rfl, rfl⟩
        go_wp2_with fail
        refine (wlen_any H7.out).mono ?_
        rintro e v3 ⟨rfl, rfl⟩
        go_wp2_with fail
        refine (rlen_any H7.out.r2).mono ?_
        rintro e v4 ⟨rfl, rfl⟩
        go_wp2_with fail
        go_roundw
        case rel => exact ⟨k + 1, K, by omega, by go_num, HFN.out, H7.out⟩
        case measure => simp [intOf]; omega
      · have t2 : (act == 2) = false := by rw [beq_eq_false_iff_ne]; exact a2
        have h7 := HS.out.tail
        clear a0 a1 a2
        go_wp2_with fail
        clear HS e0 e1 e2
        have H7 := Lib.hid h7
        have j1 : (nextN L != nextN L) = false := by simp
        have j2 : (nextB L != nextB L) = false := by simp
        have j3 : (((L.length : Nat) : Int) != ((L.length : Nat) : Int)) = false := by simp
        clear h7
        go_wp2_with fail
        refine (wnext_any H7.out (by have := HF.out.len; omega)).mono ?_
        rintro e v1 ⟨rfl, rfl⟩
        go_wp2_with fail
        refine (rnext_any H7.out.r2 (by have := HF.out.len; omega)).mono ?_
        rintro e v2 ⟨rfl, rfl⟩
        go_wp2_with fail
        refine (wlen_any H7.out).mono ?_
        rintro e v3 ⟨rfl, rfl⟩
        go_wp2_with fail
        refine (rlen_any H7.out.r2).mono ?_
        rintro e v4 ⟨rfl, rfl⟩
        go_wp2_with fail
        go_roundw
        case rel => exact ⟨k + 1, L, by omega, by go_num, HF.out, H7.out⟩
        case measure => simp [intOf]; omega
    · have HA := Lib.hid (fun (w1 : World) (G : List HP) (h : Sat w w1 (WheelC g 48 50 L :: G)) => wdue_any 1073741824 h (by have := hF.len; omega))
      have HB := Lib.hid (fun (w1 : World) (G : List HP) (h : Sat w w1 (WheelC r 58 61 L :: G)) => rdue_any 1073741824 h (by have := hF.len; omega))
      have hqi := ids_nums L
      have hql : (L.map (·.1)).length = L.length := List.length_map _
      obtain ⟨Q, hQ⟩ : ∃ Q, L.map (·.1) = Q := ⟨_, rfl⟩
      rw [due_all hF, List.take_length, List.drop_length, hqi, ← hql, hQ] at HA
      rw [due_all hF, List.take_length, List.drop_length, hqi, ← hql, hQ] at HB
      have hdl := hF.len
      rw [← hql, hQ] at hdl
      clear hqi hql hQ
      go_wp2_with fail
      refine (HA.out _ _ hT).mono ?_
      rintro e w5 ⟨A1, c1, rfl, h5⟩
      go_wp2_with fail
      refine (HB.out _ _ h5.r3).mono ?_
      rintro e w6 ⟨A2, c2, rfl, h6⟩
      have HSM := Lib.hid (same_yes h6.r3 (by omega))
      clear h5
      go_wp2_with fail
      refine HSM.out.mono ?_
      rintro e w7 ⟨rfl, h8⟩
      clear HSM h6
      go_wp2_with fail
      refine (wlen_any h8.r4).mono ?_
      rintro e w8 ⟨rfl, rfl⟩
      go_wp2_with fail
      go_ret
      exact ⟨rfl, h8.old (by simp)⟩
end Go.Proofs.Ytnjhnchjlecdoaa
