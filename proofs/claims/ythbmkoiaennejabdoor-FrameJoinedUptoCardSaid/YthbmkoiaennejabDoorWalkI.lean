/- The walk of the law FrameSpoilt. -/
import Derived.Test.YthbmkoiaennejabDoorWalkH
namespace Go.Proofs.YthbmkoiaennejabDoor
open Go.RowKit Go.ChangeShapes Go.WideShapes Go.ChangeAt
theorem u8_of {a : Int} (h : (Lit.int .u8 a).wf = true) : ∃ n : Nat, n < 256 ∧ a = (n : Int) := by
  have e1 : IntKind.u8.min = 0 := by decide
  have e2 : IntKind.u8.max = 255 := by decide
  simp [Lit.wf, e1, e2] at h
  exact ⟨a.toNat, by omega, by omega⟩
theorem wrapS_size (s : ByteArray) : (wrapS s).size = s.size + 8 := by rw [← len_bytes, bytes_wrap, FrM.wrap_length, len_bytes]
set_option maxHeartbeats 800000 in
theorem spoilt_main (a0 : ByteArray) (a1 : Int) (y : Nat) (w : World) (hT : Table w) (h : a0.size ≤ 200000) (w1 : -9223372036854775808 ≤ a1 ∧ a1 ≤ 9223372036854775807) (hy : 0 < y) (hy2 : y < 256) :
    Calls Tryd.prog 7 #[.string a0, .int .i64 a1, .int .u8 (y : Int)] w fun e w' => e = .returned (.bool true) ∧ Below w.heap.size w w' := by
  have HT := Lib.hid hT
  clear hT
  have hle : decide ((a0.size : Int) ≤ 200000) = true := by simp; omega
  obtain ⟨h1a, h1b⟩ := w1
  have hy0 : ((y : Int) == 0) = false := by rw [beq_eq_false_iff_ne]; omega
  obtain ⟨t, ht⟩ : ∃ t, t = wrapS a0 := ⟨_, rfl⟩
  have hts : t.size = a0.size + 8 := by rw [ht, wrapS_size]
  have htb : bytesOf t = FrM.wrap (bytesOf a0) := by rw [ht, bytes_wrap]
  have t1 : ((t.size : Int) != (a0.size : Int) + 8) = false := by rw [bne_eq_false_iff_eq]; omega
  have hp1 : 0 < (t.size : Int) - 3 := by omega
  have hnz : ¬ ((t.size : Int) - 3 = 0) := by omega
  obtain ⟨f, hf, hfe⟩ : ∃ f : Nat, (f : Int) < (t.size : Int) - 3 ∧ (if a1 < 0 then -(a1 + 1) else a1) % ((t.size : Int) - 3) = (f : Int) := by
    refine ⟨((if a1 < 0 then -(a1 + 1) else a1) % ((t.size : Int) - 3)).toNat, ?_, ?_⟩
    · have := Int.emod_lt_of_pos (if a1 < 0 then -(a1 + 1) else a1) hp1
      have := Int.emod_nonneg (if a1 < 0 then -(a1 + 1) else a1) hnz
      omega
    · have := Int.emod_nonneg (if a1 < 0 then -(a1 + 1) else a1) hnz
      omega
  have hfn : a1 < 0 → -(a1 + 1).tmod ((t.size : Int) - 3) = (f : Int) := by
    intro h
    rw [if_pos h] at hfe
    rw [← hfe, ← Int.neg_tmod, Int.tmod_eq_emod_of_nonneg (by omega)]
  have hfp : ¬ a1 < 0 → a1 % ((t.size : Int) - 3) = (f : Int) := by
    intro h
    rw [if_neg h] at hfe
    exact hfe
  obtain ⟨k, hk1, hk2, hkf⟩ : ∃ k : Nat, k < t.size ∧ (k = 0 ∨ 4 ≤ k) ∧ ((f = k ∧ ¬ 0 < (f : Int)) ∨ (0 < f ∧ (f : Int) + 3 = (k : Int))) := by
    by_cases hf0 : f = 0
    · exact ⟨0, by omega, by omega, .inl ⟨hf0, by omega⟩⟩
    · exact ⟨f + 3, by omega, by omega, .inr ⟨by omega, by omega⟩⟩
  have HTS := Lib.hid hts
  have HTB := Lib.hid htb
  have HTE := Lib.hid ht
  have htl : t.size ≤ 200008 := by omega
  clear hfe ht hts htb
  have HSP : Hid (FrM.size ((bytesOf t).set k ((bytesOf t).getD k 0 ^^^ y)) = 0) := by
    show _ = _
    rw [HTB.out]
    exact FrM.size_spoilt (bytesOf a0) (by rw [len_bytes]; exact h) (bytes_lt' a0) k y (by rw [len_bytes]; have := HTS.out; omega) hk2 hy hy2
  have hconv := fun W : World => Lib.run_convert_string_bytes (P := Tryd.prog) W 9 32 5 t Tryd.underlying9 Tryd.underlying32 Tryd.underlying5
  have hkt : k < t.size := hk1
  rcases hkf with ⟨hfk, hf0⟩ | ⟨hf0, hkf⟩
  case' inl => obtain rfl : k = f := hfk.symm
  all_goals
    by_cases hneg : a1 < 0
    all_goals
      first
      | (have hfe := hfn hneg; clear hfn hfp)
      | (have hfe := hfp hneg; clear hfn hfp)
      go_enter Tryd.func7, Tryd.ntmps7
      go_wp2_with fail
      refine (wrap_fits a0 _ h HT).mono ?_
      rintro e w1 ⟨rfl, hb1⟩
      rw [← HTE.out]
      have HB1 := Lib.hid hb1
      clear hb1
      have HROW := Lib.hid (Row8.conv w1 t)
      obtain ⟨hc1, hf1⟩ := HROW.out k (by rw [len_bytes]; exact hkt)
      obtain ⟨x, hx⟩ : ∃ x, x = (bytesOf t).getD k 0 := ⟨_, rfl⟩
      rw [← hx] at hc1
      have hxb : x < 256 := by
        rw [hx, ← List.getElem_eq_getD (h := by rw [len_bytes]; exact hkt)]
        exact bytes_lt' t _ (List.getElem_mem _)
      obtain ⟨z, hz⟩ : ∃ z, z = x ^^^ y := ⟨_, rfl⟩
      have hzb : z < 256 := by rw [hz]; exact Nat.xor_lt_two_pow (n := 8) hxb hy2
      have hxor : bits .xor .u8 (x : Int) (y : Int) = (z : Int) := by rw [hz]; exact u8_xor_nat x y hxb hy2
      have HSP2 : Hid (FrM.size ((bytesOf t).set k z) = 0) := by show _ = _; rw [hz, hx]; exact HSP.out
      clear hx hz
      have hz8 : ¬ ((t.size : Int) - 3 = 0) := hnz
      have hback := back8 (HROW.out.set (j := k) (by rw [len_bytes]; exact hkt) z) (n := t.size) (c := grownCap w1 t.size 0 5) (by rw [List.length_set, len_bytes])
      have hsl : (strOfNats ((bytesOf t).set k z)).size ≤ 35184372088832 := by rw [strOfNats_size, List.length_set, len_bytes]; omega
      have HBS : Hid (bytesOf (strOfNats ((bytesOf t).set k z)) = (bytesOf t).set k z) := strOfNats_bytes _ (CrcM.set_lt (bytes_lt' t) k hzb)
      have HBW : Hid (Below w.heap.size w ((Lib.bytesWorld w1 5 t).setCell ⟨w1.heap.size, k, none⟩ (.int .u8 (z : Int)))) := (below_conv HB1.out HB1.out.size t).setCell (by show _ ≤ w1.heap.size; exact HB1.out.size) _
      have HTW : Hid (Table ((Lib.bytesWorld w1 5 t).setCell ⟨w1.heap.size, k, none⟩ (.int .u8 (z : Int)))) := HT.out.below HT.out.pos HBW.out
      go_wp2_with fail
      refine (scan_any _ _ hsl HTW).mono ?_
      rintro e w2 ⟨v, L, rfl, hL, ho, hb2⟩
      rw [HBS.out, FrM.scanL_none HSP2.out] at hL ⊢
      obtain rfl : L = [] := by simpa using hL
      have HB2 : Hid (Below w.heap.size w w2) := below_step HBW.out hb2
      have HT2 : Hid (Table w2) := HT.out.below HT.out.pos HB2.out
      clear hL hb2 hback
      rcases ho.slice with ⟨rfl, _⟩ | ⟨g, cap, rfl, _⟩
      all_goals
        clear ho
        go_wp2_with fail
        refine (live_any _ HT2).mono ?_
        rintro e w4 ⟨rfl, hb4⟩
        have HB4 : Hid (Below w.heap.size w w4) := below_step HB2.out hb4
        clear hb4
        go_wp2
        go_ret
        exact ⟨rfl, HB4.out⟩
set_option maxHeartbeats 400000 in
theorem frameSpoilt_walk (a0 : ByteArray) (a1 a2 : Int) (w : World) (hT : Table w) (w0 : a0.size ≤ 140737488351232) (w1 : (Lit.int .i64 a1).wf = true) (w2 : (Lit.int .u8 a2).wf = true) :
    Calls Tryd.prog 7 #[.string a0, .int .i64 a1, .int .u8 a2] w fun e w' => e = .returned (.bool true) ∧ Below w.heap.size w w' := by
  obtain ⟨y, hy, rfl⟩ := u8_of w2
  have h64 := i64_of w1
  clear w1 w2
  by_cases h : a0.size ≤ 200000
  · by_cases hy0 : y = 0
    · subst hy0
      have HT := Lib.hid hT
      have hle : decide ((a0.size : Int) ≤ 200000) = true := by simp; omega
      clear hT h64
      go_enter Tryd.func7, Tryd.ntmps7
      go_wp2_with fail
      refine (wrap_fits a0 _ h HT).mono ?_
      rintro e w1 ⟨rfl, hb1⟩
      have HB1 := Lib.hid hb1
      have HT1 : Hid (Table w1) := HT.out.below HT.out.pos hb1
      clear hb1
      go_wp2_with fail
      refine (live_any _ HT1).mono ?_
      rintro e w4 ⟨rfl, hb4⟩
      have HB4 : Hid (Below w.heap.size w w4) := below_step HB1.out hb4
      clear hb4
      go_wp2
      go_ret
      exact ⟨rfl, HB4.out⟩
    · exact spoilt_main a0 a1 y w hT h h64 (by omega) hy
  · have hm : a0.size ≤ maxLen := by unfold maxLen; omega
    have hl : 200000 < a0.size := by omega
    have HT := Lib.hid hT
    have hle : decide ((a0.size : Int) ≤ 200000) = false := by simp; omega
    clear h hT h64
    go_enter Tryd.func7, Tryd.ntmps7
    go_wp2_with fail
    refine (wrap_long a0 _ hl hm).mono ?_
    rintro e w' ⟨rfl, rfl⟩
    go_wp2_with fail
    refine (live_any _ HT).mono ?_
    rintro e w4 ⟨rfl, hb4⟩
    have HB4 := Lib.hid hb4
    clear hb4
    go_wp2
    go_ret
    exact ⟨rfl, HB4.out⟩
end Go.Proofs.YthbmkoiaennejabDoor
