/- The walk of the law CrcTurned. -/
import Derived.Test.YthbmkoiaennejaaDoorWalkB
import Derived.Lib.ConvBytes
import Derived.Laws.BytesArg
import Derived.Laws.ShiftsVar
import Derived.Laws.Cells
import Derived.Laws.Pointers
namespace Go.Proofs.YthbmkoiaennejaaDoor
open Go.RowKit Go.ChangeShapes Go.WideShapes Go.ChangeAt
theorem Table.pos {w : World} (h : Table w) : 0 < w.heap.size := by
  have h0 := h 0 (by decide)
  rcases Nat.lt_or_ge 0 w.heap.size with h' | h'
  · exact h'
  · simp [World.cell?, Array.getElem?_eq_none h'] at h0
theorem Table.below {w w' : World} {n : Nat} (h : Table w) (hn : 0 < n) (hb : Below n w w') : Table w' := fun i hi => (hb.cell (p := ⟨0, i, none⟩) hn).trans (h i hi)
theorem i64_of {a : Int} (h : (Lit.int .i64 a).wf = true) : -9223372036854775808 ≤ a ∧ a ≤ 9223372036854775807 := by
  have e1 : IntKind.i64.min = -9223372036854775808 := by decide
  have e2 : IntKind.i64.max = 9223372036854775807 := by decide
  simpa [Lit.wf, e1, e2] using h
/-- a row of bytes that may be written -/
def Row8 (w : World) (b : Nat) (xs : List Nat) : Prop := ∀ i, i < xs.length → w.cell? ⟨b, i, none⟩ = some (.int .u8 ((xs.getD i 0 : Nat) : Int)) ∧ w.frozen? ⟨b, i, none⟩ = false
theorem Row8.set {w : World} {b j : Nat} {xs : List Nat} (h : Row8 w b xs) (hj : j < xs.length) (z : Nat) : Row8 (w.setCell ⟨b, j, none⟩ (.int .u8 (z : Int))) b (xs.set j z) := by
  intro i hi
  rw [List.length_set] at hi
  obtain ⟨h1, h2⟩ := h i hi
  refine ⟨?_, by rw [World.frozen?_setCell]; exact h2⟩
  by_cases e : j = i
  · subst e
    rw [World.cell?_setCell_same w _ _ (h j hj).1]
    simp [List.getD, hi]
  · rw [World.cell?_setCell_other w _ _ _ (by intro h; injection h with _ h _; exact e h), h1]
    simp [List.getD, e]
theorem pow_mod (m : Nat) (h : m < 8) : (2 : Int) ^ m % 256 = ((2 ^ m : Nat) : Int) := by
  have : m = 0 ∨ m = 1 ∨ m = 2 ∨ m = 3 ∨ m = 4 ∨ m = 5 ∨ m = 6 ∨ m = 7 := by omega
  rcases this with rfl | rfl | rfl | rfl | rfl | rfl | rfl | rfl <;> rfl
theorem Row8.conv (w : World) (s : ByteArray) : Row8 (Lib.bytesWorld w 5 s) w.heap.size (bytesOf s) := by
  intro i hi
  rw [len_bytes] at hi
  refine ⟨?_, ?_⟩
  · rw [Lib.bytesWorld_cell w 5 s i hi]
    have : (bytesOf s).getD i 0 = (s.data.toList.getD i 0).toNat := by simp [bytesOf, List.getD, hi]
    rw [this]
  · simp [World.frozen?, Lib.bytesWorld_at_new, Lib.bytesCells]
    omega
theorem below_conv {n : Nat} {w0 w : World} (h : Below n w0 w) (hn : n ≤ w.heap.size) (s : ByteArray) : Below n w0 (Lib.bytesWorld w 5 s) :=
  ⟨h.os, h.tape, h.output, by rw [Lib.bytesWorld_size]; have := h.size; omega, fun k hk => (Lib.bytesWorld_at_old w 5 s k (by omega)).trans (h.block k hk)⟩
def strOfNats (ys : List Nat) : ByteArray := strOfNums (ys.map fun (n : Nat) => (n : Int))
theorem strOfNats_size (ys : List Nat) : (strOfNats ys).size = ys.length := by unfold strOfNats; rw [strOfNums_size, List.length_map]
theorem strOfNats_bytes (ys : List Nat) (h : ∀ y ∈ ys, y < 256) : bytesOf (strOfNats ys) = ys := by
  unfold bytesOf strOfNats
  rw [strOfNums_data, List.map_map, List.map_map]
  conv => rhs; rw [← List.map_id ys]
  refine List.map_congr_left fun y hy => ?_
  have := h y hy
  simp [UInt8.toNat_ofNat']
  omega
set_option maxHeartbeats 400000 in
theorem crcTurned_walk (a0 : ByteArray) (a1 a2 : Int) (w : World) (hT : Table w) (w0 : a0.size ≤ 140737488351232) (w1 : (Lit.int .i64 a1).wf = true) (w2 : (Lit.int .u32 a2).wf = true) :
    Calls Tryd.prog 6 #[.string a0, .int .i64 a1, .int .u32 a2] w fun e w' => e = .returned (.bool true) ∧ Below w.heap.size w w' := by
  have HT := Lib.hid hT
  clear hT
  have hs : a0.size ≤ maxLen := by unfold maxLen; omega
  obtain ⟨r, hr, rfl⟩ := u32_of w2
  clear w2 
  obtain ⟨h1a, h1b⟩ := i64_of w1
  clear w1
  have hconv := fun W : World => Lib.run_convert_string_bytes (P := Tryd.prog) W 9 29 5 a0 Tryd.underlying9 Tryd.underlying29 Tryd.underlying5
  by_cases hz : a0.size = 0
  · have hz1 : ((a0.size : Int) == 0) = true := by rw [beq_iff_eq]; omega
    clear hz
    go_enter Tryd.func6, Tryd.ntmps6
    go_wp2_with fail
    refine (live_any _ (HT.below HT.pos (below_conv (Below.refl _ _) (Nat.le_refl _) a0))).mono ?_
    rintro e w' ⟨rfl, rfl⟩
    go_wp2
    go_ret
    exact ⟨rfl, below_conv (Below.refl _ _) (Nat.le_refl _) a0⟩
  · have hz1 : ((a0.size : Int) == 0) = false := by rw [beq_eq_false_iff_ne]; omega
    have hz2 : ¬ (8 * (a0.size : Int) = 0) := by omega
    obtain ⟨f, hf, hfe⟩ : ∃ f : Nat, f < 8 * a0.size ∧ (if a1 < 0 then -(a1 + 1) else a1) % (8 * (a0.size : Int)) = (f : Int) := by
      refine ⟨((if a1 < 0 then -(a1 + 1) else a1) % (8 * (a0.size : Int))).toNat, ?_, ?_⟩
      · have := Int.emod_lt_of_pos (if a1 < 0 then -(a1 + 1) else a1) (b := 8 * (a0.size : Int)) (by omega)
        have := Int.emod_nonneg (if a1 < 0 then -(a1 + 1) else a1) (b := 8 * (a0.size : Int)) (by omega)
        omega
      · have := Int.emod_nonneg (if a1 < 0 then -(a1 + 1) else a1) (b := 8 * (a0.size : Int)) (by omega)
        omega
    clear hz
    have hfn : a1 < 0 → -(a1 + 1).tmod (8 * (a0.size : Int)) = (f : Int) := by
      intro h
      rw [if_pos h] at hfe
      rw [← hfe, ← Int.neg_tmod, Int.tmod_eq_emod_of_nonneg (by omega)]
    have hfp : ¬ a1 < 0 → a1 % (8 * (a0.size : Int)) = (f : Int) := by
      intro h
      rw [if_neg h] at hfe
      exact hfe
    clear hfe
    by_cases hneg : a1 < 0
    all_goals
      first
      | (have hfe := hfn hneg; clear hfn hfp)
      | (have hfe := hfp hneg; clear hfn hfp)
      go_enter Tryd.func6, Tryd.ntmps6
      go_wp2_with fail
      clear hfe hconv hz2 hz1
      go_loopw [9, 10] (fun t i wr => ∃ (k : Nat) (tb : Bool) (ys : List Nat), k ≤ 32 ∧ f + k ≤ 8 * a0.size ∧ i = .int .i64 k ∧ t = .bool tb ∧ (tb = true ↔ r % 2 ^ k ≠ 0) ∧
        ys.length = a0.size ∧ (∀ y ∈ ys, y < 256) ∧ CrcM.val ys = CrcM.val (bytesOf a0) ^^^ (r % 2 ^ k) * 2 ^ f ∧ Row8 wr w.heap.size ys ∧ Below w.heap.size w wr) (fun _ i _ => 32 - (intOf i).toNat)
      case atStart =>
        exact ⟨0, false, bytesOf a0, by omega, by omega, rfl, rfl, by simp [Nat.mod_one], len_bytes a0, fun y hy => bytes_lt a0 a0.size y (by rwa [List.take_of_length_le (by rw [len_bytes]; omega)]), by simp [Nat.mod_one], Row8.conv w a0, below_conv (Below.refl _ _) (Nat.le_refl _) a0⟩
      case round =>
        obtain ⟨k, tb, ys, hk, hfk, rfl, rfl, htb, hyl, hyb, hval, hrow, hbel⟩ := hrel
        have HTB := Lib.hid htb
        have HVAL := Lib.hid hval
        have HYL := Lib.hid hyl
        have HYB := Lib.hid hyb
        have HROW := Lib.hid hrow
        clear htb hval hyl hyb hrow
        by_cases hin : k < 32 ∧ f + k < 8 * a0.size
        · obtain ⟨hk32, hkf⟩ := hin
          by_cases hbit : r / 2 ^ k % 2 = 1
          · have hb1 : (((r : Int) / 2 ^ k).tmod 2 == 1) = true := by
              rw [beq_iff_eq, Int.tmod_eq_emod_of_nonneg (Int.ediv_nonneg (by omega) (Int.le_of_lt (Int.pow_pos (by decide))))]
              exact_mod_cast congrArg (fun n : Nat => (n : Int)) hbit
            have hj : (f + k) / 8 < ys.length := by rw [HYL]; omega
            obtain ⟨hc, hfz⟩ := HROW _ hj
            obtain ⟨y, hy⟩ : ∃ y, y = ys.getD ((f + k) / 8) 0 := ⟨_, rfl⟩
            have hyb : y < 256 := by rw [hy, ← List.getElem_eq_getD (h := hj)]; exact HYB _ (List.getElem_mem _)
            rw [← hy] at hc
            obtain ⟨z, hz⟩ : ∃ z, z = y ^^^ 2 ^ ((f + k) % 8) := ⟨_, rfl⟩
            have hpz : 2 ^ ((f + k) % 8) < 256 := Nat.lt_of_le_of_lt (Nat.pow_le_pow_right (by decide) (show (f + k) % 8 ≤ 7 by omega)) (by decide)
            have hzb : z < 256 := by rw [hz]; exact Nat.xor_lt_two_pow (n := 8) hyb hpz
            have hx1 : bits .xor .u8 (y : Int) (2 ^ ((f + k) % 8) % 256) = (z : Int) := by
              rw [hz, ← u8_xor_nat y _ hyb hpz, pow_mod _ (Nat.mod_lt _ (by decide))]
            have HV2 : Hid (CrcM.val (ys.set ((f + k) / 8) z) = CrcM.val (bytesOf a0) ^^^ r % 2 ^ (k + 1) * 2 ^ f) := by
              show _ = _
              rw [CrcM.turn_step _ r k f hbit, ← HVAL.out, hz, hy, CrcM.val_set' ys _ _ hj, show 8 * ((f + k) / 8) + (f + k) % 8 = f + k by omega]
            have HP := Lib.hid (CrcM.turn_pos r k hbit)
            clear hpz hz
            have HY := Lib.hid hy
            have HJ := Lib.hid hj
            clear hy hj hbit
            go_wp2_with fail
            go_roundw
            case rel =>
              exact ⟨k + 1, true, ys.set ((f + k) / 8) z, by omega, by omega, by go_num, rfl, ⟨fun _ => HP, fun _ => rfl⟩, by rw [List.length_set]; exact HYL, CrcM.set_lt HYB _ hzb, HV2, HROW.out.set HJ z, hbel.setCell (Nat.le_refl _) _⟩
            case measure => simp [intOf]; omega
          · have hb1 : (((r : Int) / 2 ^ k).tmod 2 == 1) = false := by
              rw [beq_eq_false_iff_ne, Int.tmod_eq_emod_of_nonneg (Int.ediv_nonneg (by omega) (Int.le_of_lt (Int.pow_pos (by decide))))]
              intro h
              exact hbit (by exact_mod_cast h)
            have HBIT := Lib.hid hbit
            clear hbit
            go_wp2_with fail
            go_roundw
            case rel => exact ⟨k + 1, tb, ys, by omega, by omega, by go_num, rfl, by rw [HTB.out, CrcM.mod_step0 r k HBIT], HYL, HYB, by rw [HVAL, CrcM.mod_step0 r k HBIT], HROW, hbel⟩
            case measure => simp [intOf]; omega
        · obtain ⟨R, hR⟩ : ∃ R, R = r % 2 ^ k := ⟨_, rfl⟩
          have hRb : R < 4294967296 := by rw [hR]; exact Nat.lt_of_le_of_lt (Nat.mod_le _ _) hr
          have HB := Lib.hid (below_conv (Below.refl _ _) (Nat.le_refl _) a0 : Below w.heap.size w (Lib.bytesWorld w 5 a0))
          have HW : Hid (strOfNums (ys.map fun (n : Nat) => (n : Int)) = strOfNats ys) := rfl
          have hS : (strOfNats ys).size ≤ maxLen := by rw [strOfNats_size]; rw [HYL.out]; exact hs
          have HE : Hid (bytesOf (strOfNats ys) = ys) := strOfNats_bytes ys HYB
          have HD : Hid (CrcM.ext 0 ys = CrcM.ext 0 (bytesOf a0) ↔ R = 0) := by
            show _ ↔ _
            refine CrcM.ext_window 0 ys (bytesOf a0) (by rw [len_bytes]; exact HYL) R f hRb (by rw [HYL.out]; omega) ?_
            rw [HVAL.out, hR, Nat.xor_comm (CrcM.val (bytesOf a0)), CrcM.xor_cancel]
          have hback := run_convert_bytes_arg (P := Tryd.prog) wr 29 5 Tryd.underlying29 Tryd.underlying5 w.heap.size 0 a0.size (grownCap w a0.size 0 5) (ys.map fun (n : Nat) => (n : Int)) (by rw [List.length_map]; exact HYL) (fun i hi => by
            rw [Nat.zero_add, (HROW.out i (by rw [HYL.out]; exact hi)).1]
            simp [List.getD, HYL.out, hi]) 9 Tryd.underlying9
          rw [HW.out] at hback
          have HT2 := Lib.hid (HT.out.below HT.out.pos hbel)
          have hge : k < 32 → ¬ f + k < 8 * a0.size := fun h h2 => hin ⟨h, h2⟩
          have HTR : Hid (tb = true ↔ R ≠ 0) := by show _ ↔ _; rw [hR]; exact HTB
          clear hin hR
          have hE : R = 0 ∨ R ≠ 0 := by omega
          have htb : tb = decide (R ≠ 0) := by
            rcases hE with h | h
            · simp [h]; cases tb
              · rfl
              · exact absurd h (HTR.out.1 rfl)
            · simp [h]; exact HTR.out.2 h
          have hlt0 : CrcM.ext 0 (bytesOf a0) < 4294967296 := ext_lt 0 a0 (by decide)
          have htest : ((((CrcM.ext 0 ys : Nat) : Int) != ((CrcM.ext 0 (bytesOf a0) : Nat) : Int)) == tb) = true := by
            rw [htb, beq_iff_eq]
            by_cases h : R = 0
            · have := HD.out.2 h
              rw [this]; simp [h]
            · have h2 : ¬ CrcM.ext 0 ys = CrcM.ext 0 (bytesOf a0) := fun e => h (HD.out.1 e)
              have h3 : ¬ (((CrcM.ext 0 ys : Nat) : Int) = ((CrcM.ext 0 (bytesOf a0) : Nat) : Int)) := by omega
              simp [h, h3]
          clear htb hE hlt0
          by_cases hk32 : k < 32
          all_goals
            try replace hge := hge hk32
            go_wp2_with fail
            refine (live_any _ HT2).mono ?_
            rintro e w' ⟨rfl, rfl⟩
            go_wp2_with fail
            refine (sum_any (strOfNats ys) _ hS HT2).mono ?_
            rintro e w' ⟨rfl, rfl⟩
            rw [HE]
            go_wp2_with fail
            refine (sum_any a0 _ hs HT2).mono ?_
            rintro e w' ⟨rfl, rfl⟩
            go_wp2
            go_ret
            exact ⟨rfl, hbel⟩
end Go.Proofs.YthbmkoiaennejaaDoor
