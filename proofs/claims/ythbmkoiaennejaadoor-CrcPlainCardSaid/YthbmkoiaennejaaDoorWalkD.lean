/- The walk of the law CrcPlain. -/
import Derived.Test.YthbmkoiaennejaaDoorWalkC
import Derived.WalkLawsBesides
import Derived.Laws.MakeOwn
import Derived.BigRegion
import Derived.Deep.RegionWith
namespace Go.Proofs.YthbmkoiaennejaaDoor
open Go.RowKit Go.ChangeShapes Go.WideShapes Go.ChangeAt
theorem info5 : (Tryd.prog.info? 5).map (fun i => (i.zero, i.size, i.bytes)) = some (some (.int .u8 0), 1, 1) := by kernel_rfl
def zeros8 (n : Nat) : Array Value := madeCells (Value.cells (.int .u8 0)) (n * 1)
theorem make8 (W : World) (n : Nat) (h : n ≤ 140737488351232) : (Instr.makeSlice 29 (.int .i64 (n : Int)) (.int .i64 (n : Int))).run Tryd.prog W = .ok (.slice (some ⟨W.heap.size, 0, none⟩) n n) (W.alloc (.cells (zeros8 n) 5)) := by
  obtain ⟨i0, hi, hz0, hz1, hz2⟩ := info_parts info5
  have := run_make (P := Tryd.prog) W 29 5 i0 (.int .u8 0) Tryd.underlying29 hi hz0 .i64 .i64 n n (by omega) (by omega) (by rw [hz2]; omega) (by omega)
  rw [hz1] at this
  exact this
theorem Row8.make (W : World) (n : Nat) : Row8 (W.alloc (.cells (zeros8 n) 5)) W.heap.size (List.replicate n 0) := by
  intro i hi
  rw [List.length_replicate] at hi
  constructor
  · simp [World.cell?, World.alloc, -World.alloc_eq, zeros8, madeCells, Value.cells, hi, List.getD, Nat.mod_one]
  · simp [World.frozen?, World.alloc, -World.alloc_eq]
theorem getD_bytes (a : ByteArray) (k : Nat) (h : k < a.size) : (bytesOf a).getD k 0 = a[k].toNat := by
  unfold bytesOf
  simp [List.getD, h]
  rfl
theorem bytes_extract (a : ByteArray) (k : Nat) : bytesOf (a.extract 0 k) = (bytesOf a).take k := by
  unfold bytesOf
  rw [← List.map_take]
  simp
theorem below_drewN {n : Nat} {w0 w : World} (h : Below n w0 w) (m : Nat) : Below n w0 (w.drewN m) := ⟨h.os, h.tape, h.output, h.size, h.block⟩
theorem Table.drewN {w : World} (h : Table w) (m : Nat) : Table (w.drewN m) := fun i hi => h i hi
set_option maxHeartbeats 400000 in
theorem crcPlain_walk (a0 a1 a2 : ByteArray) (w : World) (hT : Table w) (w0 : a0.size ≤ 140737488351232) (w1 : a1.size ≤ 140737488351232) (w2 : a2.size ≤ 140737488351232) :
    Calls Tryd.prog 7 #[.string a0, .string a1, .string a2] w fun e w' => e = .returned (.bool true) ∧ Below w.heap.size w w' := by
  have HT := Lib.hid hT
  clear hT
  have hmk := make8
  have hc : (¬ a1.size < a0.size ∧ a0.size ≤ a2.size) ∨ (a1.size < a0.size ∧ a1.size ≤ a2.size) ∨ (a2.size < a0.size ∧ a2.size < a1.size ∧ a1.size < a0.size) ∨ (a2.size < a0.size ∧ a2.size < a1.size ∧ ¬ a1.size < a0.size) := by omega
  rcases hc with ⟨h1, h2⟩ | ⟨h1, h2⟩ | ⟨h1, h2, h3⟩ | ⟨h1, h2, h3⟩
  all_goals
    go_enter Tryd.func7, Tryd.ntmps7
    go_wp2_with fail
    clear hmk
    obtain ⟨n, hn, hn0, hn1, hn2⟩ : ∃ n, (n = a0.size ∨ n = a1.size ∨ n = a2.size) ∧ n ≤ a0.size ∧ n ≤ a1.size ∧ n ≤ a2.size := by
      first
      | exact ⟨a0.size, by omega, by omega, by omega, by omega⟩
      | exact ⟨a1.size, by omega, by omega, by omega, by omega⟩
      | exact ⟨a2.size, by omega, by omega, by omega, by omega⟩
    replace hn : n = a0.size ∨ n = a1.size ∨ n = a2.size := hn
    first
    | (have hn' : n = a0.size := by omega
       have HN := Lib.hid hn'
       clear hn hn'
       rw [← HN.out])
    | (have hn' : n = a1.size := by omega
       have HN := Lib.hid hn'
       clear hn hn'
       rw [← HN.out])
    | (have hn' : n = a2.size := by omega
       have HN := Lib.hid hn'
       clear hn hn'
       rw [← HN.out])
    obtain ⟨Z, hZ⟩ : ∃ Z, Z = CrcM.xz (CrcM.xz ((bytesOf a0).take n) ((bytesOf a1).take n)) ((bytesOf a2).take n) := ⟨_, rfl⟩
    have HZ := Lib.hid hZ
    clear hZ
    go_loopw [9] (fun i wr => ∃ (k : Nat) (ys : List Nat), k ≤ n ∧ i = .int .i64 k ∧ ys.length = n ∧ ys.take k = Z.take k ∧ Row8 wr w.heap.size ys ∧ Below w.heap.size w wr) (fun i _ => n - (intOf i).toNat)
    case atStart => exact ⟨0, List.replicate n 0, Nat.zero_le _, rfl, List.length_replicate, rfl, Row8.make w n, (Below.refl _ _).alloc (Nat.le_refl _) _⟩
    case round =>
      obtain ⟨k, ys, hk, rfl, hyl, hyz, hrow, hbel⟩ := hrel
      have HYL := Lib.hid hyl
      have HYZ := Lib.hid hyz
      have HROW := Lib.hid hrow
      clear hyl hyz hrow
      by_cases hlt : k < n
      · have b0 : k < a0.size := by omega
        have b1 : k < a1.size := by omega
        have b2 : k < a2.size := by omega
        obtain ⟨hc, hfz⟩ := HROW.out k (by rw [HYL.out]; exact hlt)
        obtain ⟨x, hx⟩ : ∃ x, x = a0[k].toNat ^^^ a1[k].toNat := ⟨_, rfl⟩
        have hxb : x < 256 := by rw [hx]; exact Nat.xor_lt_two_pow (n := 8) a0[k].toNat_lt a1[k].toNat_lt
        have e1 : bits .xor .u8 (a0[k].toNat : Int) (a1[k].toNat : Int) = (x : Int) := by rw [hx]; exact u8_xor_nat _ _ a0[k].toNat_lt a1[k].toNat_lt
        obtain ⟨z, hz⟩ : ∃ z, z = x ^^^ a2[k].toNat := ⟨_, rfl⟩
        have e2 : bits .xor .u8 (x : Int) (a2[k].toNat : Int) = (z : Int) := by rw [hz]; exact u8_xor_nat _ _ hxb a2[k].toNat_lt
        have HS : Hid ((ys.set k z).take (k + 1) = Z.take (k + 1)) := by
          show _ = _
          have l0 : ((bytesOf a0).take n).length = n := by rw [List.length_take, len_bytes]; omega
          have l1 : ((bytesOf a1).take n).length = n := by rw [List.length_take, len_bytes]; omega
          have l2 : ((bytesOf a2).take n).length = n := by rw [List.length_take, len_bytes]; omega
          have l3 := (CrcM.val_xz _ _ (l0.trans l1.symm)).2
          have l4 := (CrcM.val_xz _ _ ((l3.trans l0).trans l2.symm)).2
          rw [CrcM.set_take ys k z (by rw [HYL.out]; exact hlt), HYZ.out, CrcM.take_getD Z k (by rw [HZ.out, l4, l3, l0]; exact hlt), hz, hx, HZ.out,
            CrcM.xz_getD _ _ k ((l3.trans l0).trans l2.symm) (by rw [l3, l0]; exact hlt), CrcM.xz_getD _ _ k (l0.trans l1.symm) (by rw [l0]; exact hlt),
            CrcM.getD_take _ n k hlt, CrcM.getD_take _ n k hlt, CrcM.getD_take _ n k hlt, getD_bytes a0 k b0, getD_bytes a1 k b1, getD_bytes a2 k b2]
        clear hx hz
        go_wp2_with fail
        go_region
        all_goals
          go_wp2_with fail
          go_roundw
          case rel => exact ⟨k + 1, ys.set k z, by omega, by go_num, by rw [List.length_set]; exact HYL, HS, HROW.out.set (by rw [HYL.out]; exact hlt) z, (hbel.setCell (Nat.le_refl _) _).drew⟩
          case measure => simp [intOf]; omega
      · obtain rfl : k = n := by omega
        have hyz : ys = Z := by
          have l0 : ((bytesOf a0).take k).length = k := by rw [List.length_take, len_bytes]; omega
          have l1 : ((bytesOf a1).take k).length = k := by rw [List.length_take, len_bytes]; omega
          have l2 : ((bytesOf a2).take k).length = k := by rw [List.length_take, len_bytes]; omega
          have l3 := (CrcM.val_xz _ _ (l0.trans l1.symm)).2
          have l4 := (CrcM.val_xz _ _ ((l3.trans l0).trans l2.symm)).2
          have h := HYZ.out
          rwa [List.take_of_length_le (by rw [HYL.out]; omega), List.take_of_length_le (by rw [HZ.out, l4, l3, l0]; omega)] at h
        have hyb : ∀ y ∈ ys, y < 256 := by
          rw [hyz, HZ.out]
          exact CrcM.xz_lt _ _ (CrcM.xz_lt _ _ (bytes_lt a0 k) (bytes_lt a1 k)) (bytes_lt a2 k)
        have HE : Hid (bytesOf (strOfNats ys) = Z) := by show _ = _; rw [strOfNats_bytes ys hyb]; exact hyz
        have HYZ2 := Lib.hid hyz
        clear hyz hyb
        obtain ⟨p, hp⟩ : ∃ p, p = CrcM.ext 0 (bytesOf (a0.extract 0 k)) ^^^ CrcM.ext 0 (bytesOf (a1.extract 0 k)) := ⟨_, rfl⟩
        have hpb : p < 4294967296 := by rw [hp]; exact xor_lt (ext_lt 0 _ (by decide)) (ext_lt 0 _ (by decide))
        have e1 : bits .xor .u32 ((CrcM.ext 0 (bytesOf (a0.extract 0 k)) : Nat) : Int) ((CrcM.ext 0 (bytesOf (a1.extract 0 k)) : Nat) : Int) = (p : Int) := by rw [hp]; exact xor_u32 _ _ (ext_lt 0 _ (by decide)) (ext_lt 0 _ (by decide))
        obtain ⟨q, hq⟩ : ∃ q, q = p ^^^ CrcM.ext 0 (bytesOf (a2.extract 0 k)) := ⟨_, rfl⟩
        have e2 : bits .xor .u32 (p : Int) ((CrcM.ext 0 (bytesOf (a2.extract 0 k)) : Nat) : Int) = (q : Int) := by rw [hq]; exact xor_u32 _ _ hpb (ext_lt 0 _ (by decide))
        have e3 : (((CrcM.ext 0 (bytesOf (strOfNats ys)) : Nat) : Int) == (q : Int)) = true := by
          rw [beq_iff_eq, HE.out, hq, hp, HZ.out, bytes_extract, bytes_extract, bytes_extract]
          rw [CrcM.ext_plain _ _ _ (by rw [List.length_take, List.length_take, len_bytes, len_bytes]; omega) (by rw [List.length_take, List.length_take, len_bytes, len_bytes]; omega)]
        clear hp hq
        have hS : (strOfNats ys).size ≤ maxLen := by rw [strOfNats_size, HYL.out]; unfold maxLen; omega
        have hback : ∀ m, (convert 29 9 (.slice (some ⟨w.heap.size, 0, none⟩) k k)).run Tryd.prog (wr.drewN m) = .ok (.string (strOfNats ys)) (wr.drewN m) := fun m =>
          run_convert_bytes_arg (P := Tryd.prog) (wr.drewN m) 29 5 Tryd.underlying29 Tryd.underlying5 w.heap.size 0 k k (ys.map fun (n : Nat) => (n : Int)) (by rw [List.length_map]; exact HYL) (fun i hi => by
            rw [Nat.zero_add]
            refine ((HROW.out i (by rw [HYL.out]; exact hi)).1).trans ?_
            simp [List.getD, HYL.out, hi]) 9 Tryd.underlying9
        have HTQ : Hid (∀ m, Table (wr.drewN m)) := fun m => (HT.out.below HT.out.pos hbel).drewN m
        go_wp2_with fail
        go_quiet ((first | (go_at_call 11; exact Calls.quiet_of_same (live_any _ (HTQ.out _))) | (go_at_call 9; refine Calls.quiet_of_same (sum_any _ _ ?_ (HTQ.out _)); first | exact hS | (rw [ByteArray.size_extract]; unfold maxLen; omega))))
        go_wp2
        go_ret
        exact ⟨rfl, below_drewN hbel nq⟩
end Go.Proofs.YthbmkoiaennejaaDoor
