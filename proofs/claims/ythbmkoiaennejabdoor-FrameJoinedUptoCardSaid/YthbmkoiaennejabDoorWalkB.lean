/- Words on memory (rows of bytes), and what frame.low, odysseyref05.four and both Wraps compute. -/
import Derived.Test.YthbmkoiaennejabDoorRows
import Derived.Test.YthbmkoiaennejabDoorWalkA
import Derived.Test.YthbmkoiaennejabDoorFrm
import Derived.OpenShut
import Derived.ProofKit
import Derived.LaidMore
import Derived.MakeChecks
import Derived.Stop.Joined
import Derived.Below
import Derived.Lib.ConvBytes
import Derived.Laws.BytesArg
import Derived.Laws.ShiftsVar
import Derived.Laws.Cells
import Derived.Laws.Pointers
import Derived.Laws.MakeOwn
import Derived.BigRegion
import Derived.Deep.RegionWith
import Derived.OwnWalk
namespace Go.Proofs.YthbmkoiaennejabDoor
open Go.RowKit Go.ChangeShapes Go.WideShapes Go.ChangeAt
theorem gTable : Tryd.prog.globalNamed "odyssey/crc.table" = some 0 := by kernel_rfl
theorem tTable : (Tryd.prog.globals[0]?).map (·.type) = some 42 := by kernel_rfl
theorem of_laid {W : World} (h : laidMetH Tryd.prog [("odyssey/crc.table", Rows.laid_odyssey_crc_table)] W) : Table W := by
  rw [MakeChecks.laidMetH_plain _ _ _ (by kernel_rfl)] at h
  obtain ⟨ps, ⟨g0, t0, cs0, f0, p0, q0, hg0, ht0, hv0, hd0, _, _⟩, _, _⟩ := h
  obtain rfl := Option.some.inj (gTable.symm.trans hg0)
  obtain rfl := Option.some.inj (tTable.symm.trans ht0)
  obtain ⟨xs, m1, rfl, hx1, hlen, hn3, hel⟩ := DataW.trod_array Tryd.underlying42 hd0
  have c3 : Tryd.prog.cellsOf 36 = 1 := by kernel_rfl
  intro i hi
  have h0 := hel i hi
  rw [c3, Nat.mul_one] at h0
  have hxi : ∃ x, xs[i]? = some x := ⟨xs[i]'(by omega), by simp [hn3, hi]⟩
  obtain ⟨x, hx⟩ := hxi
  rw [hx] at h0
  obtain ⟨k, e1, e2, _⟩ := DataW.trod_int Tryd.underlying36 h0
  have hcell := World.var?_cell hg0 hv0 i
  rw [hcell]
  have hget : cs0[i]? = some (.int .u32 k) := by
    have := congrArg List.head? e1
    rw [List.head?_take] at this
    simpa using this
  rw [hget]
  simp only [Prod.mk.injEq] at hx1
  have hk : (xs.map (·.1))[i]? = some (.lit (.int .u32 k)) := by rw [List.getElem?_map, hx, e2]; rfl
  have hd : Rows.laid_odyssey_crc_table = (DataW.agg (xs.map (·.1)) : DataW Unit) := hx1.1
  unfold Rows.laid_odyssey_crc_table at hd
  injection hd with hd
  rw [← hd] at hk
  have : i = 0 ∨ i = 1 ∨ i = 2 ∨ i = 3 ∨ i = 4 ∨ i = 5 ∨ i = 6 ∨ i = 7 ∨ i = 8 ∨ i = 9 ∨ i = 10 ∨ i = 11 ∨ i = 12 ∨ i = 13 ∨ i = 14 ∨ i = 15 := by omega
  clear hx hi h0 e1 hel hget hcell
  rcases this with rfl | rfl | rfl | rfl | rfl | rfl | rfl | rfl | rfl | rfl | rfl | rfl | rfl | rfl | rfl | rfl <;> (simp at hk; subst hk; rfl)
theorem u32_of {a : Int} (h : (Lit.int .u32 a).wf = true) : ∃ n : Nat, n < 4294967296 ∧ a = (n : Int) := by
  have e1 : IntKind.u32.min = 0 := by decide
  have e2 : IntKind.u32.max = 4294967295 := by decide
  simp [Lit.wf, e1, e2] at h
  exact ⟨a.toNat, by omega, by omega⟩
theorem i64_of {a : Int} (h : (Lit.int .i64 a).wf = true) : -9223372036854775808 ≤ a ∧ a ≤ 9223372036854775807 := by
  have e1 : IntKind.i64.min = -9223372036854775808 := by decide
  have e2 : IntKind.i64.max = 9223372036854775807 := by decide
  simpa [Lit.wf, e1, e2] using h
theorem bytes_append (a b : ByteArray) : bytesOf (a ++ b) = bytesOf a ++ bytesOf b := by
  unfold bytesOf; rw [← List.map_append]; simp
theorem ext_lt (n : Nat) (s : ByteArray) (hn : n < 4294967296) : CrcM.ext n (bytesOf s) < 4294967296 := by
  unfold CrcM.ext
  refine xor_lt (fold_lt _ _ (xor_lt (by decide) hn) ?_) (by decide)
  have := bytes_lt s s.size
  rwa [List.take_of_length_le (by rw [len_bytes]; omega)] at this
theorem Table.pos {w : World} (h : Table w) : 0 < w.heap.size := by
  have h0 := h 0 (by decide)
  rcases Nat.lt_or_ge 0 w.heap.size with h' | h'
  · exact h'
  · simp [World.cell?, Array.getElem?_eq_none h'] at h0
theorem Table.below {w w' : World} {n : Nat} (h : Table w) (hn : 0 < n) (hb : Below n w w') : Table w' := fun i hi => (hb.cell (p := ⟨0, i, none⟩) hn).trans (h i hi)
theorem Table.drewN {w : World} (h : Table w) (m : Nat) : Table (w.drewN m) := fun i hi => h i hi
theorem below_drewN {n : Nat} {w0 w : World} (h : Below n w0 w) (m : Nat) : Below n w0 (w.drewN m) := ⟨h.os, h.tape, h.output, h.size, h.block⟩
theorem below_step {W w w' : World} (h : Below W.heap.size W w) (h2 : Below w.heap.size w w') : Below W.heap.size W w' := h.trans (h2.mono h.size)
/-- a row of bytes that may be written -/
def Row8 (w : World) (b : Nat) (xs : List Nat) : Prop := ∀ i, i < xs.length → w.cell? ⟨b, i, none⟩ = some (.int .u8 ((xs.getD i 0 : Nat) : Int)) ∧ w.frozen? ⟨b, i, none⟩ = false
theorem Row8.set {w : World} {b j : Nat} {xs : List Nat} (h : Row8 w b xs) (hj : j < xs.length) (z : Nat) : Row8 (w.setCell ⟨b, j, none⟩ (.int .u8 (z : Int))) b (xs.set j z) := by
  intro i hi
  rw [List.length_set] at hi
  obtain ⟨h1, h2⟩ := h i hi
  refine ⟨?_, by rw [World.frozen?_setCell]; exact h2⟩
  by_cases e : j = i
  · subst e
    rw [World.cell?_setCell_same w _ _ (h j hj).1]
    simp [List.getD, hi]
  · rw [World.cell?_setCell_other w _ _ _ (by intro h; injection h with _ h _; exact e h), h1]
    simp [List.getD, e]
theorem Row8.conv (w : World) (s : ByteArray) : Row8 (Lib.bytesWorld w 5 s) w.heap.size (bytesOf s) := by
  intro i hi
  rw [len_bytes] at hi
  refine ⟨?_, ?_⟩
  · rw [Lib.bytesWorld_cell w 5 s i hi]
    have : (bytesOf s).getD i 0 = (s.data.toList.getD i 0).toNat := by simp [bytesOf, List.getD, hi]
    rw [this]
  · simp [World.frozen?, Lib.bytesWorld_at_new, Lib.bytesCells]
    omega
theorem below_conv {n : Nat} {w0 w : World} (h : Below n w0 w) (hn : n ≤ w.heap.size) (s : ByteArray) : Below n w0 (Lib.bytesWorld w 5 s) :=
  ⟨h.os, h.tape, h.output, by rw [Lib.bytesWorld_size]; have := h.size; omega, fun k hk => (Lib.bytesWorld_at_old w 5 s k (by omega)).trans (h.block k hk)⟩
def strOfNats (ys : List Nat) : ByteArray := strOfNums (ys.map fun (n : Nat) => (n : Int))
theorem strOfNats_size (ys : List Nat) : (strOfNats ys).size = ys.length := by unfold strOfNats; rw [strOfNums_size, List.length_map]
theorem strOfNats_bytes (ys : List Nat) (h : ∀ y ∈ ys, y < 256) : bytesOf (strOfNats ys) = ys := by
  unfold bytesOf strOfNats
  rw [strOfNums_data, List.map_map, List.map_map]
  conv => rhs; rw [← List.map_id ys]
  refine List.map_congr_left fun y hy => ?_
  have := h y hy
  simp [UInt8.toNat_ofNat']
  omega
theorem bytes_inj {a b : ByteArray} (h : bytesOf a = bytesOf b) : a = b := by
  obtain ⟨⟨a⟩⟩ := a
  obtain ⟨⟨b⟩⟩ := b
  unfold bytesOf at h
  congr 2
  exact List.map_inj_right (fun x y h => by simpa using congrArg UInt8.ofNat h) |>.1 h
theorem bytes_extract (a : ByteArray) (i j : Nat) : bytesOf (a.extract i j) = ((bytesOf a).drop i).take (j - i) := by
  unfold bytesOf
  simp
theorem back8 {w : World} {b n c : Nat} {xs : List Nat} (h : Row8 w b xs) (hn : xs.length = n) : (convert 32 9 (.slice (some ⟨b, 0, none⟩) n c)).run Tryd.prog w = .ok (.string (strOfNats xs)) w :=
  run_convert_bytes_arg (P := Tryd.prog) w 32 5 Tryd.underlying32 Tryd.underlying5 b 0 n c (xs.map fun (n : Nat) => (n : Int)) (by rw [List.length_map]; exact hn) (fun i hi => by
    rw [Nat.zero_add, (h i (by omega)).1]
    simp [List.getD, hn, hi]) 9 Tryd.underlying9
theorem info5 : (Tryd.prog.info? 5).map (fun i => (i.zero, i.size, i.bytes)) = some (some (.int .u8 0), 1, 1) := by kernel_rfl
def zeros8 (n : Nat) : Array Value := madeCells (Value.cells (.int .u8 0)) (n * 1)
theorem make8 (W : World) (n : Nat) (h : n ≤ 140737488351232) : (Instr.makeSlice 32 (.int .i64 (n : Int)) (.int .i64 (n : Int))).run Tryd.prog W = .ok (.slice (some ⟨W.heap.size, 0, none⟩) n n) (W.alloc (.cells (zeros8 n) 5)) := by
  obtain ⟨i0, hi, hz0, hz1, hz2⟩ := info_parts info5
  have := run_make (P := Tryd.prog) W 32 5 i0 (.int .u8 0) Tryd.underlying32 hi hz0 .i64 .i64 n n (by omega) (by omega) (by rw [hz2]; omega) (by omega)
  rw [hz1] at this
  exact this
theorem Row8.make (W : World) (n : Nat) : Row8 (W.alloc (.cells (zeros8 n) 5)) W.heap.size (List.replicate n 0) := by
  intro i hi
  rw [List.length_replicate] at hi
  constructor
  · simp [World.cell?, World.alloc, -World.alloc_eq, zeros8, madeCells, Value.cells, hi, List.getD, Nat.mod_one]
  · simp [World.frozen?, World.alloc, -World.alloc_eq]
theorem ret_str {a b : ByteArray} (h : a = b) : Ending.returned (.string a) = .returned (.string b) := by rw [h]
set_option maxHeartbeats 400000 in
/-- frame.low -/
theorem low_any (n : Nat) (k : Nat) (w : World) (hk4 : k ≤ 4) :
    Calls Tryd.prog 15 #[.int .u32 (n : Int), .int .i64 (k : Int)] w fun e w' => e = .returned (.string (strOfNats (FrM.low n k))) ∧ Below w.heap.size w w' := by
  have hmk := make8 w k (by omega)
  go_enter Tryd.func15, Tryd.ntmps15
  go_wp2_with fail
  clear hmk
  go_loopw [11] (fun i wr => ∃ (j : Nat) (ys : List Nat), j ≤ k ∧ i = .int .i64 j ∧ ys.length = k ∧ ys.take j = (FrM.low n k).take j ∧ Row8 wr w.heap.size ys ∧ Below w.heap.size w wr) (fun i _ => k - (intOf i).toNat)
  case atStart => exact ⟨0, List.replicate k 0, Nat.zero_le _, rfl, List.length_replicate, rfl, Row8.make w k, (Below.refl _ _).alloc (Nat.le_refl _) _⟩
  case round =>
    obtain ⟨j, ys, hj, rfl, hyl, hyz, hrow, hbel⟩ := hrel
    have HYL := Lib.hid hyl
    have HYZ := Lib.hid hyz
    have HROW := Lib.hid hrow
    clear hyl hyz hrow
    by_cases hlt : j < k
    · obtain ⟨hc, hfz⟩ := HROW.out j (by rw [HYL.out]; exact hlt)
      obtain ⟨z, hz⟩ : ∃ z, z = n / 2 ^ (8 * j) % 256 := ⟨_, rfl⟩
      have e1 : (n : Int) / 2 ^ (8 * j) % 256 = (z : Int) := by rw [hz]; simp
      have HS : Hid ((ys.set j z).take (j + 1) = (FrM.low n k).take (j + 1)) := by
        show _ = _
        rw [CrcM.set_take ys j z (by rw [HYL.out]; exact hlt), HYZ.out, CrcM.take_getD (FrM.low n k) j (by rw [FrM.low_length]; exact hlt), hz]
        simp [FrM.low, List.getD, hlt]
      clear hz
      go_wp2_with fail
      go_roundw
      case rel => exact ⟨j + 1, ys.set j z, by omega, by go_num, by rw [List.length_set]; exact HYL, HS, HROW.out.set (by rw [HYL.out]; exact hlt) z, hbel.setCell (Nat.le_refl _) _⟩
      case measure => simp [intOf]; omega
    · obtain rfl : j = k := by omega
      have hback := back8 HROW.out HYL.out (c := j)
      have HE : Hid (ys = FrM.low n j) := by
        have h := HYZ.out
        rwa [List.take_of_length_le (by rw [HYL.out]; omega), List.take_of_length_le (by rw [FrM.low_length]; omega)] at h
      go_wp2
      go_ret
      exact ⟨ret_str (by rw [HE.out]), hbel⟩
theorem Row8.lit (w : World) (xs : List Nat) (cs : Array Value) (hc : cs = (xs.map fun (n : Nat) => Value.int .u8 (n : Int)).toArray) : Row8 (w.alloc (.cells cs 5)) w.heap.size xs := by
  intro i hi
  subst hc
  constructor
  · simp [World.cell?, World.alloc, -World.alloc_eq, hi, List.getD]
  · simp [World.frozen?, World.alloc, -World.alloc_eq]
theorem low_byte (n : Nat) (hn : n < 4294967296) : (n : Int) / 16777216 = ((n / 16777216 % 256 : Nat) : Int) := by omega
set_option maxHeartbeats 400000 in
/-- odysseyref05.four -/
theorem four_any (n : Nat) (w : World) (hn : n < 4294967296) :
    Calls Tryd.prog 19 #[.int .u32 (n : Int)] w fun e w' => e = .returned (.string (strOfNats (FrM.low n 4))) ∧ Below w.heap.size w w' := by
  have hback := back8 (Row8.lit w (FrM.low n 4) #[.int .u8 ((n : Int) % 256), .int .u8 ((n : Int) / 256 % 256), .int .u8 ((n : Int) / 65536 % 256), .int .u8 ((n : Int) / 16777216)] (by
    rw [FrM.low4, low_byte n hn]; simp)) (n := 4) (c := 4) (FrM.low_length n 4)
  go_enter Tryd.func19, Tryd.ntmps19
  go_wp2
  go_ret
  exact ⟨rfl, (Below.refl _ _).alloc (Nat.le_refl _) _⟩
/-- a frame's bytes, as a string -/
def wrapS (s : ByteArray) : ByteArray := strOfNats (FrM.wrap (bytesOf s))
theorem bytes_wrap (s : ByteArray) : bytesOf (wrapS s) = FrM.wrap (bytesOf s) := strOfNats_bytes _ (by
  intro y hy
  unfold FrM.wrap at hy
  simp only [List.mem_cons, List.mem_append] at hy
  rcases hy with rfl | hy | hy | hy
  · decide
  · exact FrM.low_lt _ _ y hy
  · exact FrM.low_lt _ _ y hy
  · have := bytes_lt s s.size
    rw [List.take_of_length_le (by rw [len_bytes]; omega)] at this
    exact this y hy)
theorem wrap_bytes (s : ByteArray) (c d : List Nat) (hc : c = FrM.low s.size 3) (hd : d = FrM.low (FrM.sumOf (FrM.low s.size 3 ++ bytesOf s)) 4) :
    ({ data := #[167] } ++ strOfNats c ++ strOfNats d ++ s : ByteArray) = wrapS s := by
  subst hc; subst hd
  apply bytes_inj
  rw [bytes_wrap, bytes_append, bytes_append, bytes_append, strOfNats_bytes _ (FrM.low_lt _ _), strOfNats_bytes _ (FrM.low_lt _ _)]
  unfold FrM.wrap
  rw [len_bytes]
  simp [bytesOf]
theorem sum_head (s : ByteArray) (k : Nat) : FrM.sumOf (FrM.low k 3 ++ bytesOf s) < 4294967296 :=
  FrM.sumOf_lt _ (fun x hx => by
    rcases List.mem_append.1 hx with hx | hx
    · exact FrM.low_lt _ _ x hx
    · have := bytes_lt s s.size
      rw [List.take_of_length_le (by rw [len_bytes]; omega)] at this
      exact this x hx)
set_option maxHeartbeats 400000 in
theorem wrap_long (s : ByteArray) (w : World) (h : 200000 < s.size) (hs : s.size ≤ maxLen) :
    Calls Tryd.prog 9 #[.string s] w fun e w' => e = .returned (.tuple #[.string { data := #[] }, .int .i64 2]) ∧ w' = w := by
  unfold maxLen at hs
  go_enter Tryd.func9, Tryd.ntmps9
  go_wp2
  go_ret2
  exact ⟨rfl, rfl⟩
set_option maxHeartbeats 400000 in
theorem wrap_fits (s : ByteArray) (w : World) (h : s.size ≤ 200000) (hT : Table w) :
    Calls Tryd.prog 9 #[.string s] w fun e w' => e = .returned (.tuple #[.string (wrapS s), .int .i64 0]) ∧ Below w.heap.size w w' := by
  have HT := Lib.hid hT
  clear hT
  have hss : s.size ≤ maxLen := by unfold maxLen; omega
  go_enter Tryd.func9, Tryd.ntmps9
  go_wp2_with fail
  refine (low_any s.size 3 _ (by decide)).mono ?_
  rintro e w1 ⟨rfl, hb1⟩
  obtain ⟨x, hx⟩ : ∃ x, x = strOfNats (FrM.low s.size 3) := ⟨_, rfl⟩
  rw [← hx]
  have hx3 : x.size = 3 := by rw [hx, strOfNats_size, FrM.low_length]
  have hxs : x.size ≤ maxLen := by unfold maxLen; omega
  have hx4 : x.size ≤ 3 := by omega
  have HX : Hid (bytesOf x = FrM.low s.size 3) := by show _ = _; rw [hx]; exact strOfNats_bytes _ (FrM.low_lt _ _)
  have HXE := Lib.hid hx
  have HT1 := Lib.hid (HT.out.below HT.out.pos hb1)
  clear hx hx3
  go_wp2_with fail
  refine (sum_any x _ hxs HT1).mono ?_
  rintro e w' ⟨rfl, rfl⟩
  have hp := ext_lt 0 x (by decide)
  have HP : Hid (CrcM.ext (CrcM.ext 0 (bytesOf x)) (bytesOf s) = FrM.sumOf (FrM.low s.size 3 ++ bytesOf s)) := by show _ = _; rw [CrcM.ext_append, HX.out]; rfl
  generalize CrcM.ext 0 (bytesOf x) = p at *
  go_wp2_with fail
  refine (ext_any p s _ hp hss HT1).mono ?_
  rintro e w' ⟨rfl, rfl⟩
  rw [HP.out]
  have hq := sum_head s s.size
  obtain ⟨q, hqe⟩ : ∃ q, q = FrM.sumOf (FrM.low s.size 3 ++ bytesOf s) := ⟨_, rfl⟩
  rw [← hqe] at hq ⊢
  have HQ := Lib.hid hqe
  clear hqe
  go_wp2_with fail
  refine (low_any q 4 _ (by decide)).mono ?_
  rintro e w2 ⟨rfl, hb2⟩
  obtain ⟨y, hy⟩ : ∃ y, y = strOfNats (FrM.low q 4) := ⟨_, rfl⟩
  rw [← hy]
  have HF : Hid (({ data := #[167] } ++ x ++ y ++ s : ByteArray) = wrapS s) := by
    show _ = _
    rw [HXE.out, hy]
    exact wrap_bytes s _ _ rfl (by rw [HQ.out])
  have hy4 : y.size ≤ 4 := by rw [hy, strOfNats_size, FrM.low_length]; omega
  clear hy
  go_wp2
  go_ret2
  exact ⟨by rw [← HF.out]; simp, below_step hb1 hb2⟩
end Go.Proofs.YthbmkoiaennejabDoor
