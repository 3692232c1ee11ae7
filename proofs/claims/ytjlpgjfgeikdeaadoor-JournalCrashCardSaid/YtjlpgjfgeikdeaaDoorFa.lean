import Derived.Test.YtjlpgjfgeikdeaaDoorProg
import Derived.Test.YtjlpgjfgeikdeaaDoorMath
import Derived.WalkKit
import Derived.KernelRfl
import Derived.Lib.Hide
import Derived.Deep.QuietTactic
import Derived.BigQuiet
import Derived.Laws.BitsAllLaws
import Derived.Test.YtjlpgjfgeikdeaaDoorRows
import Derived.Test.YtjlpgjfgeikdeaaDoorFrm
import Derived.OpenShut
import Derived.ProofKit
import Derived.LaidMore
import Derived.MakeChecks
import Derived.Stop.Joined
import Derived.Below
import Derived.Lib.ConvBytes
import Derived.Laws.BytesArg
import Derived.Laws.ShiftsVar
import Derived.Laws.Cells
import Derived.Laws.Pointers
import Derived.Laws.MakeOwn
import Derived.BigRegion
import Derived.Deep.RegionWith
import Derived.OwnWalk
import Derived.Deep.DeepCutAuto
import Derived.Deep.LoopGhost
section
/- What crc.Extend computes, for any sum and any bytes, over a world that holds the table. -/
set_option maxRecDepth 100000
namespace Go.Proofs.YtjlpgjfgeikdeaaDoor.Fr
open Go.RowKit
def bytesOf (s : ByteArray) : List Nat := s.data.toList.map (·.toNat)
def Table (w : World) : Prop := ∀ i : Nat, i < 16 → w.cell? ⟨0, i, none⟩ = some (.int .u32 ((CrcM.stn 4 i : Nat) : Int))
theorem max_u32 : IntKind.u32.max = 4294967295 := by decide
theorem xor_u32 (a b : Nat) (ha : a < 4294967296) (hb : b < 4294967296) : bits .xor .u32 (a : Int) (b : Int) = ((a ^^^ b : Nat) : Int) := u32_xor_nat a b ha hb
theorem xor_lt {a b : Nat} (ha : a < 4294967296) (hb : b < 4294967296) : a ^^^ b < 4294967296 := Nat.xor_lt_two_pow (n := 32) ha hb
theorem not_u32 (n : Nat) (hn : n < 4294967296) : bits .xor .u32 IntKind.u32.max (n : Int) = ((CrcM.ones ^^^ n : Nat) : Int) := by
  rw [max_u32]; exact xor_u32 4294967295 n (by decide) hn
theorem and15 (n : Nat) (hn : n < 4294967296) : bits .and .u32 (n : Int) 15 = ((n % 16 : Nat) : Int) := by
  have h := bits_mask .u32 32 (by decide) (fun x h0 h1 => by rw [IntKind.wrap_u32]; omega) 4 (by decide) (n : Int) (by omega) (by omega)
  have e : ((2 : Int) ^ 4 - 1) = 15 := by decide
  rw [e] at h; rw [h]; omega
theorem bytes_take (s : ByteArray) (k : Nat) (h : k < s.size) : (bytesOf s).take (k + 1) = (bytesOf s).take k ++ [s[k].toNat] := by
  unfold bytesOf
  rw [← List.map_take, ← List.map_take, List.take_succ_eq_append_getElem (by simpa using h), List.map_append]; rfl
theorem fold_snoc (a : List Nat) (b n : Nat) : CrcM.fold n (a ++ [b]) = CrcM.stn 8 (CrcM.fold n a ^^^ b) := by
  rw [CrcM.fold_append]; rfl
theorem fold_lt (a : List Nat) : ∀ n, n < 4294967296 → (∀ b ∈ a, b < 256) → CrcM.fold n a < 4294967296 := by
  induction a with
  | nil => intro n h _; exact h
  | cons b a ih =>
    intro n h hb
    rw [CrcM.fold_cons]
    exact ih _ (CrcM.stn_lt 8 (xor_lt h (by have := hb b (by simp); omega))) (fun c hc => hb c (by simp [hc]))
theorem bytes_lt (s : ByteArray) (k : Nat) : ∀ b ∈ (bytesOf s).take k, b < 256 := by
  intro b hb
  have hb := List.mem_of_mem_take hb
  unfold bytesOf at hb
  obtain ⟨c, _, rfl⟩ := List.mem_map.1 hb
  exact c.toNat_lt
theorem len_bytes (s : ByteArray) : (bytesOf s).length = s.size := by unfold bytesOf; simp
set_option maxHeartbeats 400000 in
theorem ext_any (n : Nat) (s : ByteArray) (w : World) (hn : n < 4294967296) (hs : s.size ≤ maxLen) (hT : Table w) :
    Calls Tryd.prog 63 #[.int .u32 (n : Int), .string s] w fun e w' => e = .returned (.int .u32 ((CrcM.ext n (bytesOf s) : Nat) : Int)) ∧ w' = w := by
  unfold maxLen at hs
  have HT := Lib.hid hT
  clear hT
  obtain ⟨n0, hn0⟩ : ∃ n0, n0 = CrcM.ones ^^^ n := ⟨_, rfl⟩
  have hn0b : n0 < 4294967296 := by rw [hn0]; exact xor_lt (by decide) hn
  have hnot : bits .xor .u32 IntKind.u32.max (n : Int) = (n0 : Int) := by rw [hn0]; exact not_u32 n hn
  have HN := Lib.hid hn0
  clear hn0
  go_enter Tryd.func63, Tryd.ntmps63
  go_wp2
  clear hnot
  go_loop [5, 11] (fun v i => ∃ k : Nat, k ≤ s.size ∧ i = .int .i64 k ∧ v = .int .u32 ((CrcM.fold n0 ((bytesOf s).take k) : Nat) : Int)) (fun _ i => s.size - (intOf i).toNat)
  case atStart => exact ⟨0, Nat.zero_le _, rfl, rfl⟩
  case round =>
    obtain ⟨k, hk, rfl, rfl⟩ := hrel
    by_cases hlt : k < s.size
    · have hf := fold_lt _ n0 hn0b (bytes_lt s k)
      have hts := bytes_take s k hlt
      have HS : Hid (CrcM.fold n0 ((bytesOf s).take (k + 1)) = CrcM.stn 8 (CrcM.fold n0 ((bytesOf s).take k) ^^^ s[k].toNat)) := by show _ = _; rw [hts, fold_snoc]
      clear hts
      generalize CrcM.fold n0 ((bytesOf s).take k) = f at *
      have hb := s[k].toNat_lt
      obtain ⟨x, hx⟩ : ∃ x, x = f ^^^ s[k].toNat := ⟨_, rfl⟩
      have hxb : x < 4294967296 := by rw [hx]; exact xor_lt hf (by omega)
      have h1 : bits .xor .u32 (f : Int) (s[k].toNat : Int) = (x : Int) := by rw [hx]; exact xor_u32 _ _ hf (by omega)
      have h2 := and15 x hxb
      obtain ⟨c1, hc1⟩ : ∃ c, c = CrcM.stn 4 (x % 16) := ⟨_, rfl⟩
      have hc1b : c1 < 4294967296 := by rw [hc1]; exact CrcM.stn_lt 4 (by omega)
      have hcell := HT (x % 16) (Nat.mod_lt _ (by decide))
      rw [← hc1] at hcell
      obtain ⟨y, hy⟩ : ∃ y, y = x / 16 ^^^ c1 := ⟨_, rfl⟩
      have hyb : y < 4294967296 := by rw [hy]; exact xor_lt (by omega) hc1b
      have h3 : bits .xor .u32 ((x : Int) / 16) (c1 : Int) = (y : Int) := by rw [hy]; exact xor_u32 (x / 16) c1 (by omega) hc1b
      have h4 := and15 y hyb
      obtain ⟨c2, hc2⟩ : ∃ c, c = CrcM.stn 4 (y % 16) := ⟨_, rfl⟩
      have hc2b : c2 < 4294967296 := by rw [hc2]; exact CrcM.stn_lt 4 (by omega)
      have hcell2 := HT (y % 16) (Nat.mod_lt _ (by decide))
      rw [← hc2] at hcell2
      obtain ⟨z, hz⟩ : ∃ z, z = y / 16 ^^^ c2 := ⟨_, rfl⟩
      have h5 : bits .xor .u32 ((y : Int) / 16) (c2 : Int) = (z : Int) := by rw [hz]; exact xor_u32 (y / 16) c2 (by omega) hc2b
      have HZ : Hid (z = CrcM.fold n0 ((bytesOf s).take (k + 1))) := by
        show _ = _
        rw [HS, ← hx, show (8 : Nat) = 4 + 4 from rfl, CrcM.stn_add, CrcM.four x, ← hc1, ← hy, CrcM.four y, ← hc2, hz]
      clear hx hc1 hy hc2 hz
      go_wp2
      go_round
      case rel => exact ⟨k + 1, by omega, by go_num, by rw [HZ]⟩
      case measure => simp [intOf]; omega
    · have hk' : k = s.size := by omega
      have HE : Hid (((CrcM.fold n0 ((bytesOf s).take k)) ^^^ CrcM.ones) = CrcM.ext n (bytesOf s)) := by
        show _ = _
        rw [List.take_of_length_le (by rw [len_bytes]; omega), HN]; rfl
      have hf := fold_lt _ n0 hn0b (bytes_lt s k)
      generalize CrcM.fold n0 ((bytesOf s).take k) = f at *
      have hnot : bits .xor .u32 IntKind.u32.max (f : Int) = ((f ^^^ CrcM.ones : Nat) : Int) := by rw [Nat.xor_comm]; exact not_u32 f hf
      generalize f ^^^ CrcM.ones = g at *
      clear hk'
      go_wp2
      go_ret
      exact ⟨by rw [HE]; rfl, rfl⟩
theorem sum_any (s : ByteArray) (w : World) (hs : s.size ≤ maxLen) (hT : Table w) :
    Calls Tryd.prog 64 #[.string s] w fun e w' => e = .returned (.int .u32 ((CrcM.ext 0 (bytesOf s) : Nat) : Int)) ∧ w' = w := by
  have HT := Lib.hid hT
  clear hT
  go_enter Tryd.func64, Tryd.ntmps64
  go_wp2_with fail
  refine (ext_any 0 s _ (by decide) hs HT).mono ?_
  rintro e w' ⟨rfl, rfl⟩
  go_wp2
  go_ret
  exact ⟨rfl, rfl⟩
theorem st_def (x : Nat) : CrcM.st x = if x % 2 = 1 then (x / 2) ^^^ 3988292384 else x / 2 := rfl
theorem stn_snoc (j x : Nat) : CrcM.stn (j + 1) x = CrcM.st (CrcM.stn j x) := by rw [CrcM.stn_add]; rfl
set_option maxHeartbeats 400000 in
theorem rext_any (n : Nat) (s : ByteArray) (w : World) (hn : n < 4294967296) (hs : s.size ≤ maxLen) :
    Calls Tryd.prog 71 #[.int .u32 (n : Int), .string s] w fun e w' => e = .returned (.int .u32 ((CrcM.ext n (bytesOf s) : Nat) : Int)) ∧ w' = w := by
  unfold maxLen at hs
  obtain ⟨n0, hn0⟩ : ∃ n0, n0 = CrcM.ones ^^^ n := ⟨_, rfl⟩
  have hn0b : n0 < 4294967296 := by rw [hn0]; exact xor_lt (by decide) hn
  have hnot : bits .xor .u32 IntKind.u32.max (n : Int) = (n0 : Int) := by rw [hn0]; exact not_u32 n hn
  have HN := Lib.hid hn0
  clear hn0
  go_enter Tryd.func71, Tryd.ntmps71
  go_wp2
  clear hnot
  go_loop [5, 6] (fun v i => ∃ k : Nat, k ≤ s.size ∧ i = .int .i64 k ∧ v = .int .u32 ((CrcM.fold n0 ((bytesOf s).take k) : Nat) : Int)) (fun _ i => s.size - (intOf i).toNat)
  case atStart => exact ⟨0, Nat.zero_le _, rfl, rfl⟩
  case round =>
    obtain ⟨k, hk, rfl, rfl⟩ := hrel
    by_cases hlt : k < s.size
    · have hf := fold_lt _ n0 hn0b (bytes_lt s k)
      have hts := bytes_take s k hlt
      have HS : Hid (CrcM.fold n0 ((bytesOf s).take (k + 1)) = CrcM.stn 8 (CrcM.fold n0 ((bytesOf s).take k) ^^^ s[k].toNat)) := by show _ = _; rw [hts, fold_snoc]
      clear hts
      generalize CrcM.fold n0 ((bytesOf s).take k) = f at *
      have hb := s[k].toNat_lt
      obtain ⟨x, hx⟩ : ∃ x, x = f ^^^ s[k].toNat := ⟨_, rfl⟩
      have hxb : x < 4294967296 := by rw [hx]; exact xor_lt hf (by omega)
      have h1 : bits .xor .u32 (f : Int) (s[k].toNat : Int) = (x : Int) := by rw [hx]; exact xor_u32 _ _ hf (by omega)
      have HZ : Hid (CrcM.stn 8 x = CrcM.fold n0 ((bytesOf s).take (k + 1))) := by
        show _ = _
        rw [HS, ← hx]
      clear hx
      go_wp2
      clear h1
      go_loop [5, 7] (fun v i => ∃ j : Nat, j ≤ 8 ∧ i = .int .i64 j ∧ v = .int .u32 ((CrcM.stn j x : Nat) : Int)) (fun _ i => 8 - (intOf i).toNat)
      case atStart => exact ⟨0, Nat.zero_le _, rfl, rfl⟩
      case round =>
        obtain ⟨j, hj, rfl, rfl⟩ := hrel
        by_cases hj8 : j < 8
        · have hyb := CrcM.stn_lt j hxb
          have HJ : Hid (CrcM.stn (j + 1) x = CrcM.st (CrcM.stn j x)) := stn_snoc j x
          generalize CrcM.stn j x = y at *
          by_cases ho : y % 2 = 1
          · have ho1 : ((y : Int) % 2 == 1) = true := by rw [beq_iff_eq]; omega
            have h2 : bits .xor .u32 ((y : Int) / 2) 3988292384 = ((CrcM.st y : Nat) : Int) := by
              rw [st_def, if_pos ho]; exact xor_u32 (y / 2) 3988292384 (by omega) (by decide)
            clear ho
            go_wp2
            go_round
            case rel => exact ⟨j + 1, by omega, by go_num, by rw [HJ]⟩
            case measure => simp [intOf]; omega
          · have ho1 : ((y : Int) % 2 == 1) = false := by rw [beq_eq_false_iff_ne]; omega
            have h2 : (y : Int) / 2 = ((CrcM.st y : Nat) : Int) := by
              rw [st_def, if_neg ho]; omega
            clear ho
            go_wp2
            go_round
            case rel => exact ⟨j + 1, by omega, by go_num, by rw [HJ]⟩
            case measure => simp [intOf]; omega
        · obtain rfl : j = 8 := by omega
          go_wp2
          go_round
          case rel => exact ⟨k + 1, by omega, by go_num, by rw [HZ]⟩
          case measure => simp [intOf]; omega
    · have hk' : k = s.size := by omega
      have HE : Hid (((CrcM.fold n0 ((bytesOf s).take k)) ^^^ CrcM.ones) = CrcM.ext n (bytesOf s)) := by
        show _ = _
        rw [List.take_of_length_le (by rw [len_bytes]; omega), HN]; rfl
      have hf := fold_lt _ n0 hn0b (bytes_lt s k)
      generalize CrcM.fold n0 ((bytesOf s).take k) = f at *
      have hnot : bits .xor .u32 IntKind.u32.max (f : Int) = ((f ^^^ CrcM.ones : Nat) : Int) := by rw [Nat.xor_comm]; exact not_u32 f hf
      generalize f ^^^ CrcM.ones = g at *
      clear hk'
      go_wp2
      go_ret
      exact ⟨by rw [HE]; rfl, rfl⟩
theorem rsum_any (s : ByteArray) (w : World) (hs : s.size ≤ maxLen) :
    Calls Tryd.prog 66 #[.string s] w fun e w' => e = .returned (.int .u32 ((CrcM.ext 0 (bytesOf s) : Nat) : Int)) ∧ w' = w := by
  go_enter Tryd.func66, Tryd.ntmps66
  go_wp2_with fail
  refine (rext_any 0 s _ (by decide) hs).mono ?_
  rintro e w' ⟨rfl, rfl⟩
  go_wp2
  go_ret
  exact ⟨rfl, rfl⟩
end Go.Proofs.YtjlpgjfgeikdeaaDoor.Fr
end

section
/- Words on memory (rows of bytes), and what frame.low, odysseyref05.four and both Wraps compute. -/
set_option maxRecDepth 100000
namespace Go.Proofs.YtjlpgjfgeikdeaaDoor.Fr
open Go.RowKit Go.ChangeShapes Go.WideShapes Go.ChangeAt
theorem gTable : Tryd.prog.globalNamed "odyssey/crc.table" = some 0 := by kernel_rfl
theorem tTable : (Tryd.prog.globals[0]?).map (·.type) = some 121 := by kernel_rfl
theorem of_laid {W : World} (h : laidMetH Tryd.prog [("odyssey/crc.table", Rows.laid_odyssey_crc_table)] W) : Table W := by
  rw [MakeChecks.laidMetH_plain _ _ _ (by kernel_rfl)] at h
  obtain ⟨ps, ⟨g0, t0, cs0, f0, p0, q0, hg0, ht0, hv0, hd0, _, _⟩, _, _⟩ := h
  obtain rfl := Option.some.inj (gTable.symm.trans hg0)
  obtain rfl := Option.some.inj (tTable.symm.trans ht0)
  obtain ⟨xs, m1, rfl, hx1, hlen, hn3, hel⟩ := DataW.trod_array Tryd.underlying121 hd0
  have c3 : Tryd.prog.cellsOf 114 = 1 := by kernel_rfl
  intro i hi
  have h0 := hel i hi
  rw [c3, Nat.mul_one] at h0
  have hxi : ∃ x, xs[i]? = some x := ⟨xs[i]'(by omega), by simp [hn3, hi]⟩
  obtain ⟨x, hx⟩ := hxi
  rw [hx] at h0
  obtain ⟨k, e1, e2, _⟩ := DataW.trod_int Tryd.underlying114 h0
  have hcell := World.var?_cell hg0 hv0 i
  rw [hcell]
  have hget : cs0[i]? = some (.int .u32 k) := by
    have := congrArg List.head? e1
    rw [List.head?_take] at this
    simpa using this
  rw [hget]
  simp only [Prod.mk.injEq] at hx1
  have hk : (xs.map (·.1))[i]? = some (.lit (.int .u32 k)) := by rw [List.getElem?_map, hx, e2]; rfl
  have hd : Rows.laid_odyssey_crc_table = (DataW.agg (xs.map (·.1)) : DataW Unit) := hx1.1
  unfold Rows.laid_odyssey_crc_table at hd
  injection hd with hd
  rw [← hd] at hk
  have : i = 0 ∨ i = 1 ∨ i = 2 ∨ i = 3 ∨ i = 4 ∨ i = 5 ∨ i = 6 ∨ i = 7 ∨ i = 8 ∨ i = 9 ∨ i = 10 ∨ i = 11 ∨ i = 12 ∨ i = 13 ∨ i = 14 ∨ i = 15 := by omega
  clear hx hi h0 e1 hel hget hcell
  rcases this with rfl | rfl | rfl | rfl | rfl | rfl | rfl | rfl | rfl | rfl | rfl | rfl | rfl | rfl | rfl | rfl <;> (simp at hk; subst hk; rfl)
theorem u32_of {a : Int} (h : (Lit.int .u32 a).wf = true) : ∃ n : Nat, n < 4294967296 ∧ a = (n : Int) := by
  have e1 : IntKind.u32.min = 0 := by decide
  have e2 : IntKind.u32.max = 4294967295 := by decide
  simp [Lit.wf, e1, e2] at h
  exact ⟨a.toNat, by omega, by omega⟩
theorem i64_of {a : Int} (h : (Lit.int .i64 a).wf = true) : -9223372036854775808 ≤ a ∧ a ≤ 9223372036854775807 := by
  have e1 : IntKind.i64.min = -9223372036854775808 := by decide
  have e2 : IntKind.i64.max = 9223372036854775807 := by decide
  simpa [Lit.wf, e1, e2] using h
theorem bytes_append (a b : ByteArray) : bytesOf (a ++ b) = bytesOf a ++ bytesOf b := by
  unfold bytesOf; rw [← List.map_append]; simp
theorem ext_lt (n : Nat) (s : ByteArray) (hn : n < 4294967296) : CrcM.ext n (bytesOf s) < 4294967296 := by
  unfold CrcM.ext
  refine xor_lt (fold_lt _ _ (xor_lt (by decide) hn) ?_) (by decide)
  have := bytes_lt s s.size
  rwa [List.take_of_length_le (by rw [len_bytes]; omega)] at this
theorem Table.pos {w : World} (h : Table w) : 0 < w.heap.size := by
  have h0 := h 0 (by decide)
  rcases Nat.lt_or_ge 0 w.heap.size with h' | h'
  · exact h'
  · simp [World.cell?, Array.getElem?_eq_none h'] at h0
theorem Table.below {w w' : World} {n : Nat} (h : Table w) (hn : 0 < n) (hb : Below n w w') : Table w' := fun i hi => (hb.cell (p := ⟨0, i, none⟩) hn).trans (h i hi)
theorem Table.drewN {w : World} (h : Table w) (m : Nat) : Table (w.drewN m) := fun i hi => h i hi
theorem below_drewN {n : Nat} {w0 w : World} (h : Below n w0 w) (m : Nat) : Below n w0 (w.drewN m) := ⟨h.os, h.tape, h.output, h.size, h.block⟩
theorem below_step {W w w' : World} (h : Below W.heap.size W w) (h2 : Below w.heap.size w w') : Below W.heap.size W w' := h.trans (h2.mono h.size)
/-- a row of bytes that may be written -/
def Row8 (w : World) (b : Nat) (xs : List Nat) : Prop := ∀ i, i < xs.length → w.cell? ⟨b, i, none⟩ = some (.int .u8 ((xs.getD i 0 : Nat) : Int)) ∧ w.frozen? ⟨b, i, none⟩ = false
theorem Row8.set {w : World} {b j : Nat} {xs : List Nat} (h : Row8 w b xs) (hj : j < xs.length) (z : Nat) : Row8 (w.setCell ⟨b, j, none⟩ (.int .u8 (z : Int))) b (xs.set j z) := by
  intro i hi
  rw [List.length_set] at hi
  obtain ⟨h1, h2⟩ := h i hi
  refine ⟨?_, by rw [World.frozen?_setCell]; exact h2⟩
  by_cases e : j = i
  · subst e
    rw [World.cell?_setCell_same w _ _ (h j hj).1]
    simp [List.getD, hi]
  · rw [World.cell?_setCell_other w _ _ _ (by intro h; injection h with _ h _; exact e h), h1]
    simp [List.getD, e]
theorem Row8.conv (w : World) (s : ByteArray) : Row8 (Lib.bytesWorld w 5 s) w.heap.size (bytesOf s) := by
  intro i hi
  rw [len_bytes] at hi
  refine ⟨?_, ?_⟩
  · rw [Lib.bytesWorld_cell w 5 s i hi]
    have : (bytesOf s).getD i 0 = (s.data.toList.getD i 0).toNat := by simp [bytesOf, List.getD, hi]
    rw [this]
  · simp [World.frozen?, Lib.bytesWorld_at_new, Lib.bytesCells]
    omega
theorem below_conv {n : Nat} {w0 w : World} (h : Below n w0 w) (hn : n ≤ w.heap.size) (s : ByteArray) : Below n w0 (Lib.bytesWorld w 5 s) :=
  ⟨h.os, h.tape, h.output, by rw [Lib.bytesWorld_size]; have := h.size; omega, fun k hk => (Lib.bytesWorld_at_old w 5 s k (by omega)).trans (h.block k hk)⟩
def strOfNats (ys : List Nat) : ByteArray := strOfNums (ys.map fun (n : Nat) => (n : Int))
theorem strOfNats_size (ys : List Nat) : (strOfNats ys).size = ys.length := by unfold strOfNats; rw [strOfNums_size, List.length_map]
theorem strOfNats_bytes (ys : List Nat) (h : ∀ y ∈ ys, y < 256) : bytesOf (strOfNats ys) = ys := by
  unfold bytesOf strOfNats
  rw [strOfNums_data, List.map_map, List.map_map]
  conv => rhs; rw [← List.map_id ys]
  refine List.map_congr_left fun y hy => ?_
  have := h y hy
  simp [UInt8.toNat_ofNat']
  omega
theorem bytes_inj {a b : ByteArray} (h : bytesOf a = bytesOf b) : a = b := by
  obtain ⟨⟨a⟩⟩ := a
  obtain ⟨⟨b⟩⟩ := b
  unfold bytesOf at h
  congr 2
  exact List.map_inj_right (fun x y h => by simpa using congrArg UInt8.ofNat h) |>.1 h
theorem bytes_extract (a : ByteArray) (i j : Nat) : bytesOf (a.extract i j) = ((bytesOf a).drop i).take (j - i) := by
  unfold bytesOf
  simp
theorem back8 {w : World} {b n c : Nat} {xs : List Nat} (h : Row8 w b xs) (hn : xs.length = n) : (convert 95 9 (.slice (some ⟨b, 0, none⟩) n c)).run Tryd.prog w = .ok (.string (strOfNats xs)) w :=
  run_convert_bytes_arg (P := Tryd.prog) w 95 5 Tryd.underlying95 Tryd.underlying5 b 0 n c (xs.map fun (n : Nat) => (n : Int)) (by rw [List.length_map]; exact hn) (fun i hi => by
    rw [Nat.zero_add, (h i (by omega)).1]
    simp [List.getD, hn, hi]) 9 Tryd.underlying9
theorem info5 : (Tryd.prog.info? 5).map (fun i => (i.zero, i.size, i.bytes)) = some (some (.int .u8 0), 1, 1) := by kernel_rfl
def zeros8 (n : Nat) : Array Value := madeCells (Value.cells (.int .u8 0)) (n * 1)
theorem make8 (W : World) (n : Nat) (h : n ≤ 140737488351232) : (Instr.makeSlice 95 (.int .i64 (n : Int)) (.int .i64 (n : Int))).run Tryd.prog W = .ok (.slice (some ⟨W.heap.size, 0, none⟩) n n) (W.alloc (.cells (zeros8 n) 5)) := by
  obtain ⟨i0, hi, hz0, hz1, hz2⟩ := info_parts info5
  have := run_make (P := Tryd.prog) W 95 5 i0 (.int .u8 0) Tryd.underlying95 hi hz0 .i64 .i64 n n (by omega) (by omega) (by rw [hz2]; omega) (by omega)
  rw [hz1] at this
  exact this
theorem Row8.make (W : World) (n : Nat) : Row8 (W.alloc (.cells (zeros8 n) 5)) W.heap.size (List.replicate n 0) := by
  intro i hi
  rw [List.length_replicate] at hi
  constructor
  · simp [World.cell?, World.alloc, -World.alloc_eq, zeros8, madeCells, Value.cells, hi, List.getD, Nat.mod_one]
  · simp [World.frozen?, World.alloc, -World.alloc_eq]
theorem ret_str {a b : ByteArray} (h : a = b) : Ending.returned (.string a) = .returned (.string b) := by rw [h]
set_option maxHeartbeats 400000 in
/-- frame.low -/
theorem low_any (n : Nat) (k : Nat) (w : World) (hk4 : k ≤ 4) :
    Calls Tryd.prog 62 #[.int .u32 (n : Int), .int .i64 (k : Int)] w fun e w' => e = .returned (.string (strOfNats (FrM.low n k))) ∧ Below w.heap.size w w' := by
  have hmk := make8 w k (by omega)
  go_enter Tryd.func62, Tryd.ntmps62
  go_wp2_with fail
  clear hmk
  go_loopw [11] (fun i wr => ∃ (j : Nat) (ys : List Nat), j ≤ k ∧ i = .int .i64 j ∧ ys.length = k ∧ ys.take j = (FrM.low n k).take j ∧ Row8 wr w.heap.size ys ∧ Below w.heap.size w wr) (fun i _ => k - (intOf i).toNat)
  case atStart => exact ⟨0, List.replicate k 0, Nat.zero_le _, rfl, List.length_replicate, rfl, Row8.make w k, (Below.refl _ _).alloc (Nat.le_refl _) _⟩
  case round =>
    obtain ⟨j, ys, hj, rfl, hyl, hyz, hrow, hbel⟩ := hrel
    have HYL := Lib.hid hyl
    have HYZ := Lib.hid hyz
    have HROW := Lib.hid hrow
    clear hyl hyz hrow
    by_cases hlt : j < k
    · obtain ⟨hc, hfz⟩ := HROW.out j (by rw [HYL.out]; exact hlt)
      obtain ⟨z, hz⟩ : ∃ z, z = n / 2 ^ (8 * j) % 256 := ⟨_, rfl⟩
      have e1 : (n : Int) / 2 ^ (8 * j) % 256 = (z : Int) := by rw [hz]; simp
      have HS : Hid ((ys.set j z).take (j + 1) = (FrM.low n k).take (j + 1)) := by
        show _ = _
        rw [CrcM.set_take ys j z (by rw [HYL.out]; exact hlt), HYZ.out, CrcM.take_getD (FrM.low n k) j (by rw [FrM.low_length]; exact hlt), hz]
        simp [FrM.low, List.getD, hlt]
      clear hz
      go_wp2_with fail
      go_roundw
      case rel => exact ⟨j + 1, ys.set j z, by omega, by go_num, by rw [List.length_set]; exact HYL, HS, HROW.out.set (by rw [HYL.out]; exact hlt) z, hbel.setCell (Nat.le_refl _) _⟩
      case measure => simp [intOf]; omega
    · obtain rfl : j = k := by omega
      have hback := back8 HROW.out HYL.out (c := j)
      have HE : Hid (ys = FrM.low n j) := by
        have h := HYZ.out
        rwa [List.take_of_length_le (by rw [HYL.out]; omega), List.take_of_length_le (by rw [FrM.low_length]; omega)] at h
      go_wp2
      go_ret
      exact ⟨ret_str (by rw [HE.out]), hbel⟩
theorem Row8.lit (w : World) (xs : List Nat) (cs : Array Value) (hc : cs = (xs.map fun (n : Nat) => Value.int .u8 (n : Int)).toArray) : Row8 (w.alloc (.cells cs 5)) w.heap.size xs := by
  intro i hi
  subst hc
  constructor
  · simp [World.cell?, World.alloc, -World.alloc_eq, hi, List.getD]
  · simp [World.frozen?, World.alloc, -World.alloc_eq]
theorem low_byte (n : Nat) (hn : n < 4294967296) : (n : Int) / 16777216 = ((n / 16777216 % 256 : Nat) : Int) := by omega
set_option maxHeartbeats 400000 in
/-- odysseyref05.four -/
theorem four_any (n : Nat) (w : World) (hn : n < 4294967296) :
    Calls Tryd.prog 67 #[.int .u32 (n : Int)] w fun e w' => e = .returned (.string (strOfNats (FrM.low n 4))) ∧ Below w.heap.size w w' := by
  have hback := back8 (Row8.lit w (FrM.low n 4) #[.int .u8 ((n : Int) % 256), .int .u8 ((n : Int) / 256 % 256), .int .u8 ((n : Int) / 65536 % 256), .int .u8 ((n : Int) / 16777216)] (by
    rw [FrM.low4, low_byte n hn]; simp)) (n := 4) (c := 4) (FrM.low_length n 4)
  go_enter Tryd.func67, Tryd.ntmps67
  go_wp2
  go_ret
  exact ⟨rfl, (Below.refl _ _).alloc (Nat.le_refl _) _⟩
/-- a frame's bytes, as a string -/
def wrapS (s : ByteArray) : ByteArray := strOfNats (FrM.wrap (bytesOf s))
theorem bytes_wrap (s : ByteArray) : bytesOf (wrapS s) = FrM.wrap (bytesOf s) := strOfNats_bytes _ (by
  intro y hy
  unfold FrM.wrap at hy
  simp only [List.mem_cons, List.mem_append] at hy
  rcases hy with rfl | hy | hy | hy
  · decide
  · exact FrM.low_lt _ _ y hy
  · exact FrM.low_lt _ _ y hy
  · have := bytes_lt s s.size
    rw [List.take_of_length_le (by rw [len_bytes]; omega)] at this
    exact this y hy)
theorem wrap_bytes (s : ByteArray) (c d : List Nat) (hc : c = FrM.low s.size 3) (hd : d = FrM.low (FrM.sumOf (FrM.low s.size 3 ++ bytesOf s)) 4) :
    ({ data := #[167] } ++ strOfNats c ++ strOfNats d ++ s : ByteArray) = wrapS s := by
  subst hc; subst hd
  apply bytes_inj
  rw [bytes_wrap, bytes_append, bytes_append, bytes_append, strOfNats_bytes _ (FrM.low_lt _ _), strOfNats_bytes _ (FrM.low_lt _ _)]
  unfold FrM.wrap
  rw [len_bytes]
  simp [bytesOf]
theorem sum_head (s : ByteArray) (k : Nat) : FrM.sumOf (FrM.low k 3 ++ bytesOf s) < 4294967296 :=
  FrM.sumOf_lt _ (fun x hx => by
    rcases List.mem_append.1 hx with hx | hx
    · exact FrM.low_lt _ _ x hx
    · have := bytes_lt s s.size
      rw [List.take_of_length_le (by rw [len_bytes]; omega)] at this
      exact this x hx)
set_option maxHeartbeats 400000 in
theorem wrap_long (s : ByteArray) (w : World) (h : 200000 < s.size) (hs : s.size ≤ maxLen) :
    Calls Tryd.prog 54 #[.string s] w fun e w' => e = .returned (.tuple #[.string { data := #[] }, .int .i64 2]) ∧ w' = w := by
  unfold maxLen at hs
  go_enter Tryd.func54, Tryd.ntmps54
  go_wp2
  go_ret2
  exact ⟨rfl, rfl⟩
set_option maxHeartbeats 400000 in
theorem wrap_fits (s : ByteArray) (w : World) (h : s.size ≤ 200000) (hT : Table w) :
    Calls Tryd.prog 54 #[.string s] w fun e w' => e = .returned (.tuple #[.string (wrapS s), .int .i64 0]) ∧ Below w.heap.size w w' := by
  have HT := Lib.hid hT
  clear hT
  have hss : s.size ≤ maxLen := by unfold maxLen; omega
  go_enter Tryd.func54, Tryd.ntmps54
  go_wp2_with fail
  refine (low_any s.size 3 _ (by decide)).mono ?_
  rintro e w1 ⟨rfl, hb1⟩
  obtain ⟨x, hx⟩ : ∃ x, x = strOfNats (FrM.low s.size 3) := ⟨_, rfl⟩
  rw [← hx]
  have hx3 : x.size = 3 := by rw [hx, strOfNats_size, FrM.low_length]
  have hxs : x.size ≤ maxLen := by unfold maxLen; omega
  have hx4 : x.size ≤ 3 := by omega
  have HX : Hid (bytesOf x = FrM.low s.size 3) := by show _ = _; rw [hx]; exact strOfNats_bytes _ (FrM.low_lt _ _)
  have HXE := Lib.hid hx
  have HT1 := Lib.hid (HT.out.below HT.out.pos hb1)
  clear hx hx3
  go_wp2_with fail
  refine (sum_any x _ hxs HT1).mono ?_
  rintro e w' ⟨rfl, rfl⟩
  have hp := ext_lt 0 x (by decide)
  have HP : Hid (CrcM.ext (CrcM.ext 0 (bytesOf x)) (bytesOf s) = FrM.sumOf (FrM.low s.size 3 ++ bytesOf s)) := by show _ = _; rw [CrcM.ext_append, HX.out]; rfl
  generalize CrcM.ext 0 (bytesOf x) = p at *
  go_wp2_with fail
  refine (ext_any p s _ hp hss HT1).mono ?_
  rintro e w' ⟨rfl, rfl⟩
  rw [HP.out]
  have hq := sum_head s s.size
  obtain ⟨q, hqe⟩ : ∃ q, q = FrM.sumOf (FrM.low s.size 3 ++ bytesOf s) := ⟨_, rfl⟩
  rw [← hqe] at hq ⊢
  have HQ := Lib.hid hqe
  clear hqe
  go_wp2_with fail
  refine (low_any q 4 _ (by decide)).mono ?_
  rintro e w2 ⟨rfl, hb2⟩
  obtain ⟨y, hy⟩ : ∃ y, y = strOfNats (FrM.low q 4) := ⟨_, rfl⟩
  rw [← hy]
  have HF : Hid (({ data := #[167] } ++ x ++ y ++ s : ByteArray) = wrapS s) := by
    show _ = _
    rw [HXE.out, hy]
    exact wrap_bytes s _ _ rfl (by rw [HQ.out])
  have hy4 : y.size ≤ 4 := by rw [hy, strOfNats_size, FrM.low_length]; omega
  clear hy
  go_wp2
  go_ret2
  exact ⟨by rw [← HF.out]; simp, below_step hb1 hb2⟩
end Go.Proofs.YtjlpgjfgeikdeaaDoor.Fr
end

section
/- What odysseyref05.Wrap and odysseyref05.Size compute. -/
set_option maxRecDepth 100000
namespace Go.Proofs.YtjlpgjfgeikdeaaDoor.Fr
open Go.RowKit Go.ChangeShapes Go.WideShapes Go.ChangeAt
set_option maxHeartbeats 400000 in
theorem rwrap_long (s : ByteArray) (w : World) (h : 200000 < s.size) (hs : s.size ≤ maxLen) :
    Calls Tryd.prog 57 #[.string s] w fun e w' => e = .returned (.tuple #[.string { data := #[] }, .int .i64 2]) ∧ w' = w := by
  unfold maxLen at hs
  go_enter Tryd.func57, Tryd.ntmps57
  go_wp2
  go_ret2
  exact ⟨rfl, rfl⟩
set_option maxHeartbeats 400000 in
theorem rwrap_fits (s : ByteArray) (w : World) (h : s.size ≤ 200000) :
    Calls Tryd.prog 57 #[.string s] w fun e w' => e = .returned (.tuple #[.string (wrapS s), .int .i64 0]) ∧ Below w.heap.size w w' := by
  obtain ⟨x, hx⟩ : ∃ x, x = strOfNats (FrM.low s.size 3) := ⟨_, rfl⟩
  have hback := back8 (Row8.lit w (FrM.low s.size 3) #[.int .u8 ((s.size : Int) % 256), .int .u8 ((s.size : Int) / 256 % 256), .int .u8 ((s.size : Int) / 65536)] (by
    rw [FrM.low3, show s.size / 65536 % 256 = s.size / 65536 by omega]; simp)) (n := 3) (c := 3) (FrM.low_length _ 3)
  rw [← hx] at hback
  have hx3 : x.size = 3 := by rw [hx, strOfNats_size, FrM.low_length]
  have hxs : (x ++ s).size ≤ maxLen := by rw [ByteArray.size_append]; unfold maxLen; omega
  have hx4 : x.size ≤ 3 := by omega
  have HX : Hid (bytesOf x = FrM.low s.size 3) := by show _ = _; rw [hx]; exact strOfNats_bytes _ (FrM.low_lt _ _)
  have HXE := Lib.hid hx
  clear hx hx3
  go_enter Tryd.func57, Tryd.ntmps57
  go_wp2_with fail
  refine (rsum_any (x ++ s) _ hxs).mono ?_
  rintro e w' ⟨rfl, rfl⟩
  have HP : Hid (CrcM.ext 0 (bytesOf (x ++ s)) = FrM.sumOf (FrM.low s.size 3 ++ bytesOf s)) := by show _ = _; rw [bytes_append, HX.out]; rfl
  rw [HP.out]
  have hq := sum_head s s.size
  obtain ⟨q, hqe⟩ : ∃ q, q = FrM.sumOf (FrM.low s.size 3 ++ bytesOf s) := ⟨_, rfl⟩
  rw [← hqe] at hq ⊢
  have HQ := Lib.hid hqe
  clear hqe
  clear hback
  go_wp2_with fail
  refine (four_any q _ hq).mono ?_
  rintro e w2 ⟨rfl, hb2⟩
  obtain ⟨y, hy⟩ : ∃ y, y = strOfNats (FrM.low q 4) := ⟨_, rfl⟩
  rw [← hy]
  have HF : Hid (({ data := #[167] } ++ x ++ y ++ s : ByteArray) = wrapS s) := by
    show _ = _
    rw [HXE.out, hy]
    exact wrap_bytes s _ _ rfl (by rw [HQ.out])
  have hy4 : y.size ≤ 4 := by rw [hy, strOfNats_size, FrM.low_length]; omega
  clear hy
  go_wp2
  go_ret2
  exact ⟨by rw [← HF.out]; simp, below_step ((Below.refl _ _).alloc (Nat.le_refl _) _) hb2⟩
/-- what is left of a string behind a place -/
def restOf (s : ByteArray) (at_ : Nat) : List Nat := (bytesOf s).drop at_
theorem rest_getD (s : ByteArray) (a i : Nat) (h : a + i < s.size) : (restOf s a).getD i 0 = s[a + i].toNat := by
  unfold restOf bytesOf
  simp [List.getD, h]
  rfl
theorem rest_length (s : ByteArray) (a : Nat) : (restOf s a).length = s.size - a := by unfold restOf; rw [List.length_drop, len_bytes]
theorem bytes_lt' (s : ByteArray) : ∀ x ∈ bytesOf s, x < 256 := by
  have := bytes_lt s s.size
  rwa [List.take_of_length_le (by rw [len_bytes]; omega)] at this
theorem rest_lt (s : ByteArray) (a : Nat) : ∀ x ∈ restOf s a, x < 256 := fun x hx => bytes_lt' s x (List.mem_of_mem_drop hx)
theorem str_eq (a b : ByteArray) : (a.toList == b.toList) = decide (bytesOf a = bytesOf b) := by
  rw [ByteArray.toList_eq, ByteArray.toList_eq, Bool.eq_iff_iff, beq_iff_eq, decide_eq_true_iff]
  constructor
  · intro h; unfold bytesOf; rw [h]
  · intro h; rw [bytes_inj h]
theorem ret_i64 {a b : Int} (h : a = b) : Ending.returned (.int .i64 a) = .returned (.int .i64 b) := by rw [h]
set_option maxHeartbeats 800000 in
theorem size_core (s : ByteArray) (a : Nat) (w : World) (hs : s.size ≤ 140737488351232) (ha : a + 8 ≤ s.size) (b0 : a < s.size) (h167 : s[a].toNat = 167) :
    Calls Tryd.prog 72 #[.string s, .int .i64 (a : Int)] w fun e w' => e = .returned (.int .i64 ((FrM.size (restOf s a) : Nat) : Int)) ∧ Below w.heap.size w w' := by
  have hl := rest_length s a
  obtain ⟨n, hn⟩ : ∃ n, n = FrM.numOf (restOf s a) := ⟨_, rfl⟩
  have t1 : ((s[a].toNat : Int) != 167) = false := by rw [bne_eq_false_iff_eq]; omega
  have hnb : n ≤ 16777215 := by
    rw [hn]; unfold FrM.numOf
    rw [rest_getD s a 1 (by omega), rest_getD s a 2 (by omega), rest_getD s a 3 (by omega)]
    have g1 := s[a + 1].toNat_lt
    have g2 := s[a + 2].toNat_lt
    have g3 := s[a + 3].toNat_lt
    omega
  have HG : Hid ((restOf s a).getD 0 0 = 167) := by show _ = _; rw [rest_getD s a 0 (by omega)]; exact h167
  have HN := Lib.hid hn
  have HL := Lib.hid hl
  clear hn hl h167
  go_enter Tryd.func72, Tryd.ntmps72
  go_wp2_with fail
  clear t1
  go_cut [5] (fun v wx => v = .int .i64 (n : Int) ∧ Below w.heap.size w wx)
  case first =>
    have hn2 : (s[a + 1].toNat : Int) + 256 * (s[a + 2].toNat : Int) + 65536 * (s[a + 3].toNat : Int) = (n : Int) := by
      rw [HN.out]; unfold FrM.numOf
      rw [rest_getD s a 1 (by omega), rest_getD s a 2 (by omega), rest_getD s a 3 (by omega)]; simp
    have g1 := s[a + 1].toNat_lt
    have g2 := s[a + 2].toNat_lt
    have g3 := s[a + 3].toNat_lt
    have b1 : (a : Int) + 1 < s.size := by omega
    have b2 : (a : Int) + 2 < s.size := by omega
    have b3 : (a : Int) + 3 < s.size := by omega
    have q1 : IntKind.i64.wrap ((a : Int) + 1) = (a : Int) + 1 := IntWalk.i64_in _ (by omega)
    have q2 : IntKind.i64.wrap ((a : Int) + 2) = (a : Int) + 2 := IntWalk.i64_in _ (by omega)
    have q3 : IntKind.i64.wrap ((a : Int) + 3) = (a : Int) + 3 := IntWalk.i64_in _ (by omega)
    have q4 : IntKind.i64.wrap (256 * (s[a + 2].toNat : Int)) = 256 * (s[a + 2].toNat : Int) := IntWalk.i64_in _ (by omega)
    have q5 : IntKind.i64.wrap (65536 * (s[a + 3].toNat : Int)) = 65536 * (s[a + 3].toNat : Int) := IntWalk.i64_in _ (by omega)
    have q6 : IntKind.i64.wrap ((s[a + 1].toNat : Int) + 256 * (s[a + 2].toNat : Int)) = (s[a + 1].toNat : Int) + 256 * (s[a + 2].toNat : Int) := IntWalk.i64_in _ (by omega)
    have q7 : IntKind.i64.wrap ((s[a + 1].toNat : Int) + 256 * (s[a + 2].toNat : Int) + 65536 * (s[a + 3].toNat : Int)) = (n : Int) := by rw [IntWalk.i64_in _ (by omega)]; exact hn2
    have p1 : 0 ≤ (a : Int) + 1 := by omega
    have p2 : 0 ≤ (a : Int) + 2 := by omega
    have p3 : 0 ≤ (a : Int) + 3 := by omega
    have r1 : ((a : Int) + 1).toNat = a + 1 := by omega
    have r2 : ((a : Int) + 2).toNat = a + 2 := by omega
    have r3 : ((a : Int) + 3).toNat = a + 3 := by omega
    go_quiet (fail)
    go_wp2_with fail
    go_meet
    exact ⟨rfl, below_drewN (Below.refl _ _) _⟩
  case rest =>
    obtain ⟨rfl, hbel⟩ := hcut
    have hA : 200000 < n ∨ n ≤ 200000 := by omega
    have hB : s.size - a - 8 < n ∨ n ≤ s.size - a - 8 := by omega
    rcases hA with hA | hA
    · have HZ : Hid (FrM.size (restOf s a) = 0) := if_neg (fun h => by
        have h2 := h.2.2.2.1
        rw [← HN.out] at h2; omega)
      clear hB
      go_wp2
      go_ret
      exact ⟨by rw [HZ.out]; rfl, hbel⟩
    · rcases hB with hB | hB
      · have HZ : Hid (FrM.size (restOf s a) = 0) := if_neg (fun h => by
          have h2 := h.2.2.2.2.1
          rw [← HN.out, HL.out] at h2; omega)
        go_wp2
        go_ret
        exact ⟨by rw [HZ.out]; rfl, hbel⟩
      · have hB2 : n + a + 8 ≤ s.size := by omega
        clear hB
        go_wp2_with fail
        obtain ⟨q, hq⟩ : ∃ q, q = FrM.sumOf (((restOf s a).drop 1).take 3 ++ ((restOf s a).drop 8).take n) := ⟨_, rfl⟩
        have hqb : q < 4294967296 := by rw [hq]; exact FrM.sumOf_lt _ (fun x hx => by
          rcases List.mem_append.1 hx with hx | hx
          · exact rest_lt s a x (List.mem_of_mem_drop (List.mem_of_mem_take hx))
          · exact rest_lt s a x (List.mem_of_mem_drop (List.mem_of_mem_take hx)))
        go_cut [6] (fun v wx => v = .int .u32 (q : Int) ∧ Below w.heap.size w wx)
        case first =>
          have q1 : IntKind.i64.wrap ((a : Int) + 1) = (a : Int) + 1 := IntWalk.i64_in _ (by omega)
          have q2 : IntKind.i64.wrap ((a : Int) + 4) = (a : Int) + 4 := IntWalk.i64_in _ (by omega)
          have q3 : IntKind.i64.wrap ((a : Int) + 8) = (a : Int) + 8 := IntWalk.i64_in _ (by omega)
          have q4 : IntKind.i64.wrap ((a : Int) + 8 + (n : Int)) = (a : Int) + 8 + (n : Int) := IntWalk.i64_in _ (by omega)
          have p1 : 0 ≤ (a : Int) + 1 := by omega
          have p4 : 0 ≤ (a : Int) + 4 := by omega
          have p8 : 0 ≤ (a : Int) + 8 := by omega
          have p9 : 0 ≤ (a : Int) + 8 + (n : Int) := by omega
          have r1 : ((a : Int) + 1).toNat = a + 1 := by omega
          have r4 : ((a : Int) + 4).toNat = a + 4 := by omega
          have r8 : ((a : Int) + 8).toNat = a + 8 := by omega
          have r9 : ((a : Int) + 8 + (n : Int)).toNat = a + 8 + n := by omega
          have d1 : (a : Int) + 1 ≤ (a : Int) + 4 := by omega
          have d2 : (a : Int) + 4 ≤ (s.size : Int) := by omega
          have d3 : (a : Int) + 8 ≤ (a : Int) + 8 + (n : Int) := by omega
          have d4 : (a : Int) + 8 + (n : Int) ≤ (s.size : Int) := by omega
          have HQ : Hid (CrcM.ext 0 (bytesOf (s.extract (a + 1) (a + 4) ++ s.extract (a + 8) (a + 8 + n))) = q) := by
            show _ = _
            rw [hq, bytes_append, bytes_extract, bytes_extract, show a + 4 - (a + 1) = 3 by omega, show a + 8 + n - (a + 8) = n by omega]
            unfold restOf FrM.sumOf
            rw [List.drop_drop, List.drop_drop]
          have hsz : (s.extract (a + 1) (a + 4) ++ s.extract (a + 8) (a + 8 + n)).size ≤ maxLen := by
            rw [ByteArray.size_append, ByteArray.size_extract, ByteArray.size_extract]; unfold maxLen; omega
          have hcall : ∀ m, Calls Tryd.prog 66 #[.string (s.extract (a + 1) (a + 4) ++ s.extract (a + 8) (a + 8 + n))] (wc.drewN m) fun e w' => e = .returned (.int .u32 (q : Int)) ∧ w' = wc.drewN m := fun m => by
            have h := rsum_any (s.extract (a + 1) (a + 4) ++ s.extract (a + 8) (a + 8 + n)) (wc.drewN m) hsz
            rw [HQ.out] at h
            exact h
          have HC := Lib.hid hcall
          clear hq hqb hcall hsz
          go_quiet ((go_at_call 66; exact Calls.quiet_of_same (HC.out _)))
          go_wp2_with fail
          go_meet
          exact ⟨rfl, below_drewN hbel _⟩
        case rest =>
          obtain ⟨rfl, hbel2⟩ := hcut
          have HQ := Lib.hid hq
          clear hq hbel
          go_wp2_with fail
          have q1 : IntKind.i64.wrap ((a : Int) + 4) = (a : Int) + 4 := IntWalk.i64_in _ (by omega)
          have q3 : IntKind.i64.wrap ((a : Int) + 8) = (a : Int) + 8 := IntWalk.i64_in _ (by omega)
          have p4 : 0 ≤ (a : Int) + 4 := by omega
          have p8 : 0 ≤ (a : Int) + 8 := by omega
          have r4 : ((a : Int) + 4).toNat = a + 4 := by omega
          have r8 : ((a : Int) + 8).toNat = a + 8 := by omega
          have d1 : (a : Int) + 4 ≤ (a : Int) + 8 := by omega
          have d2 : (a : Int) + 8 ≤ (s.size : Int) := by omega
          obtain ⟨tb, htb⟩ : ∃ tb, tb = !((strOfNats (FrM.low q 4)).toList == (s.extract (a + 4) (a + 8)).toList) := ⟨_, rfl⟩
          have HTB : Hid (tb = false ↔ FrM.low q 4 = ((restOf s a).drop 4).take 4) := by
            show _ ↔ _
            rw [htb, Bool.not_eq_false', str_eq, decide_eq_true_iff, strOfNats_bytes _ (FrM.low_lt _ _), bytes_extract, show a + 8 - (a + 4) = 4 by omega]
            unfold restOf
            rw [List.drop_drop]
          go_cut [72] (fun v wx => v = .bool tb ∧ Below w.heap.size w wx)
          case first =>
            go_region_with (go_at_call 67; refine (four_any q _ hqb).mono ?_; rintro e w2 ⟨rfl, hb2⟩)
            all_goals
              go_wp2_with fail
              go_meet
              exact ⟨by rw [htb], below_step hbel2.drew hb2⟩
          case rest =>
            obtain ⟨rfl, hbel3⟩ := hcut
            clear htb
            cases tb with
            | false =>
              have HZ : Hid (FrM.size (restOf s a) = n + 8) := FrM.size_of ⟨by rw [HL.out]; omega, HG.out, HN.out, hA, by rw [HL.out]; omega, by
                have := HTB.out.1 rfl
                rwa [HQ.out] at this⟩
              go_wp2
              go_ret
              exact ⟨ret_i64 (by rw [HZ.out]; simp), hbel3⟩
            | true =>
              have HZ : Hid (FrM.size (restOf s a) = 0) := if_neg (fun h => by
                have h2 := h.2.2.2.2.2
                rw [← HN.out, ← HQ.out] at h2
                exact absurd (HTB.out.2 h2) (by decide))
              go_wp2
              go_ret
              exact ⟨ret_i64 (by rw [HZ.out]; rfl), hbel3⟩
theorem size_any (s : ByteArray) (a : Nat) (w : World) (hs : s.size ≤ 140737488351232) (ha : a ≤ s.size) :
    Calls Tryd.prog 72 #[.string s, .int .i64 (a : Int)] w fun e w' => e = .returned (.int .i64 ((FrM.size (restOf s a) : Nat) : Int)) ∧ Below w.heap.size w w' := by
  have hl := rest_length s a
  by_cases h8 : s.size < a + 8
  · have HZ : Hid (FrM.size (restOf s a) = 0) := if_neg (fun h => by have := h.1; omega)
    clear hl
    go_enter Tryd.func72, Tryd.ntmps72
    go_wp2
    go_ret
    exact ⟨by rw [HZ.out]; rfl, Below.refl _ _⟩
  · have b0 : a < s.size := by omega
    by_cases h167 : s[a].toNat = 167
    · exact size_core s a w hs (by omega) b0 h167
    · have HZ : Hid (FrM.size (restOf s a) = 0) := if_neg (fun h => by
        have h2 := h.2.1
        rw [rest_getD s a 0 (by omega)] at h2
        exact h167 h2)
      have t1 : ((s[a].toNat : Int) != 167) = true := by rw [bne_iff_ne]; omega
      clear hl h167
      go_enter Tryd.func72, Tryd.ntmps72
      go_wp2
      go_ret
      exact ⟨by rw [HZ.out]; rfl, Below.refl _ _⟩
end Go.Proofs.YtjlpgjfgeikdeaaDoor.Fr
end

section
/- What odysseyref05.Scan and frame.Scan compute: the same list in memory of the call's own. -/
set_option maxRecDepth 100000
namespace Go.Proofs.YtjlpgjfgeikdeaaDoor.Fr
open Go.RowKit Go.ChangeShapes Go.WideShapes Go.ChangeAt
theorem info9 : (Tryd.prog.info? 9).map (fun i => (i.zero, i.size, i.bytes)) = some (some (.string ⟨#[]⟩), 1, 16) := by kernel_rfl
/-- a slice of texts in memory of the call's own -/
def OwnS (w : World) (base : Nat) (v : Value) (L : List ByteArray) : Prop := w.ownsRow base 9 1 v L.length (L.map Value.string)
theorem OwnS.nil (w : World) (base : Nat) : OwnS w base (.slice none 0 0) [] := World.ownsRow_nil w base 9 1
theorem OwnS.below {w w' : World} {base : Nat} {v : Value} {L : List ByteArray} (h : OwnS w base v L) (hb : Below w.heap.size w w') : OwnS w' base v L := by
  obtain ⟨h1, h2⟩ := h
  refine ⟨h1, h2.imp id ?_⟩
  rintro ⟨g, cap, cur, e1, e2, e3, e4⟩
  have hg : g < w.heap.size := by
    rcases Nat.lt_or_ge g w.heap.size with h' | h'
    · exact h'
    · simp [Array.getElem?_eq_none h'] at e3
  exact ⟨g, cap, cur, e1, e2, (hb.block g hg).trans e3, e4⟩
theorem OwnS.slice {w : World} {base : Nat} {v : Value} {L : List ByteArray} (h : OwnS w base v L) : (v = .slice none 0 0 ∧ L = []) ∨ ∃ g cap, v = .slice (some ⟨g, 0, none⟩) L.length cap ∧ base ≤ g ∧ g < w.heap.size ∧ L.length ≤ cap ∧ cap ≤ maxLen := by
  obtain ⟨h1, ⟨rfl, h2⟩ | ⟨g, cap, cur, e1, e2, e3, e4, e5, e6⟩⟩ := h
  · exact .inl ⟨rfl, List.eq_nil_of_length_eq_zero h2⟩
  · have hg : g < w.heap.size := by
      rcases Nat.lt_or_ge g w.heap.size with h' | h'
      · exact h'
      · simp [Array.getElem?_eq_none h'] at e3
    exact .inr ⟨g, cap, e1, e2, hg, e4, e5⟩
theorem OwnS.blocks {w : World} {base : Nat} {v : Value} {L : List ByteArray} (h : OwnS w base v L) : ∀ k, v.ownBlock = some k → base ≤ k := by
  intro k hk
  rcases h.slice with ⟨rfl, _⟩ | ⟨g, cap, rfl, hg, _⟩
  · simp [Value.ownBlock] at hk
  · simp [Value.ownBlock] at hk; omega
/-- one text more, behind the others -/
theorem app_str {w : World} {ops : Array Oper} {rest : List Oper} {o : Oper} {a : Act} {Q : Exit → Act → World → Prop} (hgd : o.guard = none) (s x : Operand)
    (ho : o.op = .call { callee := .builtin .append, args := #[s, x], argTypes := #[37, 37] }) {base : Nat} {v : Value} {L : List ByteArray} (y : ByteArray) (hs : a.eval s = v) (hown : OwnS w base v L) (hb : base ≤ w.heap.size)
    (hx : a.eval x = .slice (some ⟨w.heap.size, 0, none⟩) 1 1) (hL : (L.length + 1) * 16 ≤ 140737488355328)
    (h : ∀ v' w', OwnS w' base v' (L ++ [y]) → (w.alloc (.cells #[.string y] 9)).grownBy w' v.ownBlock → wpList Tryd.prog ops Q rest (a.put o.dst v') w') : wpList Tryd.prog ops Q (o :: rest) a (w.alloc (.cells #[.string y] 9)) := by
  obtain ⟨i0, hi, hz0, hz1, hz2⟩ := info_parts info9
  refine wpList_append_own (w.alloc (.cells #[.string y] 9)) hgd s x 37 ho base 9 i0 (.string ⟨#[]⟩) 1 16 Tryd.underlying37 hi hz0 hz1 hz2 rfl (by decide) v L.length (L.map Value.string) hs (World.ownsRow.alloc hown _)
    ⟨w.heap.size, 0, none⟩ 1 1 [.string y] hx rfl ?_ ?_ (by unfold maxLen; omega) hL ?_ ?_
  · intro j u hj
    cases j with
    | zero => simp at hj; subst hj; simp [World.cell?, World.alloc, -World.alloc_eq, Addr.add]
    | succ j => simp at hj
  · intro u hu; simp at hu; subst hu; rfl
  · simp [World.alloc, -World.alloc_eq]; omega
  · intro v' w' h1 h2 _
    refine h v' w' ?_ h2
    unfold OwnS
    rw [List.length_append, List.map_append]
    exact h1
set_option maxHeartbeats 800000 in
theorem rscan_any (s : ByteArray) (w : World) (hs : s.size ≤ 35184372088832) :
    Calls Tryd.prog 69 #[.string s] w fun e w' => ∃ v L, e = .returned (.tuple #[v, .int .i64 (((FrM.scanL (bytesOf s)).2 : Nat) : Int)]) ∧ L.map bytesOf = (FrM.scanL (bytesOf s)).1 ∧ OwnS w' w.heap.size v L ∧ Below w.heap.size w w' := by
  go_enter Tryd.func69, Tryd.ntmps69
  go_wp2_with fail
  go_loopw [4, 5] (fun v at_ wr => ∃ (a : Nat) (L : List ByteArray), a ≤ s.size ∧ at_ = .int .i64 (a : Int) ∧ OwnS wr w.heap.size v L ∧ Below w.heap.size w wr ∧ L.length * 8 ≤ a ∧
    (L.map bytesOf ++ (FrM.scanL (restOf s a)).1, a + (FrM.scanL (restOf s a)).2) = FrM.scanL (bytesOf s)) (fun _ at_ _ => s.size - (intOf at_).toNat)
  case atStart => exact ⟨0, [], Nat.zero_le _, rfl, OwnS.nil _ _, Below.refl _ _, by simp, by simp [restOf]⟩
  case round =>
    obtain ⟨a, L, ha, rfl, hown, hbel, hL8, heq⟩ := hrel
    have HE := Lib.hid heq
    have HO := Lib.hid hown
    clear heq hown
    by_cases hlt : a < s.size
    · go_wp2_with fail
      refine (size_any s a _ (by omega) ha).mono ?_
      rintro e w1 ⟨rfl, hb1⟩
      by_cases hz : FrM.size (restOf s a) = 0
      · have HZ : Hid (FrM.scanL (restOf s a) = ([], 0)) := FrM.scanL_none hz
        rw [hz]
        clear hz
        go_wp2
        go_ret2
        rw [HZ.out] at HE
        refine ⟨u4, L, ?_, ?_, OwnS.below HO hb1, below_step hbel hb1⟩
        · rw [← HE.out]; simp
        · rw [← HE.out]; simp
      · have hz8 := FrM.size_ge hz
        have hzl := FrM.size_le (restOf s a)
        rw [rest_length] at hzl
        have HE2 : Hid (FrM.scanL (restOf s a) = (((restOf s a).drop 8).take (FrM.size (restOf s a) - 8) :: (FrM.scanL (restOf s (a + FrM.size (restOf s a)))).1, FrM.size (restOf s a) + (FrM.scanL (restOf s (a + FrM.size (restOf s a)))).2)) := by
          show _ = _
          have e : (restOf s a).drop (FrM.size (restOf s a)) = restOf s (a + FrM.size (restOf s a)) := by unfold restOf; rw [List.drop_drop]
          rw [FrM.scanL_step hz, e]
        generalize FrM.size (restOf s a) = z at *
        have t1 : ((z : Int) == 0) = false := by rw [beq_eq_false_iff_ne]; omega
        have HO1 : Hid (OwnS w1 w.heap.size u4 L) := OwnS.below HO hb1
        have d1 : (a : Int) + 8 ≤ (a : Int) + (z : Int) := by omega
        have d2 : (a : Int) + (z : Int) ≤ (s.size : Int) := by omega
        have p8 : 0 ≤ (a : Int) + 8 := by omega
        have p9 : 0 ≤ (a : Int) + (z : Int) := by omega
        have r8 : ((a : Int) + 8).toNat = a + 8 := by omega
        have r9 : ((a : Int) + (z : Int)).toNat = a + z := by omega
        have hbs : w.heap.size ≤ w1.heap.size := Nat.le_trans hbel.size hb1.size
        have h16 : (L.length + 1) * 16 ≤ 140737488355328 := by omega
        have HR : Hid (∀ k, u4.ownBlock = some k → w.heap.size ≤ k) := OwnS.blocks HO1.out
        have HB : Hid (Below w.heap.size w w1) := below_step hbel hb1
        go_wp2_with (at_builtin; refine app_str rfl _ _ rfl (s.extract (a + 8) (a + z)) rfl HO1.out hbs rfl h16 ?_; intro v2 w2 ho2 hg2; have HO2 := Lib.hid ho2; have HG := Lib.hid hg2; clear ho2 hg2)
        go_roundw
        case rel =>
          refine ⟨a + z, L ++ [s.extract (a + 8) (a + z)], by omega, by go_num, HO2, (HB.out.alloc (Nat.le_trans hbel.size hb1.size) _).grown HG.out (by simp [World.alloc, -World.alloc_eq]; omega) HR.out, by simp; omega, ?_⟩
          rw [← HE.out, HE2.out, List.map_append, List.append_assoc]
          simp only [List.map_cons, List.map_nil, List.singleton_append, bytes_extract, Nat.add_assoc]
          unfold restOf
          rw [List.drop_drop, show a + z - (a + 8) = z - 8 by omega]
        case measure => simp [intOf]; omega
    · obtain rfl : a = s.size := by omega
      have HZ : Hid (FrM.scanL (restOf s s.size) = ([], 0)) := FrM.scanL_none (by have := FrM.size_le (restOf s s.size); rw [rest_length] at this; omega)
      go_wp2
      go_ret2
      rw [HZ.out] at HE
      refine ⟨u4, L, ?_, ?_, HO, hbel⟩
      · rw [← HE.out]; simp
      · rw [← HE.out]; simp
end Go.Proofs.YtjlpgjfgeikdeaaDoor.Fr
end
