/- The walks of the laws CrcSums, CrcExtends, CrcParts, CrcApart; what the laid table gives. -/
import Derived.Test.YthbmkoiaennejaaDoorRows
import Derived.Test.YthbmkoiaennejaaDoorWalkA
import Derived.OpenShut
import Derived.ProofKit
import Derived.LaidMore
import Derived.MakeChecks
import Derived.Stop.Joined
import Derived.Below
namespace Go.Proofs.YthbmkoiaennejaaDoor
open Go.RowKit Go.ChangeShapes Go.WideShapes Go.ChangeAt
theorem gTable : Tryd.prog.globalNamed "odyssey/crc.table" = some 0 := by kernel_rfl
theorem tTable : (Tryd.prog.globals[0]?).map (·.type) = some 34 := by kernel_rfl
theorem of_laid {W : World} (h : laidMetH Tryd.prog [("odyssey/crc.table", Rows.laid_odyssey_crc_table)] W) : Table W := by
  rw [MakeChecks.laidMetH_plain _ _ _ (by kernel_rfl)] at h
  obtain ⟨ps, ⟨g0, t0, cs0, f0, p0, q0, hg0, ht0, hv0, hd0, _, _⟩, _, _⟩ := h
  obtain rfl := Option.some.inj (gTable.symm.trans hg0)
  obtain rfl := Option.some.inj (tTable.symm.trans ht0)
  obtain ⟨xs, m1, rfl, hx1, hlen, hn3, hel⟩ := DataW.trod_array Tryd.underlying34 hd0
  have c3 : Tryd.prog.cellsOf 22 = 1 := by kernel_rfl
  intro i hi
  have h0 := hel i hi
  rw [c3, Nat.mul_one] at h0
  have hxi : ∃ x, xs[i]? = some x := ⟨xs[i]'(by omega), by simp [hn3, hi]⟩
  obtain ⟨x, hx⟩ := hxi
  rw [hx] at h0
  obtain ⟨k, e1, e2, _⟩ := DataW.trod_int Tryd.underlying22 h0
  have hcell := World.var?_cell hg0 hv0 i
  rw [hcell]
  have hget : cs0[i]? = some (.int .u32 k) := by
    have := congrArg List.head? e1
    rw [List.head?_take] at this
    simpa using this
  rw [hget]
  simp only [Prod.mk.injEq] at hx1
  have hk : (xs.map (·.1))[i]? = some (.lit (.int .u32 k)) := by rw [List.getElem?_map, hx, e2]; rfl
  have hd : Rows.laid_odyssey_crc_table = (DataW.agg (xs.map (·.1)) : DataW Unit) := hx1.1
  unfold Rows.laid_odyssey_crc_table at hd
  injection hd with hd
  rw [← hd] at hk
  have : i = 0 ∨ i = 1 ∨ i = 2 ∨ i = 3 ∨ i = 4 ∨ i = 5 ∨ i = 6 ∨ i = 7 ∨ i = 8 ∨ i = 9 ∨ i = 10 ∨ i = 11 ∨ i = 12 ∨ i = 13 ∨ i = 14 ∨ i = 15 := by omega
  clear hx hi h0 e1 hel hget hcell
  rcases this with rfl | rfl | rfl | rfl | rfl | rfl | rfl | rfl | rfl | rfl | rfl | rfl | rfl | rfl | rfl | rfl <;> (simp at hk; subst hk; rfl)
theorem u32_of {a : Int} (h : (Lit.int .u32 a).wf = true) : ∃ n : Nat, n < 4294967296 ∧ a = (n : Int) := by
  have e1 : IntKind.u32.min = 0 := by decide
  have e2 : IntKind.u32.max = 4294967295 := by decide
  simp [Lit.wf, e1, e2] at h
  exact ⟨a.toNat, by omega, by omega⟩
theorem crcSums_walk (a0 : ByteArray) (w : World) (hT : Table w) (w0 : a0.size ≤ 140737488351232) :
    Calls Tryd.prog 3 #[.string a0] w fun e w' => e = .returned (.bool true) ∧ Below w.heap.size w w' := by
  have HT := Lib.hid hT
  clear hT
  have hs : a0.size ≤ maxLen := by unfold maxLen; omega
  go_enter Tryd.func3, Tryd.ntmps3
  go_wp2_with fail
  refine (sum_any a0 _ hs HT).mono ?_
  rintro e w' ⟨rfl, rfl⟩
  go_wp2_with fail
  refine (sum_any a0 _ hs HT).mono ?_
  rintro e w' ⟨rfl, rfl⟩
  go_wp2_with fail
  refine (rsum_any a0 _ hs).mono ?_
  rintro e w' ⟨rfl, rfl⟩
  generalize CrcM.ext 0 (bytesOf a0) = x
  go_wp2_with fail
  refine (live_any _ HT).mono ?_
  rintro e w' ⟨rfl, rfl⟩
  go_wp2
  go_ret
  exact ⟨rfl, Below.refl _ _⟩
theorem crcExtends_walk (a0 : Int) (a1 : ByteArray) (w : World) (hT : Table w) (w0 : (Lit.int .u32 a0).wf = true) (w1 : a1.size ≤ 140737488351232) :
    Calls Tryd.prog 4 #[.int .u32 a0, .string a1] w fun e w' => e = .returned (.bool true) ∧ Below w.heap.size w w' := by
  have HT := Lib.hid hT
  clear hT
  have hs : a1.size ≤ maxLen := by unfold maxLen; omega
  obtain ⟨n, hn, rfl⟩ := u32_of w0
  clear w0
  go_enter Tryd.func4, Tryd.ntmps4
  go_wp2_with fail
  refine (ext_any n a1 _ hn hs HT).mono ?_
  rintro e w' ⟨rfl, rfl⟩
  go_wp2_with fail
  refine (ext_any n a1 _ hn hs HT).mono ?_
  rintro e w' ⟨rfl, rfl⟩
  go_wp2_with fail
  refine (rext_any n a1 _ hn hs).mono ?_
  rintro e w' ⟨rfl, rfl⟩
  generalize CrcM.ext n (bytesOf a1) = x
  go_wp2_with fail
  refine (live_any _ HT).mono ?_
  rintro e w' ⟨rfl, rfl⟩
  go_wp2
  go_ret
  exact ⟨rfl, Below.refl _ _⟩
theorem crcApart_walk (a0 a1 : Int) (a2 : ByteArray) (w : World) (hT : Table w) (w0 : (Lit.int .u32 a0).wf = true) (w1 : (Lit.int .u32 a1).wf = true) (w2 : a2.size ≤ 140737488351232) :
    Calls Tryd.prog 8 #[.int .u32 a0, .int .u32 a1, .string a2] w fun e w' => e = .returned (.bool true) ∧ Below w.heap.size w w' := by
  have HT := Lib.hid hT
  clear hT
  have hs : a2.size ≤ maxLen := by unfold maxLen; omega
  obtain ⟨n, hn, rfl⟩ := u32_of w0
  obtain ⟨m, hm, rfl⟩ := u32_of w1
  clear w0 w1
  have hx := CrcM.ext_inj (bytesOf a2) hn hm
  have HX := Lib.hid hx
  clear hx
  by_cases hnm : n = m
  · subst hnm
    clear HX
    go_enter Tryd.func8, Tryd.ntmps8
    go_wp2_with fail
    refine (live_any _ HT).mono ?_
    rintro e w' ⟨rfl, rfl⟩
    go_wp2_with fail
    refine (ext_any n a2 _ hn hs HT).mono ?_
    rintro e w' ⟨rfl, rfl⟩
    go_wp2_with fail
    refine (ext_any n a2 _ hn hs HT).mono ?_
    rintro e w' ⟨rfl, rfl⟩
    generalize CrcM.ext n (bytesOf a2) = x
    go_wp2
    go_ret
    exact ⟨rfl, Below.refl _ _⟩
  · have hne : ¬ CrcM.ext n (bytesOf a2) = CrcM.ext m (bytesOf a2) := fun h => hnm (HX.1 h)
    have h1 : ((n : Int) == (m : Int)) = false := by rw [beq_eq_false_iff_ne]; omega
    have h2 : (((CrcM.ext n (bytesOf a2) : Nat) : Int) == ((CrcM.ext m (bytesOf a2) : Nat) : Int)) = false := by rw [beq_eq_false_iff_ne]; omega
    clear hnm hne
    go_enter Tryd.func8, Tryd.ntmps8
    go_wp2_with fail
    refine (live_any _ HT).mono ?_
    rintro e w' ⟨rfl, rfl⟩
    go_wp2_with fail
    refine (ext_any n a2 _ hn hs HT).mono ?_
    rintro e w' ⟨rfl, rfl⟩
    go_wp2_with fail
    refine (ext_any m a2 _ hm hs HT).mono ?_
    rintro e w' ⟨rfl, rfl⟩
    go_wp2
    go_ret
    exact ⟨rfl, Below.refl _ _⟩
theorem bytes_append (a b : ByteArray) : bytesOf (a ++ b) = bytesOf a ++ bytesOf b := by
  unfold bytesOf; rw [← List.map_append]; simp
theorem ext_lt (n : Nat) (s : ByteArray) (hn : n < 4294967296) : CrcM.ext n (bytesOf s) < 4294967296 := by
  unfold CrcM.ext
  refine xor_lt (fold_lt _ _ (xor_lt (by decide) hn) ?_) (by decide)
  have := bytes_lt s s.size
  rwa [List.take_of_length_le (by rw [len_bytes]; omega)] at this
theorem crcParts_walk (a0 : Int) (a1 a2 : ByteArray) (w : World) (hT : Table w) (w0 : (Lit.int .u32 a0).wf = true) (w1 : a1.size ≤ 140737488351232) (w2 : a2.size ≤ 140737488351232) :
    Calls Tryd.prog 5 #[.int .u32 a0, .string a1, .string a2] w fun e w' => e = .returned (.bool true) ∧ Below w.heap.size w w' := by
  have HT := Lib.hid hT
  clear hT
  have hs1 : a1.size ≤ maxLen := by unfold maxLen; omega
  have hs2 : a2.size ≤ maxLen := by unfold maxLen; omega
  have hs3 : (a1 ++ a2).size ≤ maxLen := by rw [ByteArray.size_append]; unfold maxLen; omega
  obtain ⟨n, hn, rfl⟩ := u32_of w0
  clear w0
  have hb1 := ext_lt 0 a1 (by decide)
  have hb2 := ext_lt n a1 hn
  have H1 : Hid (CrcM.ext (CrcM.ext 0 (bytesOf a1)) (bytesOf a2) = CrcM.ext 0 (bytesOf (a1 ++ a2))) := by show _ = _; rw [bytes_append, CrcM.ext_append]
  have H2 : Hid (CrcM.ext (CrcM.ext n (bytesOf a1)) (bytesOf a2) = CrcM.ext n (bytesOf (a1 ++ a2))) := by show _ = _; rw [bytes_append, CrcM.ext_append]
  have H3 : Hid (CrcM.ext n (bytesOf { data := #[] }) = n) := CrcM.ext_nil n
  go_enter Tryd.func5, Tryd.ntmps5
  go_wp2_with fail
  refine (live_any _ HT).mono ?_
  rintro e w' ⟨rfl, rfl⟩
  go_wp2_with fail
  refine (sum_any a1 _ hs1 HT).mono ?_
  rintro e w' ⟨rfl, rfl⟩
  go_wp2_with fail
  refine (ext_any _ a2 _ hb1 hs2 HT).mono ?_
  rintro e w' ⟨rfl, rfl⟩
  rw [H1]
  go_wp2_with fail
  refine (sum_any (a1 ++ a2) _ hs3 HT).mono ?_
  rintro e w' ⟨rfl, rfl⟩
  generalize CrcM.ext 0 (bytesOf (a1 ++ a2)) = x
  go_wp2_with fail
  refine (ext_any n a1 _ hn hs1 HT).mono ?_
  rintro e w' ⟨rfl, rfl⟩
  go_wp2_with fail
  refine (ext_any _ a2 _ hb2 hs2 HT).mono ?_
  rintro e w' ⟨rfl, rfl⟩
  rw [H2]
  go_wp2_with fail
  refine (ext_any n (a1 ++ a2) _ hn hs3 HT).mono ?_
  rintro e w' ⟨rfl, rfl⟩
  generalize CrcM.ext n (bytesOf (a1 ++ a2)) = y
  go_wp2_with fail
  refine (ext_any n { data := #[] } _ hn (by decide) HT).mono ?_
  rintro e w' ⟨rfl, rfl⟩
  rw [H3]
  go_wp2
  go_ret
  exact ⟨rfl, Below.refl _ _⟩
end Go.Proofs.YthbmkoiaennejaaDoor
