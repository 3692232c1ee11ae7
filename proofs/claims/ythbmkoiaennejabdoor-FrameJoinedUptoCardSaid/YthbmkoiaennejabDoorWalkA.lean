/- What crc.Extend computes, for any sum and any bytes, over a world that holds the table. -/
import Derived.Test.YthbmkoiaennejabDoorProg
import Derived.Test.YthbmkoiaennejabDoorMath
import Derived.WalkKit
import Derived.KernelRfl
import Derived.Lib.Hide
import Derived.Deep.QuietTactic
import Derived.BigQuiet
import Derived.Laws.BitsAllLaws
namespace Go.Proofs.YthbmkoiaennejabDoor
open Go.RowKit
def bytesOf (s : ByteArray) : List Nat := s.data.toList.map (·.toNat)
def Table (w : World) : Prop := ∀ i : Nat, i < 16 → w.cell? ⟨0, i, none⟩ = some (.int .u32 ((CrcM.stn 4 i : Nat) : Int))
theorem max_u32 : IntKind.u32.max = 4294967295 := by decide
theorem xor_u32 (a b : Nat) (ha : a < 4294967296) (hb : b < 4294967296) : bits .xor .u32 (a : Int) (b : Int) = ((a ^^^ b : Nat) : Int) := u32_xor_nat a b ha hb
theorem xor_lt {a b : Nat} (ha : a < 4294967296) (hb : b < 4294967296) : a ^^^ b < 4294967296 := Nat.xor_lt_two_pow (n := 32) ha hb
theorem not_u32 (n : Nat) (hn : n < 4294967296) : bits .xor .u32 IntKind.u32.max (n : Int) = ((CrcM.ones ^^^ n : Nat) : Int) := by
  rw [max_u32]; exact xor_u32 4294967295 n (by decide) hn
theorem and15 (n : Nat) (hn : n < 4294967296) : bits .and .u32 (n : Int) 15 = ((n % 16 : Nat) : Int) := by
  have h := bits_mask .u32 32 (by decide) (fun x h0 h1 => by rw [IntKind.wrap_u32]; omega) 4 (by decide) (n : Int) (by omega) (by omega)
  have e : ((2 : Int) ^ 4 - 1) = 15 := by decide
  rw [e] at h; rw [h]; omega
theorem bytes_take (s : ByteArray) (k : Nat) (h : k < s.size) : (bytesOf s).take (k + 1) = (bytesOf s).take k ++ [s[k].toNat] := by
  unfold bytesOf
  rw [← List.map_take, ← List.map_take, List.take_succ_eq_append_getElem (by simpa using h), List.map_append]; rfl
theorem fold_snoc (a : List Nat) (b n : Nat) : CrcM.fold n (a ++ [b]) = CrcM.stn 8 (CrcM.fold n a ^^^ b) := by
  rw [CrcM.fold_append]; rfl
theorem fold_lt (a : List Nat) : ∀ n, n < 4294967296 → (∀ b ∈ a, b < 256) → CrcM.fold n a < 4294967296 := by
  induction a with
  | nil => intro n h _; exact h
  | cons b a ih =>
    intro n h hb
    rw [CrcM.fold_cons]
    exact ih _ (CrcM.stn_lt 8 (xor_lt h (by have := hb b (by simp); omega))) (fun c hc => hb c (by simp [hc]))
theorem bytes_lt (s : ByteArray) (k : Nat) : ∀ b ∈ (bytesOf s).take k, b < 256 := by
  intro b hb
  have hb := List.mem_of_mem_take hb
  unfold bytesOf at hb
  obtain ⟨c, _, rfl⟩ := List.mem_map.1 hb
  exact c.toNat_lt
theorem len_bytes (s : ByteArray) : (bytesOf s).length = s.size := by unfold bytesOf; simp
set_option maxHeartbeats 400000 in
theorem ext_any (n : Nat) (s : ByteArray) (w : World) (hn : n < 4294967296) (hs : s.size ≤ maxLen) (hT : Table w) :
    Calls Tryd.prog 16 #[.int .u32 (n : Int), .string s] w fun e w' => e = .returned (.int .u32 ((CrcM.ext n (bytesOf s) : Nat) : Int)) ∧ w' = w := by
  unfold maxLen at hs
  have HT := Lib.hid hT
  clear hT
  obtain ⟨n0, hn0⟩ : ∃ n0, n0 = CrcM.ones ^^^ n := ⟨_, rfl⟩
  have hn0b : n0 < 4294967296 := by rw [hn0]; exact xor_lt (by decide) hn
  have hnot : bits .xor .u32 IntKind.u32.max (n : Int) = (n0 : Int) := by rw [hn0]; exact not_u32 n hn
  have HN := Lib.hid hn0
  clear hn0
  go_enter Tryd.func16, Tryd.ntmps16
  go_wp2
  clear hnot
  go_loop [5, 11] (fun v i => ∃ k : Nat, k ≤ s.size ∧ i = .int .i64 k ∧ v = .int .u32 ((CrcM.fold n0 ((bytesOf s).take k) : Nat) : Int)) (fun _ i => s.size - (intOf i).toNat)
  case atStart => exact ⟨0, Nat.zero_le _, rfl, rfl⟩
  case round =>
    obtain ⟨k, hk, rfl, rfl⟩ := hrel
    by_cases hlt : k < s.size
    · have hf := fold_lt _ n0 hn0b (bytes_lt s k)
      have hts := bytes_take s k hlt
      have HS : Hid (CrcM.fold n0 ((bytesOf s).take (k + 1)) = CrcM.stn 8 (CrcM.fold n0 ((bytesOf s).take k) ^^^ s[k].toNat)) := by show _ = _; rw [hts, fold_snoc]
      clear hts
      generalize CrcM.fold n0 ((bytesOf s).take k) = f at *
      have hb := s[k].toNat_lt
      obtain ⟨x, hx⟩ : ∃ x, x = f ^^^ s[k].toNat := ⟨_, rfl⟩
      have hxb : x < 4294967296 := by rw [hx]; exact xor_lt hf (by omega)
      have h1 : bits .xor .u32 (f : Int) (s[k].toNat : Int) = (x : Int) := by rw [hx]; exact xor_u32 _ _ hf (by omega)
      have h2 := and15 x hxb
      obtain ⟨c1, hc1⟩ : ∃ c, c = CrcM.stn 4 (x % 16) := ⟨_, rfl⟩
      have hc1b : c1 < 4294967296 := by rw [hc1]; exact CrcM.stn_lt 4 (by omega)
      have hcell := HT (x % 16) (Nat.mod_lt _ (by decide))
      rw [← hc1] at hcell
      obtain ⟨y, hy⟩ : ∃ y, y = x / 16 ^^^ c1 := ⟨_, rfl⟩
      have hyb : y < 4294967296 := by rw [hy]; exact xor_lt (by omega) hc1b
      have h3 : bits .xor .u32 ((x : Int) / 16) (c1 : Int) = (y : Int) := by rw [hy]; exact xor_u32 (x / 16) c1 (by omega) hc1b
      have h4 := and15 y hyb
      obtain ⟨c2, hc2⟩ : ∃ c, c = CrcM.stn 4 (y % 16) := ⟨_, rfl⟩
      have hc2b : c2 < 4294967296 := by rw [hc2]; exact CrcM.stn_lt 4 (by omega)
      have hcell2 := HT (y % 16) (Nat.mod_lt _ (by decide))
      rw [← hc2] at hcell2
      obtain ⟨z, hz⟩ : ∃ z, z = y / 16 ^^^ c2 := ⟨_, rfl⟩
      have h5 : bits .xor .u32 ((y : Int) / 16) (c2 : Int) = (z : Int) := by rw [hz]; exact xor_u32 (y / 16) c2 (by omega) hc2b
      have HZ : Hid (z = CrcM.fold n0 ((bytesOf s).take (k + 1))) := by
        show _ = _
        rw [HS, ← hx, show (8 : Nat) = 4 + 4 from rfl, CrcM.stn_add, CrcM.four x, ← hc1, ← hy, CrcM.four y, ← hc2, hz]
      clear hx hc1 hy hc2 hz
      go_wp2
      go_round
      case rel => exact ⟨k + 1, by omega, by go_num, by rw [HZ]⟩
      case measure => simp [intOf]; omega
    · have hk' : k = s.size := by omega
      have HE : Hid (((CrcM.fold n0 ((bytesOf s).take k)) ^^^ CrcM.ones) = CrcM.ext n (bytesOf s)) := by
        show _ = _
        rw [List.take_of_length_le (by rw [len_bytes]; omega), HN]; rfl
      have hf := fold_lt _ n0 hn0b (bytes_lt s k)
      generalize CrcM.fold n0 ((bytesOf s).take k) = f at *
      have hnot : bits .xor .u32 IntKind.u32.max (f : Int) = ((f ^^^ CrcM.ones : Nat) : Int) := by rw [Nat.xor_comm]; exact not_u32 f hf
      generalize f ^^^ CrcM.ones = g at *
      clear hk'
      go_wp2
      go_ret
      exact ⟨by rw [HE]; rfl, rfl⟩
theorem sum_any (s : ByteArray) (w : World) (hs : s.size ≤ maxLen) (hT : Table w) :
    Calls Tryd.prog 17 #[.string s] w fun e w' => e = .returned (.int .u32 ((CrcM.ext 0 (bytesOf s) : Nat) : Int)) ∧ w' = w := by
  have HT := Lib.hid hT
  clear hT
  go_enter Tryd.func17, Tryd.ntmps17
  go_wp2_with fail
  refine (ext_any 0 s _ (by decide) hs HT).mono ?_
  rintro e w' ⟨rfl, rfl⟩
  go_wp2
  go_ret
  exact ⟨rfl, rfl⟩
theorem st_def (x : Nat) : CrcM.st x = if x % 2 = 1 then (x / 2) ^^^ 3988292384 else x / 2 := rfl
theorem stn_snoc (j x : Nat) : CrcM.stn (j + 1) x = CrcM.st (CrcM.stn j x) := by rw [CrcM.stn_add]; rfl
set_option maxHeartbeats 400000 in
theorem rext_any (n : Nat) (s : ByteArray) (w : World) (hn : n < 4294967296) (hs : s.size ≤ maxLen) :
    Calls Tryd.prog 22 #[.int .u32 (n : Int), .string s] w fun e w' => e = .returned (.int .u32 ((CrcM.ext n (bytesOf s) : Nat) : Int)) ∧ w' = w := by
  unfold maxLen at hs
  obtain ⟨n0, hn0⟩ : ∃ n0, n0 = CrcM.ones ^^^ n := ⟨_, rfl⟩
  have hn0b : n0 < 4294967296 := by rw [hn0]; exact xor_lt (by decide) hn
  have hnot : bits .xor .u32 IntKind.u32.max (n : Int) = (n0 : Int) := by rw [hn0]; exact not_u32 n hn
  have HN := Lib.hid hn0
  clear hn0
  go_enter Tryd.func22, Tryd.ntmps22
  go_wp2
  clear hnot
  go_loop [5, 6] (fun v i => ∃ k : Nat, k ≤ s.size ∧ i = .int .i64 k ∧ v = .int .u32 ((CrcM.fold n0 ((bytesOf s).take k) : Nat) : Int)) (fun _ i => s.size - (intOf i).toNat)
  case atStart => exact ⟨0, Nat.zero_le _, rfl, rfl⟩
  case round =>
    obtain ⟨k, hk, rfl, rfl⟩ := hrel
    by_cases hlt : k < s.size
    · have hf := fold_lt _ n0 hn0b (bytes_lt s k)
      have hts := bytes_take s k hlt
      have HS : Hid (CrcM.fold n0 ((bytesOf s).take (k + 1)) = CrcM.stn 8 (CrcM.fold n0 ((bytesOf s).take k) ^^^ s[k].toNat)) := by show _ = _; rw [hts, fold_snoc]
      clear hts
      generalize CrcM.fold n0 ((bytesOf s).take k) = f at *
      have hb := s[k].toNat_lt
      obtain ⟨x, hx⟩ : ∃ x, x = f ^^^ s[k].toNat := ⟨_, rfl⟩
      have hxb : x < 4294967296 := by rw [hx]; exact xor_lt hf (by omega)
      have h1 : bits .xor .u32 (f : Int) (s[k].toNat : Int) = (x : Int) := by rw [hx]; exact xor_u32 _ _ hf (by omega)
      have HZ : Hid (CrcM.stn 8 x = CrcM.fold n0 ((bytesOf s).take (k + 1))) := by
        show _ = _
        rw [HS, ← hx]
      clear hx
      go_wp2
      clear h1
      go_loop [5, 7] (fun v i => ∃ j : Nat, j ≤ 8 ∧ i = .int .i64 j ∧ v = .int .u32 ((CrcM.stn j x : Nat) : Int)) (fun _ i => 8 - (intOf i).toNat)
      case atStart => exact ⟨0, Nat.zero_le _, rfl, rfl⟩
      case round =>
        obtain ⟨j, hj, rfl, rfl⟩ := hrel
        by_cases hj8 : j < 8
        · have hyb := CrcM.stn_lt j hxb
          have HJ : Hid (CrcM.stn (j + 1) x = CrcM.st (CrcM.stn j x)) := stn_snoc j x
          generalize CrcM.stn j x = y at *
          by_cases ho : y % 2 = 1
          · have ho1 : ((y : Int) % 2 == 1) = true := by rw [beq_iff_eq]; omega
            have h2 : bits .xor .u32 ((y : Int) / 2) 3988292384 = ((CrcM.st y : Nat) : Int) := by
              rw [st_def, if_pos ho]; exact xor_u32 (y / 2) 3988292384 (by omega) (by decide)
            clear ho
            go_wp2
            go_round
            case rel => exact ⟨j + 1, by omega, by go_num, by rw [HJ]⟩
            case measure => simp [intOf]; omega
          · have ho1 : ((y : Int) % 2 == 1) = false := by rw [beq_eq_false_iff_ne]; omega
            have h2 : (y : Int) / 2 = ((CrcM.st y : Nat) : Int) := by
              rw [st_def, if_neg ho]; omega
            clear ho
            go_wp2
            go_round
            case rel => exact ⟨j + 1, by omega, by go_num, by rw [HJ]⟩
            case measure => simp [intOf]; omega
        · obtain rfl : j = 8 := by omega
          go_wp2
          go_round
          case rel => exact ⟨k + 1, by omega, by go_num, by rw [HZ]⟩
          case measure => simp [intOf]; omega
    · have hk' : k = s.size := by omega
      have HE : Hid (((CrcM.fold n0 ((bytesOf s).take k)) ^^^ CrcM.ones) = CrcM.ext n (bytesOf s)) := by
        show _ = _
        rw [List.take_of_length_le (by rw [len_bytes]; omega), HN]; rfl
      have hf := fold_lt _ n0 hn0b (bytes_lt s k)
      generalize CrcM.fold n0 ((bytesOf s).take k) = f at *
      have hnot : bits .xor .u32 IntKind.u32.max (f : Int) = ((f ^^^ CrcM.ones : Nat) : Int) := by rw [Nat.xor_comm]; exact not_u32 f hf
      generalize f ^^^ CrcM.ones = g at *
      clear hk'
      go_wp2
      go_ret
      exact ⟨by rw [HE]; rfl, rfl⟩
theorem rsum_any (s : ByteArray) (w : World) (hs : s.size ≤ maxLen) :
    Calls Tryd.prog 18 #[.string s] w fun e w' => e = .returned (.int .u32 ((CrcM.ext 0 (bytesOf s) : Nat) : Int)) ∧ w' = w := by
  go_enter Tryd.func18, Tryd.ntmps18
  go_wp2_with fail
  refine (rext_any 0 s _ (by decide) hs).mono ?_
  rintro e w' ⟨rfl, rfl⟩
  go_wp2
  go_ret
  exact ⟨rfl, rfl⟩
end Go.Proofs.YthbmkoiaennejabDoor
