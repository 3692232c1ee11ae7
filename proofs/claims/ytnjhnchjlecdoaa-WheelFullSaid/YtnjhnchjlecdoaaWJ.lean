/- The document's wheel: find, before, New, Len, Next, Stop, Due. -/
import Derived.Test.YtnjhnchjlecdoaaWI
set_option linter.unusedVariables false
set_option linter.unusedSimpArgs false
set_option linter.unnecessarySimpa false
set_option maxRecDepth 100000
namespace Go.Proofs.Ytnjhnchjlecdoaa
open Go.RowKit Go.ChangeShapes Go.WideShapes Go.ChangeAt
theorem info61 : (Try.prog.info? 61).map (fun i => (i.zero, i.size, i.bytes)) = some (some (.agg #[.int .i64 0, .int .i64 0]), 2, 16) := by kernel_rfl
theorem Rd.take {w : World} {B : Option Addr} {m sz q : Nat} {ys : List Value} (h : Rd w B m sz ys) (hq : q ≤ m) : Rd w B q sz (ys.take (q * sz)) := by
  refine ⟨?_, fun j u hu => ?_⟩
  · rw [List.length_take, h.1]
    exact Nat.min_eq_left (Nat.mul_le_mul_right _ hq)
  · rw [List.getElem?_take] at hu
    split at hu
    · exact h.2 j u hu
    · cases hu
theorem Rd.drop {w : World} {g m sz q : Nat} {ys : List Value} (h : Rd w (some ⟨g, 0, none⟩) m sz ys) (hq : q ≤ m) : Rd w (some ⟨g, q * sz, none⟩) (m - q) sz (ys.drop (q * sz)) := by
  refine ⟨?_, fun j u hu => ?_⟩
  · rw [List.length_drop, h.1, Nat.sub_mul]
  · rw [List.getElem?_drop] at hu
    obtain ⟨ad, e, hc⟩ := h.2 _ u hu
    cases e
    refine ⟨_, rfl, ?_⟩
    rw [add_at] at hc ⊢
    rw [← hc, Nat.zero_add]
theorem Rd.none_ (w : World) (B : Option Addr) (sz : Nat) : Rd w B 0 sz [] := ⟨by simp, fun j u hu => by simp at hu⟩
def bef (a b : Tm) : Bool := decide (a.2 < b.2) || (a.2 == b.2 && decide (a.1 < b.1))
section
variable {w0 w : World} {F : List HP} {g T E n c : Nat} {A : Option Addr} {L : List Tm}
theorem rnew_any (hS : Sat w0 w F) : Calls Try.prog 15 #[] w fun e w' => e = .returned (.pointer (some ⟨w.heap.size, 0, none⟩)) ∧ Sat w0 w' (WheelC w.heap.size 58 61 [] :: F) := by
  go_enter Try.func15, Try.ntmps15
  go_wp2
  go_ret
  exact ⟨rfl, Sat.closeW rfl ((hS.nilRow 61 2).new _ _)⟩
theorem rlen_any (hS : Sat w0 w (WheelC g 58 61 L :: F)) : Calls Try.prog 23 #[.pointer (some ⟨g, 0, none⟩)] w fun e w' => e = .returned (.int .i64 L.length) ∧ w' = w := by
  obtain ⟨A, c, hS⟩ := hS.openW
  have c0 := hS.blk.cell 0
  go_enter Try.func23, Try.ntmps23
  go_wp2
  go_ret
  exact ⟨rfl, rfl⟩
theorem rnext_any (hS : Sat w0 w (WheelC g 58 61 L :: F)) (hm : L.length ≤ 1000000) : Calls Try.prog 22 #[.pointer (some ⟨g, 0, none⟩)] w fun e w' => e = .returned (.tuple #[.int .i64 (nextN L), .bool (nextB L)]) ∧ w' = w := by
  obtain ⟨A, c, hS⟩ := hS.openW
  have c0 := hS.blk.cell 0
  cases L with
  | nil =>
    go_enter Try.func22, Try.ntmps22
    go_wp2
    go_ret2
    exact ⟨rfl, rfl⟩
  | cons x l =>
    obtain ⟨b, rfl, hc⟩ := tm_cells hS.r2 (by simp)
    obtain ⟨_, e1⟩ := hc 0 (by simp)
    obtain ⟨q, hq⟩ : ∃ q, (x :: l).length = q := ⟨_, rfl⟩
    have hq0 : 0 < q := by rw [← hq]; simp
    rw [hq] at c0
    have t0 : ((q : Int) == 0) = false := by rw [beq_eq_false_iff_ne]; omega
    simp only [Nat.zero_mul, Nat.zero_add, List.getElem_cons_zero] at e1
    clear hc hS hm hq
    go_enter Try.func22, Try.ntmps22
    go_wp2
    go_ret2
    exact ⟨rfl, rfl⟩
theorem before_any (a b : Tm) (w : World) : Calls Try.prog 33 #[.agg #[.int .i64 a.1, .int .i64 a.2], .agg #[.int .i64 b.1, .int .i64 b.2]] w (Quietly w (.bool (bef a b))) := by
  obtain ⟨a1, a2⟩ := a
  obtain ⟨b1, b2⟩ := b
  unfold Quietly
  have hB : Below w.heap.size w ((w.alloc (.cells #[.int .i64 a1, .int .i64 a2] 61)).alloc (.cells #[.int .i64 b1, .int .i64 b2] 61)) := ((Below.refl _ _).alloc (Nat.le_refl _) _).alloc (by simp) _
  have HB := Lib.hid hB
  clear hB
  by_cases h1 : a2 < b2
  · have HX : Hid (bef (a1, a2) (b1, b2) = true) := by show _ = _; unfold bef; simp [h1]
    go_enter Try.func33, Try.ntmps33
    go_wp2_with fail
    go_ret
    rw [HX.out]
    exact ⟨rfl, HB.out⟩
  · by_cases h2 : a2 = b2
    · subst h2
      have HX : Hid (bef (a1, a2) (b1, a2) = decide (a1 < b1)) := by show _ = _; unfold bef; simp
      go_enter Try.func33, Try.ntmps33
      go_wp2_with fail
      go_ret
      rw [HX.out]
      exact ⟨by simp, HB.out⟩
    · have HX : Hid (bef (a1, a2) (b1, b2) = false) := by show _ = _; unfold bef; simp [h1, h2]
      have t0 : (a2 == b2) = false := by rw [beq_eq_false_iff_ne]; exact h2
      go_enter Try.func33, Try.ntmps33
      go_wp2_with fail
      go_ret
      rw [HX.out]
      exact ⟨by simp, HB.out⟩
def FdRel (w : World) (L : List Tm) (p : Tm → Bool) (i : Value) (wr : World) : Prop := ∃ k : Nat, k ≤ L.length ∧ i = .int .i64 k ∧ wr = w ∧ ∀ j (hj : j < L.length), j < k → p L[j] = false
def findI (L : List Tm) (id : Int) : Int := if firstN L (isId id) < L.length then (firstN L (isId id) : Nat) else -1
theorem find_any (id : Int) (hS : Sat w0 w (WheelC g 58 61 L :: F)) (hm : L.length ≤ 1000000) : Calls Try.prog 32 #[.pointer (some ⟨g, 0, none⟩), .int .i64 id] w fun e w' => e = .returned (.int .i64 (findI L id)) ∧ w' = w := by
  obtain ⟨A, c, hS⟩ := hS.openW
  have c0 := hS.blk.cell 0
  have HC : Hid (0 < L.length → ∃ g, A = some ⟨g, 0, none⟩ ∧ ∀ k (hk : k < L.length), w.cell? ⟨g, k * 2, none⟩ = some (.int .i64 L[k].1) ∧ w.cell? ⟨g, k * 2 + 1, none⟩ = some (.int .i64 L[k].2)) := tm_cells hS.r2
  have HFI : Hid (findI L id = if firstN L (isId id) < L.length then ((firstN L (isId id) : Nat) : Int) else -1) := rfl
  clear hS
  go_enter Try.func32, Try.ntmps32
  go_wp2_with fail
  go_loopw [5] (FdRel w L (isId id)) (fun i _ => L.length - (intOf i).toNat)
  case atStart => exact ⟨0, Nat.zero_le _, rfl, rfl, fun j hj h => absurd h (Nat.not_lt_zero _)⟩
  case round =>
    obtain ⟨k, hk, rfl, rfl, ha⟩ := hrel
    by_cases hlt : k < L.length
    · obtain ⟨b, rfl, hc⟩ := HC.out (by omega)
      obtain ⟨e1, _⟩ := hc k hlt
      by_cases hx : L[k].1 = id
      · have HF := Lib.hid (first_hit (p := isId id) hlt (by unfold isId; rw [beq_iff_eq]; exact hx) ha)
        have HR : Hid (findI L id = (k : Int)) := by show _ = _; rw [HFI.out, HF.out, if_pos hlt]
        rw [hx] at e1
        clear hc hx ha
        go_wp2_with fail
        go_ret
        rw [HR.out]
        exact ⟨rfl, rfl⟩
      · have HN : Hid (∀ j (hj : j < L.length), j < k + 1 → isId id L[j] = false) := fun j hj hjk => by
          by_cases hjk2 : j < k
          · exact ha j hj hjk2
          · obtain rfl : j = k := by omega
            unfold isId
            rw [beq_eq_false_iff_ne]
            exact hx
        obtain ⟨y, hy⟩ : ∃ y, L[k].1 = y := ⟨_, rfl⟩
        rw [hy] at e1 hx
        have t0 : (y == id) = false := by rw [beq_eq_false_iff_ne]; exact hx
        clear hc ha hy hx
        go_wp2_with fail
        go_roundw
        case rel => exact ⟨k + 1, by omega, by go_num, rfl, HN.out⟩
        case measure => simp [intOf]; omega
    · have HF := Lib.hid (first_none (L := L) (p := isId id) fun j hj => ha j hj (by omega))
      have HR : Hid (findI L id = -1) := by show _ = _; rw [HFI.out, HF.out, if_neg (by omega)]
      clear ha
      go_wp2_with fail
      go_ret
      rw [HR.out]
      exact ⟨rfl, rfl⟩
set_option maxHeartbeats 800000 in
theorem rstop_any (id : Int) (hS : Sat w0 w (WheelC g 58 61 L :: F)) (hm : L.length ≤ 1000000) :
    Calls Try.prog 18 #[.pointer (some ⟨g, 0, none⟩), .int .i64 id] w fun e w' => e = .returned (.bool (stopB L id)) ∧ Sat w0 w' (WheelC g 58 61 (stopL L id) :: F) := by
  have HFD := Lib.hid (find_any id hS hm)
  obtain ⟨ii, hii, hz, hsz, hby⟩ := info_parts info61
  by_cases hlt : firstN L (isId id) < L.length
  · have HFI : findI L id = ((firstN L (isId id) : Nat) : Int) := by unfold findI; rw [if_pos hlt]
    rw [HFI] at HFD
    have HB : Hid (stopB L id = true) := by show _ = _; unfold stopB; exact decide_eq_true hlt
    have HLL : Hid (L.length - 1 = (stopL L id).length) := by show _ = _; unfold stopL; rw [List.length_eraseIdx_of_lt hlt]
    have HTC : Hid ((tc L).take (firstN L (isId id) * 2) ++ (tc L).drop ((firstN L (isId id) + 1) * 2) = tc (stopL L id)) := erase_cells L _ hlt
    obtain ⟨q, hq⟩ : ∃ q, firstN L (isId id) = q := ⟨_, rfl⟩
    rw [hq] at HFD hlt HTC
    obtain ⟨A, c, hS⟩ := hS.openW
    have c0 := hS.blk.cell 0
    obtain ⟨b, rfl, _⟩ := tm_cells hS.r2 (by omega)
    obtain ⟨hcap1, hcap2⟩ := hS.r2.rowCap
    unfold maxLen at hcap2
    have s1 : ∀ u ∈ (tc L).take (q * 2), u.oneCell' = true := fun u hu => tc_one L u (List.mem_of_mem_take hu)
    have s2 : ∀ u ∈ (tc L).drop ((q + 1) * 2), u.oneCell' = true := fun u hu => tc_one L u (List.mem_of_mem_drop hu)
    have h4 : 0 + q ≤ maxLen := by unfold maxLen; omega
    have h5 : (0 + q) * 16 ≤ 140737488355328 := by omega
    have h6 : 0 + q + (L.length - (q + 1)) ≤ maxLen := by unfold maxLen; omega
    have h7 : (0 + q + (L.length - (q + 1))) * 16 ≤ 140737488355328 := by omega
    have hxl := hS.r2.rowLen
    have HR1 := Lib.hid (fun (w1 : World) (h : Rd w1 (some ⟨b, 0, none⟩) L.length 2 (tc L)) => h.take (Nat.le_of_lt hlt))
    have HR2 := Lib.hid (fun (w1 : World) (h : Rd w1 (some ⟨b, 0, none⟩) L.length 2 (tc L)) => h.drop (q := q + 1) hlt)
    have HNIL : Hid (L.length = q + 1 → (tc L).drop ((q + 1) * 2) = []) := fun h => List.drop_eq_nil_of_le (by omega)
    have HLL2 := HLL.out
    obtain ⟨N, hN⟩ : ∃ N, L.length = N := ⟨_, rfl⟩
    rw [hN] at hS hlt hcap1 h6 h7 HR1 HR2 HNIL HLL c0
    have HS := Lib.hid hS
    clear HFI hq hS hxl HLL2 hN
    by_cases hcq : c = q + 1
    · subst hcq
      obtain rfl : N = q + 1 := by omega
      have hnil := HNIL.out rfl
      rw [hnil, List.append_nil] at HTC
      clear hnil
      go_enter Try.func18, Try.ntmps18
      go_wp2_with fail
      refine HFD.out.mono ?_
      rintro e w1 ⟨rfl, rfl⟩
      go_wp2_with (first
        | (at_builtin; refine wpList_appS rfl (.tmp 12) (.tmp 18) 56 rfl 61 ii _ 2 16 Try.underlying56 hii hz hsz hby rfl (by decide) rfl (HS.out.nilRow 61 2) rfl (HR1.out _ HS.out.r2.rd) s1 h4 h5 ?_; intro A1 c1 w2 hS1; have c0 : w2.cell? ⟨g, 0, none⟩ = some (.slice (some ⟨b, 0, none⟩) (q + 1) (q + 1)) := hS1.r2.blk.cell 0; rw [Nat.zero_add, List.nil_append] at hS1)
        | (at_builtin; refine wpList_appS rfl (.tmp 20) (.tmp 27) 56 rfl 61 ii _ 2 16 Try.underlying56 hii hz hsz hby rfl (by decide) rfl hS1 rfl (Rd.none_ _ _ 2) (by simp) (by unfold maxLen; omega) (by omega) ?_; intro A2 c2 w3 hS2; have c1' : w3.cell? ⟨g, 0, none⟩ = some (.slice (some ⟨b, 0, none⟩) (q + 1) (q + 1)) := hS2.r2.blk.cell 0; have f1 : w3.frozen? ⟨g, 0, none⟩ = false := hS2.r2.blk.free 0; have HF := Lib.hid ((hS2.r2.set 0 (.slice A2 (q + 0) c2)).r3.tail); clear c0 hS1 hS2))
      go_ret
      rw [HB.out]
      rw [List.append_nil, HTC.out] at HF
      exact ⟨rfl, Sat.closeW (n := q + 0) (by have := HLL.out; omega) HF.out⟩
    · go_enter Try.func18, Try.ntmps18
      go_wp2_with fail
      refine HFD.out.mono ?_
      rintro e w1 ⟨rfl, rfl⟩
      go_wp2_with (first
        | (at_builtin; refine wpList_appS rfl (.tmp 12) (.tmp 18) 56 rfl 61 ii _ 2 16 Try.underlying56 hii hz hsz hby rfl (by decide) rfl (HS.out.nilRow 61 2) rfl (HR1.out _ HS.out.r2.rd) s1 h4 h5 ?_; intro A1 c1 w2 hS1; have c0 : w2.cell? ⟨g, 0, none⟩ = some (.slice (some ⟨b, 0, none⟩) N c) := hS1.r2.blk.cell 0; rw [Nat.zero_add, List.nil_append] at hS1)
        | (at_builtin; refine wpList_appS rfl (.tmp 20) (.tmp 27) 56 rfl 61 ii _ 2 16 Try.underlying56 hii hz hsz hby rfl (by decide) rfl hS1 rfl (HR2.out _ hS1.r3.rd) s2 (by unfold maxLen; omega) (by omega) ?_; intro A2 c2 w3 hS2; have c1' : w3.cell? ⟨g, 0, none⟩ = some (.slice (some ⟨b, 0, none⟩) N c) := hS2.r2.blk.cell 0; have f1 : w3.frozen? ⟨g, 0, none⟩ = false := hS2.r2.blk.free 0; have HF := Lib.hid ((hS2.r2.set 0 (.slice A2 (q + (N - (q + 1))) c2)).r3.tail); clear c0 hS1 hS2))
      go_ret
      rw [HB.out]
      rw [HTC.out] at HF
      exact ⟨rfl, Sat.closeW (n := q + (N - (q + 1))) (by have := HLL.out; omega) HF.out⟩
  · have HFI : findI L id = -1 := by unfold findI; rw [if_neg hlt]
    rw [HFI] at HFD
    have HB : Hid (stopB L id = false) := by show _ = _; unfold stopB; exact decide_eq_false hlt
    have HL : Hid (stopL L id = L) := by show _ = _; unfold stopL; rw [List.eraseIdx_of_length_le (by omega)]
    clear HFI hlt
    go_enter Try.func18, Try.ntmps18
    go_wp2_with fail
    refine HFD.out.mono ?_
    rintro e w1 ⟨rfl, rfl⟩
    go_wp2_with fail
    go_ret
    rw [HB.out, HL.out]
    exact ⟨rfl, hS⟩
end
end Go.Proofs.Ytnjhnchjlecdoaa
