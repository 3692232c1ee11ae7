/- slices.Delete at timers. -/
import Derived.Test.YtbgbpibfmdkndaaWA
set_option linter.unusedVariables false
set_option linter.unusedSimpArgs false
set_option linter.unnecessarySimpa false
set_option maxRecDepth 100000
namespace Go.Proofs.Ytbgbpibfmdkndaa
open Go.RowKit Go.ChangeShapes Go.WideShapes Go.ChangeAt
theorem info50 : (Try.prog.info? 70).map (fun i => (i.zero, i.size, i.bytes)) = some (some (.agg #[.int .i64 0, .int .i64 0]), 2, 16) := by kernel_rfl
theorem size50 : (Try.prog.info? 70).map (·.size) = some 2 := by kernel_rfl
theorem zero50 (w : World) : (zeroValue 70).run Try.prog w = .ok (.agg #[.int .i64 0, .int .i64 0]) w := by kernel_rfl
section
variable {w0 w : World} {F : List HP} {n c : Nat} {A : Option Addr} {xs : List Value}
theorem del_none (i : Nat) (hS : Sat w0 w (Row 70 2 A n c xs :: F)) (hi : i ≤ n) :
    Calls Try.prog 48 #[.slice A n c, .int .i64 i, .int .i64 i] w fun e w' => e = .returned (.slice A n c) ∧ w' = w := by
  obtain ⟨h1, h2⟩ := hS.rowCap
  unfold maxLen at h2
  have t1 : (i : Int) ≤ n := by omega
  clear hS
  go_enter Try.func48, Try.ntmps48
  go_wp2
  all_goals (go_ret; exact ⟨rfl, rfl⟩)
theorem take_over {vs us : List Value} {o k : Nat} (h : o + us.length ≤ vs.length) (hk : k = o + us.length) : (over vs o us).take k = vs.take o ++ us := by
  unfold over
  rw [List.take_append_of_le_length (by simp only [List.length_append, List.length_take]; omega), List.take_of_length_le (by simp only [List.length_append, List.length_take]; omega)]
theorem take_over' {vs us : List Value} {o k : Nat} (h : o + us.length ≤ vs.length) (hk : k ≤ o) : (over vs o us).take k = vs.take k := by
  unfold over
  rw [List.append_assoc, List.take_append_of_le_length (by simp only [List.length_take]; omega), List.take_take, Nat.min_eq_left hk]
set_option maxHeartbeats 3200000 in
theorem del_some (i j : Nat) (hS : Sat w0 w (Row 70 2 A n c xs :: F)) (hij : i < j) (hj : j ≤ n) (h1 : ∀ u ∈ xs, u.oneCell' = true) :
    Calls Try.prog 48 #[.slice A n c, .int .i64 i, .int .i64 j] w fun e w' => e = .returned (.slice A (i + (n - j)) c) ∧ Sat w0 w' (Row 70 2 A (i + (n - j)) c (xs.take (i * 2) ++ xs.drop (j * 2)) :: F) := by
  obtain ⟨ii, hi, hz, hsz, hby⟩ := info_parts info50
  have hxl := hS.rowLen
  obtain ⟨g, rfl⟩ : ∃ g, A = some ⟨g, 0, none⟩ := by
    obtain ⟨g, rfl, _⟩ := hS.rowCell (by rintro rfl; simp at hxl; omega)
    exact ⟨g, rfl⟩
  obtain ⟨cur, hnc, hcm, hcl, hct, hB⟩ := hS.rowBlk'
  unfold maxLen at hcm
  obtain ⟨news, hnews⟩ : ∃ news, xs.drop (j * 2) = news := ⟨_, rfl⟩
  have hnl : news.length = (n - j) * 2 := by rw [← hnews, List.length_drop, hxl, Nat.sub_mul]
  have HNW := Lib.hid hnews
  have s1 : Hid (news.length = (n - j) * 2) := hnl
  have s2 : Hid (∀ u ∈ news, u.oneCell' = true) := fun u hu => h1 u (by rw [← hnews] at hu; exact List.mem_of_mem_drop hu)
  have s3 : Hid (∀ t, t < news.length → (w.drew.cell? ⟨g, 0 + i * 2 + t, none⟩).isSome = true ∧ w.drew.frozen? ⟨g, 0 + i * 2 + t, none⟩ = false) := by
    intro t ht
    refine ⟨?_, hB.blk.free _⟩
    show (w.cell? _).isSome = true
    rw [hB.blk.cell, List.getElem?_eq_getElem (by omega)]
    rfl
  have s4 : Hid (∀ t u, news[t]? = some u → ∀ ad : Addr, (ad = ⟨g, j * 2, none⟩ ∨ n = j) → w.drew.cell? (ad.add t) = some u) := by
    intro t u hu ad had
    have htl := (List.getElem?_eq_some_iff.1 hu).1
    rcases had with rfl | had
    · rw [add_at]
      show w.cell? _ = _
      rw [hB.blk.cell]
      rw [← hnews, ← hct, List.getElem?_drop, List.getElem?_take] at hu
      split at hu
      · exact hu
      · cases hu
    · exfalso
      subst had
      omega
  have hW1 := hB.drew.setCells news (0 + i * 2) (by omega)
  obtain ⟨W1, hW⟩ : ∃ W1, W1 = w.drew.setCells g (0 + i * 2) news := ⟨_, rfl⟩
  have HW := Lib.hid hW
  rw [← hW] at hW1
  obtain ⟨cur1, hc1⟩ : ∃ x, over cur (0 + i * 2) news = x := ⟨_, rfl⟩
  have hcl1 : cur1.length = c * 2 := by rw [← hc1, over_len (by omega), hcl]
  rw [hc1] at hW1
  have hzlen := zeros_len #[.int .i64 0, .int .i64 0] (n - (i + (n - j)))
  have hzone : ∀ v ∈ (Builtin.zeroCells #[.int .i64 0, .int .i64 0] (n - (i + (n - j)))).toList, v.oneCell' = true := by
    intro v hv
    have := zeros_mem _ _ (by decide) v hv
    simp at this
    subst this
    rfl
  have hcl2 : ∀ ty, (Builtin.clear_ #[66] ty #[.slice (some ⟨g, 0 + (i + (n - j)) * 2, none⟩) (n - (i + (n - j))) (c - (i + (n - j)))]).run Try.prog W1 = .ok (.tuple #[]) (W1.setCells g (0 + (i + (n - j)) * 2) (Builtin.zeroCells #[.int .i64 0, .int .i64 0] (n - (i + (n - j)))).toList) := fun ty =>
    run_clearK W1 66 70 ty _ Try.underlying66 (zero50 W1) g (0 + (i + (n - j)) * 2) _ _ (by omega) _ rfl hzone
      (fun t ht => by
        rw [hzlen] at ht
        simp only [List.size_toArray, List.length_cons, List.length_nil] at ht
        rw [hW1.blk.cell, List.getElem?_eq_getElem (by omega)]
        rfl)
      (fun t ht => hW1.blk.free _)
  have hfin := hW1.setCells (Builtin.zeroCells #[.int .i64 0, .int .i64 0] (n - (i + (n - j)))).toList (0 + (i + (n - j)) * 2) (by rw [hzlen]; simp only [List.size_toArray, List.length_cons, List.length_nil]; omega)
  have hrow : Sat w0 _ (Row 70 2 (some ⟨g, 0, none⟩) (i + (n - j)) c (xs.take (i * 2) ++ news) :: F) := hfin.rowOf' (by omega) (by unfold maxLen; omega) (by rw [over_len (by rw [hzlen]; simp only [List.size_toArray, List.length_cons, List.length_nil]; omega)]; exact hcl1) (by
    rw [take_over' (by rw [hzlen]; simp only [List.size_toArray, List.length_cons, List.length_nil]; omega) (by omega), ← hc1, take_over (by omega) (by omega), ← hct, List.take_take]
    congr 2
    omega)
  have HR := Lib.hid hrow
  have HC := Lib.hid hcl2
  obtain ⟨zl, hzl⟩ : ∃ zl, (Builtin.zeroCells #[.int .i64 0, .int .i64 0] (n - (i + (n - j)))).toList = zl := ⟨_, rfl⟩
  rw [hzl] at HR HC
  have hjc : j ≤ c := by omega
  have hic : i ≤ c := by omega
  have hnj : ¬ c = i + (n - j) := by omega
  have hne : ((i : Int) == (j : Int)) = false := by rw [beq_eq_false_iff_ne]; omega
  have hne2 : ¬ i = j := by omega
  clear hrow hcl2 hzl hfin hzone hzlen hW1 hW hB hS hct hcl h1 hc1 hcl1 hnews hnl
  by_cases hcj : c = j
  · obtain rfl : n = c := by omega
    obtain rfl : j = n := by omega
    have hij' : i ≤ j := by omega
    have hs4 : Hid (∀ t u, news[t]? = some u → w.drew.cell? ((⟨g, 0, none⟩ : Addr).add t) = some u) := fun t u hu => s4.out t u hu _ (.inr (by omega))
    have hcl3 := HC.out 0
    simp only [Nat.sub_self, Nat.zero_mul] at s1
    simp only [Nat.sub_self, Nat.add_zero, Nat.zero_add] at hcl3 HR hnj HW ⊢
    clear s4 HC hcj
    go_enter Try.func48, Try.ntmps48
    go_wp2_with fail
    go_region_law (refine step_append_room rfl (.tmp 22) (.tmp 25) 66 rfl 70 ii 2 Try.underlying66 hi hsz g 0 i j (by simp [Act.eval, Act.put]) ⟨g, 0, none⟩ 0 0 news (by simp [Act.eval, Act.put]) (by have := s1.out; omega) hs4.out s2.out (by omega) s3.out ?_; rw [Nat.zero_add, ← HW.out])
    go_wp2_with fail
    go_ret
    rw [HNW.out]
    exact ⟨rfl, HR.out⟩
  · have hs4 : Hid (∀ t u, news[t]? = some u → w.drew.cell? ((⟨g, j * 2, none⟩ : Addr).add t) = some u) := fun t u hu => s4.out t u hu _ (.inl rfl)
    have hcl3 := HC.out 0
    simp only [Nat.zero_add] at hcl3 HR HW
    clear s4 HC
    go_enter Try.func48, Try.ntmps48
    go_wp2_with fail
    go_region_law (refine step_append_room rfl (.tmp 22) (.tmp 25) 66 rfl 70 ii 2 Try.underlying66 hi hsz g 0 i c (by simp [Act.eval, Act.put]) ⟨g, j * 2, none⟩ (n - j) (c - j) news (by simp [Act.eval, Act.put]) s1.out hs4.out s2.out (by omega) s3.out ?_; rw [Nat.zero_add, ← HW.out])
    go_wp2_with fail
    go_ret
    rw [HNW.out]
    exact ⟨rfl, HR.out⟩
end
end Go.Proofs.Ytbgbpibfmdkndaa
