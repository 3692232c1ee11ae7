/- slices.Insert of one timer, where there is no room; in one word. -/
import Derived.Test.YtbgbpibfmdkndaaWC
import Derived.Maps.AppendAt
set_option linter.unusedVariables false
set_option linter.unusedSimpArgs false
set_option linter.unnecessarySimpa false
set_option maxRecDepth 100000
namespace Go.Proofs.Ytbgbpibfmdkndaa
open Go.RowKit Go.ChangeShapes Go.WideShapes Go.ChangeAt
section
variable {w0 w : World} {F : List HP} {n c g gv : Nat} {A : Option Addr} {xs : List Value}
theorem next_le (n : Nat) (hn : n ≤ 200) : Builtin.nextslicecap (n + 1) n * 16 ≤ 281474976710656 := by
  have : Builtin.nextslicecap (n + 1) n ≤ 402 := by
    unfold Builtin.nextslicecap
    split
    · omega
    · rw [if_pos (by omega)]; omega
  omega
set_option maxHeartbeats 3200000 in
theorem ins_grow (a b : Int) (i : Nat) (hS : Sat w0 w (Row 70 2 A n n xs :: Blk gv 70 [.int .i64 a, .int .i64 b] :: F)) (hi : i < n) (hn : n ≤ 200) (h1 : ∀ u ∈ xs, u.oneCell' = true) :
    Calls Try.prog 46 #[.slice A n n, .int .i64 i, .slice (some ⟨gv, 0, none⟩) 1 1] w (InsOut w0 F (n + 1) (xs.take (i * 2) ++ [.int .i64 a, .int .i64 b] ++ xs.drop (i * 2))) := by
  obtain ⟨ii, hii, hz, hsz, hby⟩ := info_parts info50
  have hxl := hS.rowLen
  obtain ⟨g, rfl⟩ : ∃ g, A = some ⟨g, 0, none⟩ := by
    obtain ⟨g, rfl, _⟩ := hS.rowCell (by rintro rfl; simp at hxl; omega)
    exact ⟨g, rfl⟩
  obtain ⟨cur, hnc, hcm, hcl, hct, hB⟩ := hS.rowBlk'
  have hcur : cur = xs := by rw [← hct, List.take_of_length_le (by omega)]
  subst hcur
  have hol : (cur.take (i * 2)).length = i * 2 := by rw [List.length_take]; omega
  have hold : (Builtin.firstCells ii.size i (.slice (some ⟨g, 0, none⟩) i n)).run Try.prog w.drew = .ok (cur.take (i * 2)).toArray w.drew := by
    have hl := run_loadCells_list (P := Try.prog) w.drew ⟨g, 0, none⟩ (cur.take (i * 2)) (fun j v hv => by
      rw [add_at, Nat.zero_add]
      show w.cell? _ = _
      rw [hB.blk.cell]
      rw [List.getElem?_take] at hv
      split at hv
      · exact hv
      · cases hv)
    rw [hol] at hl
    simp only [Builtin.firstCells, hsz]
    exact hl
  have hgr := Lib.run_append_grow_zeros (P := Try.prog) w 66 3 66 70 ii _ .i64 .i64 Try.underlying66 Try.underlying3 hii hz (some ⟨g, 0, none⟩) i n (cur.take (i * 2)) hold (n + 1 - i) (by omega) (by omega) (by omega) (by omega)
    (by rw [hby]; omega) (by rw [hby, show i + (n + 1 - i) = n + 1 by omega]; exact next_le n hn)
  rw [show i + (n + 1 - i) = n + 1 by omega] at hgr
  have hk1 := grownCap_ge w (n + 1) n 70
  have hk2 := grownCap_le_maxLen w (n + 1) n 70 (by unfold maxLen; omega)
  obtain ⟨K, hK⟩ : ∃ K, grownCap w (n + 1) n 70 = K := ⟨_, rfl⟩
  rw [hK] at hgr hk1 hk2
  obtain ⟨cs, hcs⟩ : ∃ cs, (cur.take (i * 2)).toArray ++ Builtin.zeroCells (Value.agg #[.int .i64 0, .int .i64 0]).cells (n + 1 - i) ++ Builtin.zeroCells (Value.agg #[.int .i64 0, .int .i64 0]).cells (K - (n + 1)) = cs := ⟨_, rfl⟩
  rw [hcs] at hgr
  have hcsl : cs.toList.length = K * 2 := by
    rw [← hcs]
    simp only [Array.toList_append, List.length_append, zeros_len, hol]
    simp only [Value.cells, List.size_toArray, List.length_cons, List.length_nil]
    omega
  have hcst : cs.toList.take (i * 2) = cur.take (i * 2) := by
    rw [← hcs]
    simp only [Array.toList_append, List.append_assoc]
    rw [List.take_append_of_le_length (by omega), List.take_of_length_le (by omega)]
  have hN := hB.drew.new cs 70
  obtain ⟨g2, hg2⟩ : ∃ g2, w.heap.size = g2 := ⟨_, rfl⟩
  rw [show w.drew.heap.size = w.heap.size from rfl] at hN
  rw [hg2] at hN hgr
  obtain ⟨W0, hW0⟩ : ∃ W0, w.drew.alloc (.cells cs 70) = W0 := ⟨_, rfl⟩
  rw [hW0] at hN hgr
  have hone : ∀ u ∈ [Value.int .i64 a, Value.int .i64 b], u.oneCell' = true := by
    intro u hu
    simp at hu
    rcases hu with rfl | rfl <;> rfl
  have hN1 := hN.setCells [.int .i64 a, .int .i64 b] (i * 2) (by simp only [List.length_cons, List.length_nil]; omega)
  have hcp1 : ∀ ty dc, (Builtin.copy_ #[66, 66] ty #[.slice (some ⟨g2, i * 2, none⟩) (n + 1 - i) dc, .slice (some ⟨gv, 0, none⟩) 1 1]).run Try.prog W0 = .ok (goInt 1) (W0.setCells g2 (i * 2) [.int .i64 a, .int .i64 b]) := fun ty dc =>
    run_copyK W0 66 66 ty 70 2 g2 (i * 2) (n + 1 - i) dc ⟨gv, 0, none⟩ 1 1 _ Try.underlying66 size50 1 (by simp only [Nat.min_def]; split <;> omega) rfl
      (fun j v hj => by rw [add_at, Nat.zero_add, hN.r3.blk.cell]; exact hj)
      (fun j hj => by simp only [List.length_cons, List.length_nil] at hj; rw [hN.blk.cell, List.getElem?_eq_getElem (by omega)]; rfl) (fun j hj => hN.blk.free _) hone
  obtain ⟨W1, hW1⟩ : ∃ W1, W0.setCells g2 (i * 2) [.int .i64 a, .int .i64 b] = W1 := ⟨_, rfl⟩
  rw [hW1] at hcp1 hN1
  obtain ⟨c1, hc1⟩ : ∃ x, over cs.toList (i * 2) [.int .i64 a, .int .i64 b] = x := ⟨_, rfl⟩
  have hcl1 : c1.length = K * 2 := by rw [← hc1, over_len (by simp only [List.length_cons, List.length_nil]; omega), hcsl]
  rw [hc1] at hN1
  obtain ⟨d, hd⟩ : ∃ d, cur.drop (i * 2) = d := ⟨_, rfl⟩
  have hdl : d.length = (n - i) * 2 := by rw [← hd, List.length_drop, hxl, Nat.sub_mul]
  have hN2 := hN1.drew.setCells d ((i + 1) * 2) (by omega)
  have hcp2 : ∀ ty dc sc, (Builtin.copy_ #[66, 66] ty #[.slice (some ⟨g2, (i + 1) * 2, none⟩) (n - i) dc, .slice (some ⟨g, i * 2, none⟩) (n - i) sc]).run Try.prog W1.drew = .ok (goInt ((n - i : Nat) : Int)) (W1.drew.setCells g2 ((i + 1) * 2) d) := fun ty dc sc =>
    run_copyK W1.drew 66 66 ty 70 2 g2 ((i + 1) * 2) (n - i) dc ⟨g, i * 2, none⟩ (n - i) sc d Try.underlying66 size50 (n - i) (Nat.min_self _) hdl
      (fun j v hj => by
        rw [add_at]
        show W1.cell? _ = _
        rw [hN1.r2.blk.cell]
        rw [← hd, List.getElem?_drop] at hj
        exact hj)
      (fun j hj => by show (W1.cell? _).isSome = true; rw [hN1.blk.cell, List.getElem?_eq_getElem (by omega)]; rfl) (fun j hj => hN1.drew.blk.free _) (fun v hv => h1 v (by rw [← hd] at hv; exact List.mem_of_mem_drop hv))
  have HR : Hid (Sat w0 (W1.drew.setCells g2 ((i + 1) * 2) d) (Row 70 2 (some ⟨g2, 0, none⟩) (n + 1) K (cur.take (i * 2) ++ [.int .i64 a, .int .i64 b] ++ d) :: F)) := by
    refine (hN2.rowOf' hk1 hk2 (by rw [over_len (by omega)]; exact hcl1) ?_).r2.tail.r2.tail
    rw [← hc1, show (n + 1) * 2 = (i + 1) * 2 + d.length by omega, over_ins' cs.toList _ d (i * 2) ((i + 1) * 2) (by simp only [List.length_cons, List.length_nil]; omega) (by omega) (by omega), hcst]
  have HD := Lib.hid hd
  have hku : ((n : Int) + 1 - (i : Int)) = ((n + 1 - i : Nat) : Int) := by omega
  have HGR : Hid ((Builtin.append_ #[66, 3] 66 #[.slice (some ⟨g, 0, none⟩) i n, .int .i64 ((n : Int) + 1 - (i : Int))]).run Try.prog w = .ok (.slice (some ⟨g2, 0, none⟩) (n + 1) K) W0) := by show _ = _; rw [hku]; exact hgr
  have sw1 : IntKind.i64.wrap ((i : Int) + 1) = (i : Int) + 1 := IntWalk.i64_in _ (by omega)
  have htn : ((i : Int) + 1).toNat = i + 1 := by omega
  have hb5 : (0 : Int) ≤ (i : Int) + 1 := by omega
  have hz1 : ¬ ((i : Int) = (n : Int)) := by omega
  have hin : i ≤ n := by omega
  have hb2 : ¬ (K = i + 1) := by omega
  have hb4 : ¬ (K = i) := by omega
  have hb6 : ¬ (n = i) := by omega
  have hb3 : (i : Int) ≤ (n : Int) + 1 := by omega
  unfold maxLen at hk2
  clear hB hN hN1 hN2 hS hct hcl hcl1 hc1 h1 hd hdl hW1 hone hgr hku hold hol hcs hcsl hcst hW0 hK hxl hcm hg2
  go_enter Try.func46, Try.ntmps46
  go_wp2_with (at_builtin; refine wpList_append_run _ rfl _ _ 66 3 rfl _ _ rfl rfl HGR.out ?_)
  go_wp2_with (at_builtin; refine wpList_copy_run _ rfl _ _ 66 66 rfl _ _ rfl rfl (hcp1 _ _) ?_)
  go_region_law (refine step_copy_run rfl _ _ 66 66 rfl _ _ (by simp [Act.eval, Act.put]) (by simp [Act.eval, Act.put]) (hcp2 _ _ _) ?_)
  go_wp2_with fail
  go_ret
  rw [HD.out]
  exact ⟨_, _, rfl, HR.out⟩
/-- slices.Insert of one timer -/
theorem ins_any (a b : Int) (i : Nat) (hS : Sat w0 w (Row 70 2 A n c xs :: Blk gv 70 [.int .i64 a, .int .i64 b] :: F)) (hi : i ≤ n) (hn : n ≤ 200) (h1 : ∀ u ∈ xs, u.oneCell' = true) :
    Calls Try.prog 46 #[.slice A n c, .int .i64 i, .slice (some ⟨gv, 0, none⟩) 1 1] w (InsOut w0 F (n + 1) (xs.take (i * 2) ++ [.int .i64 a, .int .i64 b] ++ xs.drop (i * 2))) := by
  have hl := hS.rowLen
  have hc := hS.rowCap.1
  by_cases h : i = n
  · subst h
    rw [List.take_of_length_le (by omega), List.drop_eq_nil_of_le (by omega), List.append_nil]
    exact ins_end a b hS hn
  · by_cases h2 : n + 1 ≤ c
    · exact ins_room a b i hS (by omega) hn h2 h1
    · obtain rfl : c = n := by omega
      exact ins_grow a b i hS (by omega) hn h1
end
end Go.Proofs.Ytbgbpibfmdkndaa
