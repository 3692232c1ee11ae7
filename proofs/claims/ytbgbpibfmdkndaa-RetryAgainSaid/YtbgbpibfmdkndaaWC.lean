/- slices.Insert of one timer. -/
import Derived.Test.YtbgbpibfmdkndaaWB
set_option linter.unusedVariables false
set_option linter.unusedSimpArgs false
set_option linter.unnecessarySimpa false
set_option maxRecDepth 100000
namespace Go.Proofs.Ytbgbpibfmdkndaa
open Go.RowKit Go.ChangeShapes Go.WideShapes Go.ChangeAt
section
variable {P : Program}
theorem wp_append_run (w : World) {o : Oper} {a : Act} {K : Act → World → Prop} {Q : Exit → Act → World → Prop} (d s : Operand) (t t' : TypeId)
    (ho : o.op = .call { callee := .builtin .append, args := #[d, s], argTypes := #[t, t'] }) (v u : Value) (hd : a.eval d = v) (hs : a.eval s = u) {v' : Value} {w' : World}
    (hr : (Builtin.append_ #[t, t'] o.type #[v, u]).run P w = .ok v' w') (h : K (a.put o.dst v') w') : o.wp P a w K Q := by
  unfold Oper.wp execOp
  simp only [ho, resolve, invoke, builtin, Sem.run_bind, Sem.run_pure, Result.andThen_ok, List.map_toArray, List.map_cons, List.map_nil, hd, hs, hr]
  exact h
theorem wpList_append_run (w : World) {ops : Array Oper} {rest : List Oper} {o : Oper} {a : Act} {Q : Exit → Act → World → Prop} (hgd : o.guard = none) (d s : Operand) (t t' : TypeId)
    (ho : o.op = .call { callee := .builtin .append, args := #[d, s], argTypes := #[t, t'] }) (v u : Value) (hd : a.eval d = v) (hs : a.eval s = u) {v' : Value} {w' : World}
    (hr : (Builtin.append_ #[t, t'] o.type #[v, u]).run P w = .ok v' w') (h : wpList P ops Q rest (a.put o.dst v') w') : wpList P ops Q (o :: rest) a w :=
  wpList_plain hgd fun _ hK => wp_append_run w d s t t' ho v u hd hs hr (hK _ _ h)
end
/-- a timer put in between, written behind what was moved; and the other way round -/
theorem over_ins (cur p d : List Value) (a b : Nat) (hp : p.length = b - a) (hab : a ≤ b) (hd : b + d.length ≤ cur.length) : (over (over cur b d) a p).take (b + d.length) = cur.take a ++ p ++ d := by
  have h1 : (over cur b d).take a = cur.take a := take_over' (by omega) hab
  have h2 : (over cur b d).drop b = d ++ cur.drop (b + d.length) := by
    unfold over
    rw [List.append_assoc, List.drop_append_of_le_length (by simp only [List.length_take]; omega), List.drop_eq_nil_of_le (by simp only [List.length_take]; omega), List.nil_append]
  rw [show over (over cur b d) a p = (over cur b d).take a ++ p ++ (over cur b d).drop (a + p.length) from rfl, h1, show a + p.length = b by omega, h2]
  rw [← List.append_assoc, List.take_append_of_le_length (by simp only [List.length_append, List.length_take]; omega), List.take_of_length_le (by simp only [List.length_append, List.length_take]; omega)]
theorem over_ins' (cur p d : List Value) (a b : Nat) (hp : p.length = b - a) (hab : a ≤ b) (hd : b + d.length ≤ cur.length) : (over (over cur a p) b d).take (b + d.length) = cur.take a ++ p ++ d := by
  have hl := over_len (vs := cur) (us := p) (o := a) (by omega)
  rw [take_over (by omega) rfl, take_over (by omega) (by omega)]
section
variable {w0 w : World} {F : List HP} {n c g gv : Nat} {A : Option Addr} {xs : List Value}
theorem Sat.apart {g g' t t' : Nat} {vs us : List Value} (h : Sat w0 w (Blk g t vs :: Blk g' t' us :: F)) : g ≠ g' := by
  rintro rfl
  obtain ⟨h1, h2, l1, l2, d, a, h3, h4, l3, l4, d2, b, s⟩ := h.own
  rcases d g with e | e
  · rw [show h1 g = some _ from a] at e; cases e
  · have := l3 g _ b
    rw [e] at this; cases this
theorem size50' (w : World) : (Go.sizeOf 70).run Try.prog w = .ok 2 w := by kernel_rfl
def InsOut (w0 : World) (F : List HP) (n : Nat) (xs : List Value) (e : Ending) (w' : World) : Prop := ∃ A' c', e = .returned (.slice A' n c') ∧ Sat w0 w' (Row 70 2 A' n c' xs :: F)
set_option maxHeartbeats 3200000 in
theorem ins_end (a b : Int) (hS : Sat w0 w (Row 70 2 A n c xs :: Blk gv 70 [.int .i64 a, .int .i64 b] :: F)) (hn : n ≤ 200) :
    Calls Try.prog 46 #[.slice A n c, .int .i64 n, .slice (some ⟨gv, 0, none⟩) 1 1] w (InsOut w0 F (n + 1) (xs ++ [.int .i64 a, .int .i64 b])) := by
  obtain ⟨ii, hi, hz, hsz, hby⟩ := info_parts info50
  obtain ⟨h1, h2⟩ := hS.rowCap
  unfold maxLen at h2
  have h4 : n + 1 ≤ maxLen := by unfold maxLen; omega
  have h5 : (n + 1) * 16 ≤ 140737488355328 := by omega
  have hone : ∀ u ∈ [Value.int .i64 a, Value.int .i64 b], u.oneCell' = true := by
    intro u hu
    simp at hu
    rcases hu with rfl | rfl <;> rfl
  have HS := Lib.hid hS
  clear hS
  go_enter Try.func46, Try.ntmps46
  go_wp2_with (at_builtin; refine wpList_appS rfl (.tmp 23) (.tmp 24) 66 rfl 70 ii _ 2 16 Try.underlying66 hi hz hsz hby rfl (by decide) rfl HS.out rfl (HS.out.r2.rdBlk 1 2 rfl) hone h4 h5 ?_; intro A' c' w' hS2)
  all_goals
    go_ret
    exact ⟨A', c', rfl, hS2.r2.tail⟩
set_option maxHeartbeats 3200000 in
theorem ins_room (a b : Int) (i : Nat) (hS : Sat w0 w (Row 70 2 A n c xs :: Blk gv 70 [.int .i64 a, .int .i64 b] :: F)) (hi : i < n) (hn : n ≤ 200) (hc : n + 1 ≤ c) (h1 : ∀ u ∈ xs, u.oneCell' = true) :
    Calls Try.prog 46 #[.slice A n c, .int .i64 i, .slice (some ⟨gv, 0, none⟩) 1 1] w (InsOut w0 F (n + 1) (xs.take (i * 2) ++ [.int .i64 a, .int .i64 b] ++ xs.drop (i * 2))) := by
  have hxl := hS.rowLen
  obtain ⟨g, rfl⟩ : ∃ g, A = some ⟨g, 0, none⟩ := by
    obtain ⟨g, rfl, _⟩ := hS.rowCell (by rintro rfl; simp at hxl; omega)
    exact ⟨g, rfl⟩
  obtain ⟨cur, hnc, hcm, hcl, hct, hB⟩ := hS.rowBlk'
  unfold maxLen at hcm
  have hne : gv ≠ g := hB.apart.symm
  have hov : ∀ lb cb, (callFunc 55 #[.slice (some ⟨gv, 0, none⟩) 1 1, .slice (some ⟨g, (i + 1) * 2, none⟩) lb cb]).run Try.prog w = .ok (.value (.bool false)) w := fun lb cb => by
    rw [run_callFunc_extern Try.func55 (by kernel_rfl) (by kernel_rfl) (by kernel_rfl) (e := Extern.SlicesOverlaps.overlaps #[66, 66] #[4]) (by kernel_rfl),
      Lib.run_overlaps_apart w 66 4 70 Try.underlying66 2 size50' ⟨gv, 0, none⟩ ⟨g, (i + 1) * 2, none⟩ 1 1 lb cb hne 70 70 2 (c * 2) (by have := hB.r2.blk; unfold At at this; simp [World.shape?, this]) (by have := hB.blk; unfold At at this; simp [World.shape?, this, hcl]) (by omega) (hB.r2.blk.free _) (hB.r2.blk.free _)]
    rfl
  obtain ⟨d, hd⟩ : ∃ d, xs.drop (i * 2) = d := ⟨_, rfl⟩
  have hdl : d.length = (n - i) * 2 := by rw [← hd, List.length_drop, hxl, Nat.sub_mul]
  have hsrc : ∀ j v, d[j]? = some v → w.drew.cell? ((⟨g, i * 2, none⟩ : Addr).add j) = some v := by
    intro j u hu
    rw [add_at]
    show w.cell? _ = _
    rw [hB.blk.cell]
    rw [← hd, ← hct, List.getElem?_drop, List.getElem?_take] at hu
    split at hu
    · exact hu
    · cases hu
  have hB1 := hB.drew.setCells d ((i + 1) * 2) (by omega)
  have hcp1 : ∀ ty dc sc, (Builtin.copy_ #[66, 66] ty #[.slice (some ⟨g, (i + 1) * 2, none⟩) (n - i) dc, .slice (some ⟨g, i * 2, none⟩) (n + 1 - i) sc]).run Try.prog w.drew = .ok (goInt ((n - i : Nat) : Int)) (w.drew.setCells g ((i + 1) * 2) d) := fun ty dc sc =>
    run_copyK w.drew 66 66 ty 70 2 g ((i + 1) * 2) (n - i) dc ⟨g, i * 2, none⟩ (n + 1 - i) sc d Try.underlying66 size50 (n - i) (by simp only [Nat.min_def]; split <;> omega) hdl hsrc
      (fun j hj => by show (w.cell? _).isSome = true; rw [hB.blk.cell, List.getElem?_eq_getElem (by omega)]; rfl) (fun j hj => hB.drew.blk.free _) (fun v hv => h1 v (by rw [← hd] at hv; exact List.mem_of_mem_drop hv))
  obtain ⟨W1, hW1⟩ : ∃ W1, w.drew.setCells g ((i + 1) * 2) d = W1 := ⟨_, rfl⟩
  rw [hW1] at hcp1 hB1
  obtain ⟨cur1, hc1⟩ : ∃ x, over cur ((i + 1) * 2) d = x := ⟨_, rfl⟩
  have hcl1 : cur1.length = c * 2 := by rw [← hc1, over_len (by omega), hcl]
  rw [hc1] at hB1
  have hone : ∀ u ∈ [Value.int .i64 a, Value.int .i64 b], u.oneCell' = true := by
    intro u hu
    simp at hu
    rcases hu with rfl | rfl <;> rfl
  have hB2 := hB1.setCells [.int .i64 a, .int .i64 b] (i * 2) (by simp only [List.length_cons, List.length_nil]; omega)
  have hcp2 : ∀ ty dc, (Builtin.copy_ #[66, 66] ty #[.slice (some ⟨g, i * 2, none⟩) (n + 1 - i) dc, .slice (some ⟨gv, 0, none⟩) 1 1]).run Try.prog W1 = .ok (goInt 1) (W1.setCells g (i * 2) [.int .i64 a, .int .i64 b]) := fun ty dc =>
    run_copyK W1 66 66 ty 70 2 g (i * 2) (n + 1 - i) dc ⟨gv, 0, none⟩ 1 1 _ Try.underlying66 size50 1 (by simp only [Nat.min_def]; split <;> omega) rfl
      (fun j v hj => by rw [add_at, Nat.zero_add, hB1.r2.blk.cell]; exact hj)
      (fun j hj => by simp only [List.length_cons, List.length_nil] at hj; rw [hB1.blk.cell, List.getElem?_eq_getElem (by omega)]; rfl) (fun j hj => hB1.blk.free _) hone
  have HR : Hid (Sat w0 (W1.setCells g (i * 2) [.int .i64 a, .int .i64 b]) (Row 70 2 (some ⟨g, 0, none⟩) (n + 1) c (xs.take (i * 2) ++ [.int .i64 a, .int .i64 b] ++ d) :: F)) := by
    refine (hB2.rowOf' hc (by unfold maxLen; omega) (by rw [over_len (by simp only [List.length_cons, List.length_nil]; omega)]; exact hcl1) ?_).r2.tail
    rw [← hc1, show (n + 1) * 2 = (i + 1) * 2 + d.length by omega, over_ins cur _ d (i * 2) ((i + 1) * 2) (by simp only [List.length_cons, List.length_nil]; omega) (by omega) (by omega), ← hct, List.take_take, Nat.min_eq_left (by omega)]
  have HD := Lib.hid hd
  have sw1 : IntKind.i64.wrap ((i : Int) + 1) = (i : Int) + 1 := IntWalk.i64_in _ (by omega)
  have htn : ((i : Int) + 1).toNat = i + 1 := by omega
  have hb5 : (0 : Int) ≤ (i : Int) + 1 := by omega
  have hz1 : ¬ ((i : Int) = (n : Int)) := by omega
  have hin : i ≤ n := by omega
  have hb2 : ¬ (c = i + 1) := by omega
  have hb4 : ¬ (c = i) := by omega
  have hb3 : (i : Int) ≤ (n : Int) + 1 := by omega
  clear hB hB1 hB2 hS hsrc hct hcl hcl1 hc1 h1 hd hdl hxl hW1 hone
  go_enter Try.func46, Try.ntmps46
  go_wp2_with (simp only [hov])
  go_region_law (refine step_copy_run rfl _ _ 66 66 rfl _ _ (by simp [Act.eval, Act.put]) (by simp [Act.eval, Act.put]) (hcp1 _ _ _) ?_)
  go_wp2_with (at_builtin; refine wpList_copy_run _ rfl _ _ 66 66 rfl _ _ rfl rfl (hcp2 _ _) ?_)
  go_ret
  rw [HD.out]
  exact ⟨_, _, rfl, HR.out⟩
end
end Go.Proofs.Ytbgbpibfmdkndaa
