/- The document's table: New, Holder, Held, Drop. -/
import Derived.Test.YtbgbpibfmdkndaaDoorLL
set_option linter.unusedVariables false
set_option linter.unusedSimpArgs false
set_option linter.unnecessarySimpa false
set_option maxRecDepth 100000
namespace Go.Proofs.YtbgbpibfmdkndaaDoor
open Go.RowKit Go.ChangeShapes Go.WideShapes Go.ChangeAt
theorem str_no {a b : ByteArray} (h : ¬ a = b) : (a.toList == b.toList) = false := by
  rw [beq_eq_false_iff_ne, ByteArray.toList_eq, ByteArray.toList_eq]
  intro e
  exact h (ByteArray.ext (Array.ext' e))
theorem str_yes {a b : ByteArray} (h : a = b) : (a.toList == b.toList) = true := by rw [h]; exact beq_self_eq_true _
theorem infoL : (Tryd.prog.info? 56).map (fun i => (i.zero, i.size, i.bytes)) = some (some (.agg #[.string ⟨#[]⟩, .int .i64 0]), 2, 24) := by kernel_rfl
def lockV (m : Ent) : List Value := [.string m.1, .int .i64 m.2]
def lockC (D : List Ent) : List Value := D.flatMap lockV
theorem lockC_len : ∀ D : List Ent, (lockC D).length = D.length * 2
  | [] => rfl
  | m :: D => by
    have ih := lockC_len D
    unfold lockC at ih ⊢
    rw [List.flatMap_cons, List.length_append, ih, List.length_cons]
    show 2 + _ = _
    omega
theorem lockC_app (D E : List Ent) : lockC (D ++ E) = lockC D ++ lockC E := by unfold lockC; rw [List.flatMap_append]
theorem lockC_get : ∀ (D : List Ent) (j : Nat) (m : Ent), D[j]? = some m → (lockC D)[j * 2]? = some (.string m.1) ∧ (lockC D)[j * 2 + 1]? = some (.int .i64 m.2)
  | [], j, m, h => by simp at h
  | a :: D, 0, m, h => by
    obtain rfl : a = m := by simpa using h
    exact ⟨rfl, rfl⟩
  | a :: D, j + 1, m, h => by
    have ih := lockC_get D j m (by simpa using h)
    have e : lockC (a :: D) = .string a.1 :: .int .i64 a.2 :: lockC D := rfl
    rw [e, show (j + 1) * 2 = (j * 2 + 1) + 1 by omega]
    simp only [List.getElem?_cons_succ]
    exact ih
theorem lockC_one (D : List Ent) : ∀ u ∈ lockC D, u.oneCell' = true := by
  intro u hu
  unfold lockC at hu
  rw [List.mem_flatMap] at hu
  obtain ⟨m, _, hu⟩ := hu
  simp [lockV] at hu
  rcases hu with rfl | rfl <;> rfl
/-- the document's table -/
def DocT (xb : Nat) (D : List Ent) : HP := ex fun x : Option Addr × Nat => sep [Blk xb 53 [.slice x.1 D.length x.2], Row 56 2 x.1 D.length x.2 (lockC D)]
section
variable {w w0 : World} {F : List HP} {xb : Nat} {D : List Ent}
theorem Sat.dtOpen (h : Sat w0 w (DocT xb D :: F)) : ∃ (A : Option Addr) (c : Nat), Sat w0 w (Blk xb 53 [.slice A D.length c] :: Row 56 2 A D.length c (lockC D) :: F) := by
  obtain ⟨⟨A, c⟩, h2⟩ := h.open_ex
  exact ⟨A, c, h2.open_⟩
theorem Sat.dtClose {A : Option Addr} {c : Nat} (h : Sat w0 w (Blk xb 53 [.slice A D.length c] :: Row 56 2 A D.length c (lockC D) :: F)) : Sat w0 w (DocT xb D :: F) :=
  Sat.close_ex (α := Option Addr × Nat) ⟨A, c⟩ h.close2
theorem rnew_any (hS : Sat w0 w F) : Calls Tryd.prog 25 #[] w fun e w' => ∃ xb : Nat, e = .returned (.pointer (some ⟨xb, 0, none⟩)) ∧ Sat w0 w' (DocT xb [] :: F) := by
  obtain ⟨b, hb⟩ : ∃ b, w.heap.size = b := ⟨_, rfl⟩
  have h1 := (hS.new #[.slice none 0 0] 53).nilRow 56 2
  rw [hb] at h1
  have H1 := Lib.hid h1
  clear h1 hS
  go_enter Tryd.func25, Tryd.ntmps25
  go_wp2_with fail
  try simp only [hb]
  go_ret
  exact ⟨b, rfl, Sat.dtClose (A := none) (c := 0) H1.out.r2⟩
theorem val_at {D : List Ent} {k : ByteArray} {j : Nat} {m : Ent} (hm : D[j]? = some m) (hk : m.1 = k) (ha : ∀ i y, i < j → D[i]? = some y → y.1 ≠ k) : valE D k = m.2 := by
  unfold valE
  rw [find_at hm (by simp [hk]) fun i y hi hy => by have := ha i y hi hy; simp; exact fun e => this e.symm]
theorem val_no {D : List Ent} {k : ByteArray} (ha : ∀ i y, i < D.length → D[i]? = some y → y.1 ≠ k) : valE D k = 0 := by
  unfold valE
  rw [find_no fun i y hi hy => by have := ha i y hi hy; simp; exact fun e => this e.symm]
def HoRel (w : World) (D : List Ent) (k : ByteArray) (i : Value) (wr : World) : Prop := ∃ j : Nat, j ≤ D.length ∧ i = .int .i64 j ∧ wr = w ∧ ∀ i y, i < j → D[i]? = some y → y.1 ≠ k
set_option maxHeartbeats 1600000 in
theorem rholder_any (hlen : D.length ≤ 4194304) (k : ByteArray) (hS : Sat w0 w (DocT xb D :: F)) : Calls Tryd.prog 17 #[.pointer (some ⟨xb, 0, none⟩), .string k] w fun e w' => e = .returned (.int .i64 (valE D k)) ∧ w' = w := by
  obtain ⟨A, c, h1⟩ := hS.dtOpen
  have c0 := h1.blk.cell 0
  have H1 := Lib.hid h1.r2
  obtain ⟨n, hn⟩ : ∃ n, D.length = n := ⟨_, rfl⟩
  have HN := Lib.hid hn
  rw [hn] at c0 H1 hlen
  clear hS h1 hn
  go_enter Tryd.func17, Tryd.ntmps17
  go_wp2_with fail
  go_loopw [5] (HoRel w D k) (fun i _ => n - (intOf i).toNat)
  case atStart => exact ⟨0, Nat.zero_le _, rfl, rfl, fun j x hj => absurd hj (Nat.not_lt_zero _)⟩
  case round =>
    obtain ⟨j, hj, rfl, rfl, ha⟩ := hrel
    rw [HN.out] at hj
    have HA := Lib.hid ha
    clear ha
    by_cases hlt : j < n
    · obtain ⟨m, hm⟩ : ∃ m, D[j]? = some m := ⟨_, List.getElem?_eq_getElem (by rw [HN.out]; exact hlt)⟩
      obtain ⟨g0, g1⟩ := lockC_get D j m hm
      obtain ⟨g, rfl, _, _⟩ := H1.out.rowCell (by intro e; rw [e] at g0; simp at g0)
      have x0 := (H1.out.rowAt g0).1
      have x1 := (H1.out.rowAt g1).1
      have HM := Lib.hid hm
      clear g0 g1 hm
      obtain ⟨a, v⟩ := m
      by_cases hk : a = k
      · subst hk
        have HV : Hid (valE D a = v) := val_at HM.out rfl HA.out
        go_wp2_with fail
        go_ret
        exact ⟨by rw [HV.out]; rfl, rfl⟩
      · have hne : (a.toList == k.toList) = false := str_no hk
        have HA2 : Hid (∀ i y, i < j + 1 → D[i]? = some y → y.1 ≠ k) := fun i y hi hy => by
          by_cases hij : i < j
          · exact HA.out i y hij hy
          · obtain rfl : i = j := by omega
            rw [HM.out] at hy
            injection hy with hy
            subst hy
            exact hk
        clear hk
        go_wp2_with fail
        go_roundw
        case rel => exact ⟨j + 1, by rw [HN.out]; omega, by go_num, rfl, HA2.out⟩
        case measure => simp [intOf]; omega
    · obtain rfl : j = n := by omega
      have HV : Hid (valE D k = 0) := val_no fun i y hi hy => HA.out i y (by rw [← HN.out]; exact hi) hy
      clear hlt
      go_wp2_with fail
      go_ret
      exact ⟨by rw [HV.out]; rfl, rfl⟩
theorem take_snoc {α : Type} {l : List α} {j : Nat} {x : α} (h : l[j]? = some x) : l.take (j + 1) = l.take j ++ [x] := by
  obtain ⟨h1, h2⟩ := List.getElem?_eq_some_iff.1 h
  rw [List.take_succ_eq_append_getElem h1, h2]
def RhRel (w0 : World) (F : List HP) (D : List Ent) (inst : Int) (out i : Value) (wr : World) : Prop :=
  ∃ (j n : Nat) (A2 : Option Addr) (c2 : Nat), j ≤ D.length ∧ i = .int .i64 j ∧ out = .slice A2 n c2 ∧ (heldE (D.take j) inst).length = n ∧ n ≤ j ∧ Sat w0 wr (Row 9 1 A2 n c2 (strV (heldE (D.take j) inst)) :: F)
set_option maxHeartbeats 1600000 in
theorem rheld_any (hlen : D.length ≤ 4194304) (inst : Int) (hS : Sat w0 w (DocT xb D :: F)) :
    Calls Tryd.prog 19 #[.pointer (some ⟨xb, 0, none⟩), .int .i64 inst] w fun e w' => ∃ (A2 : Option Addr) (c2 : Nat), e = .returned (.slice A2 (heldE D inst).length c2) ∧
      Sat w0 w' (Row 9 1 A2 (heldE D inst).length c2 (strV (heldE D inst)) :: DocT xb D :: F) := by
  obtain ⟨A, c, h1⟩ := hS.dtOpen
  have H1 := Lib.hid (h1.nilRow 9 1)
  obtain ⟨n, hn⟩ : ∃ n, D.length = n := ⟨_, rfl⟩
  have HN := Lib.hid hn
  rw [hn] at H1 hlen
  obtain ⟨i9, hi9, hz9, hs9, hb9⟩ := info_parts infoS
  have HI9 := Lib.hid hi9
  clear hS h1 hn hi9
  go_enter Tryd.func19, Tryd.ntmps19
  go_wp2_with fail
  go_loopw [5, 6] (RhRel w0 (Blk xb 53 [.slice A n c] :: Row 56 2 A n c (lockC D) :: F) D inst) (fun _ i _ => n - (intOf i).toNat)
  case atStart => exact ⟨0, 0, none, 0, Nat.zero_le _, rfl, rfl, rfl, Nat.le_refl _, H1.out⟩
  case round =>
    obtain ⟨j, q, A2, c2, hj, rfl, rfl, hq, hqj, hS⟩ := hrel
    rw [HN.out] at hj
    clear H1
    have HQ := Lib.hid hq
    have HS := Lib.hid hS
    have x0 := hS.r2.blk.cell 0
    clear hq
    by_cases hlt : j < n
    · obtain ⟨m, hm⟩ : ∃ m, D[j]? = some m := ⟨_, List.getElem?_eq_getElem (by rw [HN.out]; exact hlt)⟩
      obtain ⟨g0, g1⟩ := lockC_get D j m hm
      obtain ⟨g, rfl, _, _⟩ := hS.r3.rowCell (by intro e; rw [e] at g0; simp at g0)
      have x1 := (hS.r3.rowAt g0).1
      have x2 := (hS.r3.rowAt g1).1
      obtain ⟨a, v⟩ := m
      have HSN : Hid (heldE (D.take (j + 1)) inst = if v = inst then heldE (D.take j) inst ++ [a] else heldE (D.take j) inst) := by
        show _ = _
        rw [take_snoc hm]
        have h := heldE_snoc (D.take j) a v inst
        exact h
      clear g0 g1 hm hS
      by_cases hv : v = inst
      · have HSN2 : Hid (heldE (D.take (j + 1)) inst = heldE (D.take j) inst ++ [a]) := by
          show _ = _
          rw [HSN.out, if_pos hv]
        have HB := Lib.hid (HS.out.new #[.string a] 9)
        have hbk : q + 1 ≤ maxLen ∧ (q + 1) * 16 ≤ 140737488355328 := by unfold maxLen; omega
        have HONE : Hid (∀ u ∈ (#[.string a] : Array Value).toList, u.oneCell' = true) := by
          show ∀ u ∈ _, _
          intro u hu
          simp at hu
          subst hu; rfl
        clear HSN
        go_wp2_with (at_builtin; refine wpList_app1 rfl (.tmp 26) (.tmp 35) 27 rfl 9 i9 (.string ⟨#[]⟩) 1 16 Tryd.underlying27 HI9.out hz9 hs9 hb9 rfl (by decide) rfl HB.out rfl rfl HONE.out hbk.1 hbk.2 ?_; intro A3 c3 W8 hS8; have H8 := Lib.hid hS8; clear hS8)
        go_roundw
        case rel =>
          refine ⟨j + 1, q + 1, A3, c3, by rw [HN.out]; omega, by go_num, rfl, by rw [HSN2.out, List.length_append, HQ.out]; rfl, by omega, ?_⟩
          rw [HSN2.out, strV_app]
          exact H8.out
        case measure => simp [intOf]; omega
      · have HSN2 : Hid (heldE (D.take (j + 1)) inst = heldE (D.take j) inst) := by
          show _ = _
          rw [HSN.out, if_neg hv]
        clear HSN
        go_wp2_with fail
        go_roundw
        case rel => exact ⟨j + 1, q, A2, c2, by rw [HN.out]; omega, by go_num, rfl, by rw [HSN2.out, HQ.out], by omega, by rw [HSN2.out]; exact HS.out⟩
        case measure => simp [intOf]; omega
    · obtain rfl : j = n := by omega
      have e : D.take j = D := List.take_of_length_le (by rw [HN.out]; exact Nat.le_refl _)
      have HE := Lib.hid e
      clear hS hlt e
      go_wp2_with fail
      go_ret
      have h := HS.out
      have hq := HQ.out
      rw [HE.out] at h hq
      rw [hq]
      refine ⟨A2, c2, rfl, ?_⟩
      have h2 := h.b3
      rw [← HN.out] at h2
      exact (Sat.dtClose h2).r2
theorem run_bs51 (w : World) (v0 v1 : Value) : (Instr.buildSlice 51 1 #[(0, .agg #[v0, v1])]).run Tryd.prog w = .ok (.slice (some ⟨w.heap.size, 0, none⟩) 1 1) (w.alloc (.cells #[v0, v1] 56)) := by
  kernel_rfl
theorem wp_bs51 {w : World} {o : Oper} {a : Act} {K : Act → World → Prop} {Q : Exit → Act → World → Prop} (t : Tmp) (ho : o.op = .buildSlice 51 1 #[(0, .tmp t)]) (v0 v1 : Value)
    (hv : a.eval (.tmp t) = .agg #[v0, v1]) (h : K (a.put o.dst (.slice (some ⟨w.heap.size, 0, none⟩) 1 1)) (w.alloc (.cells #[v0, v1] 56))) : o.wp Tryd.prog a w K Q := by
  unfold Oper.wp execOp
  have := run_bs51 w v0 v1
  simp only [ho, resolve, Sem.run_bind, Sem.run_pure, Result.andThen_ok, List.map_toArray, List.map_cons, List.map_nil, hv, this]
  exact h
theorem wpList_bs51 {w : World} {ops : Array Oper} {rest : List Oper} {o : Oper} {a : Act} {Q : Exit → Act → World → Prop} (hgd : o.guard = none) (t : Tmp) (ho : o.op = .buildSlice 51 1 #[(0, .tmp t)]) (v0 v1 : Value)
    (hv : a.eval (.tmp t) = .agg #[v0, v1]) (h : wpList Tryd.prog ops Q rest (a.put o.dst (.slice (some ⟨w.heap.size, 0, none⟩) 1 1)) (w.alloc (.cells #[v0, v1] 56))) : wpList Tryd.prog ops Q (o :: rest) a w :=
  wpList_plain hgd fun _ hK => wp_bs51 t ho v0 v1 hv (hK _ _ h)
def RdRel (w0 : World) (F : List HP) (D : List Ent) (inst : Int) (out i : Value) (wr : World) : Prop :=
  ∃ (j n : Nat) (A2 : Option Addr) (c2 : Nat), j ≤ D.length ∧ i = .int .i64 j ∧ out = .slice A2 n c2 ∧ (dropE (D.take j) inst).length = n ∧ n ≤ j ∧ Sat w0 wr (Row 56 2 A2 n c2 (lockC (dropE (D.take j) inst)) :: F)
set_option maxHeartbeats 1600000 in
theorem rdrop_any (hlen : D.length ≤ 4194304) (inst : Int) (hS : Sat w0 w (DocT xb D :: F)) :
    Calls Tryd.prog 15 #[.pointer (some ⟨xb, 0, none⟩), .int .i64 inst] w fun e w' => e = .returned (.int .i64 (heldE D inst).length) ∧ Sat w0 w' (DocT xb (dropE D inst) :: F) := by
  obtain ⟨A, c, h1⟩ := hS.dtOpen
  have H1 := Lib.hid (h1.nilRow 56 2)
  have HDL := Lib.hid (drop_len D inst)
  obtain ⟨n, hn⟩ : ∃ n, D.length = n := ⟨_, rfl⟩
  have HN := Lib.hid hn
  rw [hn] at H1 hlen HDL
  obtain ⟨i56, hi56, hz56, hs56, hb56⟩ := info_parts infoL
  have HI56 := Lib.hid hi56
  clear hS h1 hn hi56
  go_enter Tryd.func15, Tryd.ntmps15
  go_wp2_with fail
  go_loopw [5, 6] (RdRel w0 (Blk xb 53 [.slice A n c] :: Row 56 2 A n c (lockC D) :: F) D inst) (fun _ i _ => n - (intOf i).toNat)
  case atStart => exact ⟨0, 0, none, 0, Nat.zero_le _, rfl, rfl, rfl, Nat.le_refl _, H1.out⟩
  case round =>
    obtain ⟨j, q, A2, c2, hj, rfl, rfl, hq, hqj, hS⟩ := hrel
    rw [HN.out] at hj
    clear H1
    have HQ := Lib.hid hq
    have HS := Lib.hid hS
    have x0 := hS.r2.blk.cell 0
    clear hq
    by_cases hlt : j < n
    · obtain ⟨m, hm⟩ : ∃ m, D[j]? = some m := ⟨_, List.getElem?_eq_getElem (by rw [HN.out]; exact hlt)⟩
      obtain ⟨g0, g1⟩ := lockC_get D j m hm
      obtain ⟨g, rfl, _, _⟩ := hS.r3.rowCell (by intro e; rw [e] at g0; simp at g0)
      have x1 := (hS.r3.rowAt g0).1
      have x2 := (hS.r3.rowAt g1).1
      obtain ⟨a, v⟩ := m
      have HSN : Hid (dropE (D.take (j + 1)) inst = if v = inst then dropE (D.take j) inst else dropE (D.take j) inst ++ [(a, v)]) := by
        show _ = _
        rw [take_snoc hm]
        exact dropE_snoc (D.take j) a v inst
      clear g0 g1 hm hS
      by_cases hv : v = inst
      · have HSN2 : Hid (dropE (D.take (j + 1)) inst = dropE (D.take j) inst) := by
          show _ = _
          rw [HSN.out, if_pos hv]
        clear HSN
        go_wp2_with fail
        go_roundw
        case rel => exact ⟨j + 1, q, A2, c2, by rw [HN.out]; omega, by go_num, rfl, by rw [HSN2.out, HQ.out], by omega, by rw [HSN2.out]; exact HS.out⟩
        case measure => simp [intOf]; omega
      · have HSN2 : Hid (dropE (D.take (j + 1)) inst = dropE (D.take j) inst ++ [(a, v)]) := by
          show _ = _
          rw [HSN.out, if_neg hv]
        have HB := Lib.hid (HS.out.new #[.string a, .int .i64 v] 56)
        have hbk : q + 1 ≤ maxLen ∧ (q + 1) * 24 ≤ 140737488355328 := by unfold maxLen; omega
        have HONE : Hid (∀ u ∈ (#[.string a, .int .i64 v] : Array Value).toList, u.oneCell' = true) := lockC_one [(a, v)]
        clear HSN
        go_wp2_with (first
          | (refine wpList_bs51 rfl 34 rfl (.string a) (.int .i64 v) rfl ?_)
          | (at_builtin; refine wpList_app1 rfl (.tmp 27) (.tmp 35) 51 rfl 56 i56 (.agg #[.string ⟨#[]⟩, .int .i64 0]) 2 24 Tryd.underlying51 HI56.out hz56 hs56 hb56 rfl (by decide) rfl HB.out rfl rfl HONE.out hbk.1 hbk.2 ?_; intro A3 c3 W8 hS8; have H8 := Lib.hid hS8; clear hS8))
        go_roundw
        case rel =>
          refine ⟨j + 1, q + 1, A3, c3, by rw [HN.out]; omega, by go_num, rfl, by rw [HSN2.out, List.length_append, HQ.out]; rfl, by omega, ?_⟩
          rw [HSN2.out, lockC_app]
          exact H8.out
        case measure => simp [intOf]; omega
    · obtain rfl : j = n := by omega
      have e : D.take j = D := List.take_of_length_le (by rw [HN.out]; exact Nat.le_refl _)
      have hq2 := HQ.out
      rw [e] at hq2 hS
      have qf := hS.r2.blk.free 0
      have HX := Lib.hid ((hS.r2.set 0 (.slice A2 q c2)).r3.tail)
      have hdl := HDL.out
      rw [hq2] at hdl
      have HH : Hid ((heldE D inst).length = j - q) := by show _ = _; omega
      have HQ2 := Lib.hid hq2
      clear hS hlt e hq2 hdl HDL
      go_wp2_with fail
      go_ret
      refine ⟨by rw [HH.out, show ((j - q : Nat) : Int) = (j : Int) - (q : Int) by omega]; rfl, ?_⟩
      have h := HX.out
      have e := HQ2.out
      subst e
      exact Sat.dtClose h
end
end Go.Proofs.YtbgbpibfmdkndaaDoor
