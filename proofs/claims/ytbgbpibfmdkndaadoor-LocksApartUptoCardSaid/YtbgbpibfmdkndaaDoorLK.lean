/- The program's Held and Drop. -/
import Derived.Test.YtbgbpibfmdkndaaDoorLJ
import Derived.Test.YtbgbpibfmdkndaaDoorShelf
import Derived.Maps.RangeWalk
set_option linter.unusedVariables false
set_option linter.unusedSimpArgs false
set_option linter.unnecessarySimpa false
set_option maxRecDepth 100000
namespace Go.Proofs.YtbgbpibfmdkndaaDoor
open Go.RowKit Go.ChangeShapes Go.WideShapes Go.ChangeAt
def Same0 (w : World) (i : Value) (wr : World) : Prop := i = .int .i64 1 ∧ wr = w
theorem sort44_nil (w : World) (cmp : Value) : Calls Tryd.prog 44 #[.slice none 0 0, .int .i64 0, .int .i64 0, cmp] w fun e w' => e = .returned (.tuple #[]) ∧ w' = w := by
  go_enter Tryd.func44, Tryd.ntmps44
  go_wp2_with fail
  go_loopw [8] (Same0 w) (fun _ _ => 0)
  case atStart => exact ⟨rfl, rfl⟩
  case round =>
    obtain ⟨rfl, rfl⟩ := hrel
    go_wp2_with fail
    go_end0
    exact ⟨rfl, rfl⟩
def Same1 (w : World) (x y : Value) (wr : World) : Prop := x = .int .i64 0 ∧ y = .int .i64 0 ∧ wr = w
theorem sort39_nil (w : World) (n : Int) (cmp : Value) : Calls Tryd.prog 39 #[.slice none 0 0, .int .i64 0, .int .i64 0, .int .i64 n, cmp] w fun e w' => e = .returned (.tuple #[]) ∧ w' = w := by
  have HC := Lib.hid (sort44_nil w cmp)
  go_enter Tryd.func39, Tryd.ntmps39
  go_wp2_with fail
  go_loopw [1, 2] (Same1 w) (fun _ _ _ => 0)
  case atStart => exact ⟨rfl, rfl, rfl⟩
  case round =>
    obtain ⟨rfl, rfl, rfl⟩ := hrel
    go_wp2_with fail
    refine HC.out.mono ?_
    rintro e w1 ⟨rfl, rfl⟩
    go_wp2_with fail
    (try simp only [Exit.inBlock, Exit.then]); refine bodyPost_ret (results_none rfl _ _ _) rfl ?_
    exact ⟨rfl, rfl⟩
theorem sort_nil (w : World) (cmp : Value) : Calls Tryd.prog 31 #[.slice none 0 0, cmp] w fun e w' => e = .returned (.tuple #[]) ∧ w' = w := by
  have HC := Lib.hid fun n => sort39_nil w n cmp
  have HB := Lib.hid (Tryd.bits_Len 0 w (by decide) (by decide))
  go_enter Tryd.func31, Tryd.ntmps31
  go_wp2_with fail
  refine HB.out.mono ?_
  rintro e w1 ⟨rfl, rfl⟩
  go_wp2_with fail
  refine (HC.out _).mono ?_
  rintro e w1 ⟨rfl, rfl⟩
  go_wp2_with fail
  go_end0
  exact ⟨rfl, rfl⟩
theorem wpList_mpRange {w0 w : World} {L : List HP} {b : Nat} {M : List Ent} {ops : Array Oper} {rest : List Oper} {o : Oper} {a : Act} {Q : Exit → Act → World → Prop}
    (hg : o.guard = none) (m : Operand) (hop : o.op = Op.range 48 m) (hm : a.eval m = .map (some b)) (hS : Sat w0 w (MapS b M :: L))
    (hK : ∀ w', Sat w0 w' (ItP w.heap.size b M M :: L) → wpList Tryd.prog ops Q rest (a.put o.dst (.pointer (some ⟨w.heap.size, 0, none⟩))) w') :
    wpList Tryd.prog ops Q (o :: rest) a w := by
  refine wpList_plain hg fun K' hK' => ?_
  obtain ⟨w', hrun, _, r1⟩ := hS.itNew
  unfold Oper.wp
  simp [execOp, hop, hm, hrun, Result.andThen]
  exact hK' _ _ (hK w' r1)
theorem wpList_mpNext {w0 w : World} {L : List HP} {r b : Nat} {M T : List Ent} {ops : Array Oper} {rest : List Oper} {o : Oper} {a : Act} {Q : Exit → Act → World → Prop}
    (hg : o.guard = none) (it : Operand) (hop : o.op = Op.next it false) (hit : a.eval it = .pointer (some ⟨r, 0, none⟩)) (hS : Sat w0 w (ItP r b M T :: L))
    (hDone : T = [] → wpList Tryd.prog ops Q rest (a.put o.dst (.tuple #[.bool false])) w)
    (hMore : ∀ (x : ByteArray) (v : Int) (T' : List Ent) (w' : World), T.Perm ((x, v) :: T') → (Instr.entry (.pointer (some ⟨r, 0, none⟩))).run Tryd.prog w' = .ok (.tuple #[.string x, .int .i64 v]) w' → Sat w0 w' (ItP r b M T' :: L) →
      wpList Tryd.prog ops Q rest (a.put o.dst (.tuple #[.bool true, .string x, .int .i64 v])) w') :
    wpList Tryd.prog ops Q (o :: rest) a w := by
  refine wpList_plain hg fun K' hK' => ?_
  unfold Oper.wp
  rcases hS.itNext o.type with ⟨h0, hrun⟩ | ⟨⟨x, v⟩, T', w', hp, hrun, hen, hS'⟩
  · simp [execOp, hop, hit, hrun, Result.andThen]
    exact hK' _ _ (hDone h0)
  · simp [execOp, hop, hit, hrun, Result.andThen]
    exact hK' _ _ (hMore x v T' w' hp hen hS')
theorem wpList_mpDel {w0 w : World} {L : List HP} {r b : Nat} {M T : List Ent} {ops : Array Oper} {rest : List Oper} {o : Oper} {a : Act} {Q : Exit → Act → World → Prop}
    (hg : o.guard = none) (m x : Operand) (hop : o.op = Op.call { callee := Callee.builtin Builtin.delete, args := #[m, x], argTypes := #[48, 9] })
    (hm : a.eval m = .map (some b)) {k : ByteArray} (hx : a.eval x = .string k) (hS : Sat w0 w (ItP r b M T :: L)) (hn : (M.map Prod.fst).Nodup) (hk : k ∉ T.map Prod.fst)
    (hK : ∀ w', Sat w0 w' (ItP r b (M.filter fun m => decide (m.1 ≠ k)) T :: L) → wpList Tryd.prog ops Q rest (a.put o.dst (.tuple #[])) w') :
    wpList Tryd.prog ops Q (o :: rest) a w := by
  refine wpList_plain hg fun K' hK' => ?_
  obtain ⟨w', hrun, r1⟩ := hS.itDel hn k hk o.type
  unfold Oper.wp
  simp [execOp, hop, resolve, invoke, builtin, hm, hx, hrun, Result.andThen]
  exact hK' _ _ (hK w' r1)
theorem heldE_snoc (done : List Ent) (x : ByteArray) (v inst : Int) : heldE (done ++ [(x, v)]) inst = if v = inst then heldE done inst ++ [x] else heldE done inst := by
  unfold heldE
  by_cases h : v = inst
  · simp [h]
  · simp [h]
section
variable {w w0 : World} {F : List HP} {tb : Nat} {D : List Ent}
def HeRel (w0 : World) (F : List HP) (tb mb r : Nat) (M : List Ent) (inst : Int) (out : Value) (wr : World) : Prop :=
  ∃ (done T : List Ent) (A2 : Option Addr) (n c2 : Nat), (done ++ T).Perm M ∧ out = .slice A2 n c2 ∧ (heldE done inst).length = n ∧ (n = 0 → A2 = none ∧ c2 = 0) ∧ Sat w0 wr (Row 9 1 A2 n c2 (strV (heldE done inst)) :: ItP r mb M T :: Blk tb 50 [.map (some mb)] :: F)
theorem done_len {done T M : List Ent} {inst : Int} (h : (done ++ T).Perm M) : (heldE done inst).length + T.length ≤ M.length := by
  have h1 := held_len done inst
  have h2 := h.length_eq
  rw [List.length_append] at h2
  omega
set_option maxHeartbeats 3200000 in
theorem held_any (hD : TabOk D) (hlen : D.length ≤ 4194304) (inst : Int) (hO : Old w0 ∈ F) (hT0 : Lib.Utf8Tabs 0 1 w0) (hS : Sat w0 w (TabP tb D :: F)) :
    Calls Tryd.prog 18 #[.pointer (some ⟨tb, 0, none⟩), .int .i64 inst] w fun e w' => ∃ (A2 : Option Addr) (c2 : Nat), e = .returned (.slice A2 (heldE D inst).length c2) ∧
      Sat w0 w' (Row 9 1 A2 (heldE D inst).length c2 (strV (heldE D inst)) :: TabP tb D :: F) := by
  obtain ⟨mb, M, hp, h1⟩ := hS.tabOpen
  have c0 := h1.blk.cell 0
  have HD := Lib.hid hD
  have HP := Lib.hid hp
  have HO := Lib.hid hO
  have HT0 := Lib.hid hT0
  have H1 := Lib.hid h1.r2
  have hml : M.length ≤ 4194304 := by rw [hp.length_eq]; exact hlen
  obtain ⟨i9, hi9, hz9, hs9, hb9⟩ := info_parts infoS
  have HI9 := Lib.hid hi9
  clear hS hp h1 hi9 hD hO hT0
  go_enter Tryd.func18, Tryd.ntmps18
  go_wp2_with (at_range; refine wpList_mpRange rfl _ rfl rfl H1.out ?_; intro w2 h2; have H2 := Lib.hid h2; clear h2)
  go_frame
  obtain ⟨r, hr⟩ : ∃ r, w.heap.size = r := ⟨_, rfl⟩
  rw [hr] at H2 ⊢
  clear hr H1 c0
  go_loopw [5] (HeRel w0 F tb mb r M inst) (fun _ wr => leftN wr r)
  case atStart => exact ⟨[], M, none, 0, 0, .refl _, rfl, rfl, fun _ => ⟨rfl, rfl⟩, H2.out.nilRow 9 1⟩
  case round =>
    obtain ⟨done, T, A2, n, c2, hdt, rfl, hn, hn0, hS⟩ := hrel
    clear H2
    have hle := done_len (inst := inst) hdt
    have HL := Lib.hid hS.r2.leftN
    have HDT := Lib.hid hdt
    have HN := Lib.hid hn
    have HN0 := Lib.hid hn0
    have HS := Lib.hid hS.r2
    rw [hn] at hle
    clear hdt hn hn0 hS
    go_wp2_with (at_next; refine wpList_mpNext rfl _ rfl rfl HS.out ?_ ?_)
    · intro h0
      subst h0
      have HH : Hid ((heldE done inst).Perm (heldE D inst)) := by
        have h := HDT.out
        rw [List.append_nil] at h
        exact ((h.trans HP.out).filter _).map Prod.fst
      have HSR := Lib.hid HS.out.itDone.r2
      clear HL HDT HS
      by_cases h0 : n = 0
      · obtain ⟨rfl, rfl⟩ := HN0.out h0
        subst h0
        have hz : heldE done inst = [] := List.eq_nil_of_length_eq_zero HN.out
        have HZ : Hid (heldE D inst = []) := by
          show _ = _
          have h := HH.out
          rw [hz] at h
          exact h.symm.eq_nil
        rw [hz] at HSR
        clear HN HN0 HH hz
        go_wp2_with fail
        refine (sort_nil _ _).mono ?_
        rintro e w3 ⟨rfl, rfl⟩
        go_wp2_with fail
        go_ret
        rw [HZ.out]
        exact ⟨none, 0, rfl, (Sat.tabClose HP.out HSR.out.r2.r3).r2⟩
      · obtain ⟨g, hA, _, _⟩ := HSR.out.rowCell (by intro e; have := congrArg List.length e; unfold strV at this; rw [List.length_map, HN.out] at this; simp at this; omega)
        subst hA
        have HC := Lib.hid (sort_names (w0 := w0) (w := wr) (g := g) (c := c2) (L := MapS mb M :: Blk tb 50 [.map (some mb)] :: F) (heldE done inst) (fun x hx => held_name HD.out inst x (HH.out.mem_iff.1 hx)) (by rw [HN.out]; omega) (by rw [HN.out]; omega) (by simp [HO.out]) HT0.out (by rw [HN.out]; exact HSR.out))
        rw [HN.out] at HC
        clear h0 HN0 HSR
        go_wp2_with fail
        refine HC.out.mono ?_
        rintro e w3 ⟨rfl, M', hm1, hm2, h3⟩
        have H3 := Lib.hid h3
        have HE := Lib.hid (held_sort HD.out inst HH.out hm1 hm2)
        clear hm1 hm2 h3 HC
        go_wp2_with fail
        go_ret
        have hl : (heldE D inst).length = n := by rw [← HH.out.length_eq, HN.out]
        rw [hl]
        have h := H3.out
        rw [HE.out] at h
        exact ⟨_, _, rfl, (Sat.tabClose HP.out h.r2.r3).r2⟩
    · intro x v T' w3 hperm hen h3
      have H3 := Lib.hid h3
      have hlt : T'.length < T.length := by rw [hperm.length_eq]; simp
      have HD2 : Hid ((done ++ [(x, v)] ++ T').Perm M) := by
        show List.Perm _ _
        rw [List.append_assoc]
        exact (List.Perm.append_left done hperm.symm).trans HDT.out
      have HL2 := Lib.hid h3.leftN
      have HSN := Lib.hid (heldE_snoc done x v inst)
      clear hperm h3 HS HDT
      by_cases hv : v = inst
      · have HSN2 : Hid (heldE (done ++ [(x, v)]) inst = heldE done inst ++ [x]) := by
          show _ = _
          rw [HSN.out, if_pos hv]
        have h4 := H3.out.new #[.string x] 9
        have HB := Lib.hid h4.r3
        have hbk : n + 1 ≤ maxLen ∧ (n + 1) * 16 ≤ 140737488355328 := by unfold maxLen; omega
        have HONE : Hid (∀ u ∈ (#[.string x] : Array Value).toList, u.oneCell' = true) := by
          show ∀ u ∈ _, _
          intro u hu
          simp at hu
          subst hu; rfl
        clear h4 HSN
        go_wp2_with (at_builtin; refine wpList_app1 rfl (.tmp 21) (.tmp 23) 27 rfl 9 i9 (.string ⟨#[]⟩) 1 16 Tryd.underlying27 HI9.out hz9 hs9 hb9 rfl (by decide) rfl HB.out.r2 rfl rfl HONE.out hbk.1 hbk.2 ?_; intro A3 c3 W8 hS8; have H8 := Lib.hid hS8; clear hS8)
        go_roundw
        case rel =>
          refine ⟨done ++ [(x, v)], T', A3, n + 1, c3, HD2.out, rfl, by rw [HSN2.out, List.length_append, HN.out]; rfl, fun h => by omega, ?_⟩
          rw [HSN2.out, strV_app]
          exact H8.out
        case measure => rw [HL.out, H8.out.r2.leftN]; exact hlt
      · have HSN2 : Hid (heldE (done ++ [(x, v)]) inst = heldE done inst) := by
          show _ = _
          rw [HSN.out, if_neg hv]
        clear HSN
        go_wp2_with fail
        go_roundw
        case rel => exact ⟨done ++ [(x, v)], T', A2, n, c2, HD2.out, rfl, by rw [HSN2.out, HN.out], HN0.out, by rw [HSN2.out]; exact H3.out.r2⟩
        case measure => rw [HL.out, HL2.out]; exact hlt
end
end Go.Proofs.YtbgbpibfmdkndaaDoor
