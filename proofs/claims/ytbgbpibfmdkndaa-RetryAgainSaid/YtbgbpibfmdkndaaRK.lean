/- The program's Retry: Begin, Moved, Stop. -/
import Derived.Test.YtbgbpibfmdkndaaRI
set_option linter.unusedVariables false
set_option linter.unusedSimpArgs false
set_option linter.unnecessarySimpa false
set_option maxRecDepth 100000
namespace Go.Proofs.Ytbgbpibfmdkndaa
open Go.RowKit Go.ChangeShapes Go.WideShapes Go.ChangeAt
section
variable {w w0 : World} {F : List HP} {t : List Int} {dl : Int} {r : Nat} {L K : List Tm} {M : List Ent} {y : RP}
theorem open_look (h : Sat w0 w (Open F r t dl y L K M)) (k : Int) (ok : Bool) :
    (Instr.lookup 53 (.map (some y.mb)) (.int .i64 k) ok).run Try.prog w = .ok (if ok then .tuple #[.int .i64 (valE M k), .bool (hasE M k)] else .int .i64 (valE M k)) w := Sat.mpLook h.r6 k ok
set_option maxHeartbeats 3200000 in
theorem begin_bad {id now : Int} (hb : ¬ (hasE M id = false ∧ (1 ≤ id ∧ id ≤ 60) ∧ tickB now = true)) (hS : Sat w0 w (RetP r t dl L K M :: F)) :
    Calls Try.prog 15 #[.pointer (some ⟨r, 0, none⟩), .int .i64 id, .int .i64 now] w fun e w' => e = .returned (.int .i64 1) ∧ Sat w0 w' (RetP r t dl L K M :: F) := by
  obtain ⟨y, h⟩ := hS.rpOpen
  obtain ⟨c0, c1, c2, c3, c4, c5⟩ := open_cells h
  have hl := open_look h id true
  have HC := Lib.hid (tick_any (now := now) (w := w))
  have HS := Lib.hid hS
  obtain ⟨ag, lt, mb, tb, yA, yc⟩ := y
  simp only at c0 c1 c2 c3 c4 c5 hl
  cases hh : hasE M id with
  | true =>
    rw [hh] at hl
    clear hS h hb hh
    go_enter Try.func15, Try.ntmps15
    go_wp2_with fail
    go_ret
    exact ⟨rfl, HS.out⟩
  | false =>
    rw [hh] at hl
    by_cases h1 : id < 1
    · have t1 : decide (id < 1) = true := decide_eq_true h1
      clear hS h hb hh
      go_enter Try.func15, Try.ntmps15
      go_wp2_with fail
      go_ret
      exact ⟨rfl, HS.out⟩
    · have t1 : decide (id < 1) = false := decide_eq_false h1
      by_cases h2 : 60 < id
      · have t2 : decide (60 < id) = true := decide_eq_true h2
        clear hS h hb hh
        go_enter Try.func15, Try.ntmps15
        go_wp2_with fail
        go_ret
        exact ⟨rfl, HS.out⟩
      · have t2 : decide (60 < id) = false := decide_eq_false h2
        have htk : tickB now = false := by
          cases ht : tickB now with
          | false => rfl
          | true => exact absurd ⟨hh, ⟨by omega, by omega⟩, ht⟩ hb
        rw [htk] at HC
        clear hS h hb hh htk
        go_enter Try.func15, Try.ntmps15
        go_wp2_with fail
        refine HC.out.mono ?_
        rintro e w1 ⟨rfl, rfl⟩
        go_wp2_with fail
        go_ret
        exact ⟨rfl, HS.out⟩
set_option maxHeartbeats 3200000 in
theorem begin_ok {id now : Int} (hh : hasE M id = false) (hid : 1 ≤ id ∧ id ≤ 60) (ht : 0 ≤ now ∧ now ≤ 1073741824) (hm : mayB t = true) (hdl : 1 ≤ dl ∧ dl ≤ 1073741824) (hL : L.length ≤ 200) (hK : K.length ≤ 200)
    (hn : (M.map Prod.fst).Nodup) (hS : Sat w0 w (RetP r t dl L K M :: F)) :
    Calls Try.prog 15 #[.pointer (some ⟨r, 0, none⟩), .int .i64 id, .int .i64 now] w fun e w' => e = .returned (.int .i64 0) ∧
      Sat w0 w' (RetP r t dl (setL L id (laterV now (delayV t 0))) (setL K id (laterV now dl)) (putE M id 0) :: F) := by
  have HSENT := Lib.hid (sent_any (id := id) (tries := 0) (now := now) hm hL hn (Int.le_refl _) ht hS)
  have HC29 : Hid (∀ W, Calls Try.prog 29 #[.int .i64 now, .int .i64 dl] W fun e w' => e = .returned (.int .i64 (laterV now dl)) ∧ w' = W) := fun W => later_any ht ⟨by omega, by omega⟩
  obtain ⟨L', hL'⟩ : ∃ x, setL L id (laterV now (delayV t 0)) = x := ⟨_, rfl⟩
  obtain ⟨M', hM'⟩ : ∃ x, putE M id 0 = x := ⟨_, rfl⟩
  rw [hL', hM'] at HSENT ⊢
  have HC34 : Hid (∀ W y, Sat w0 W (Open F r t dl y L' K M') → Calls Try.prog 34 #[.pointer (some ⟨y.lt, 0, none⟩), .int .i64 id, .int .i64 (laterV now dl)] W fun e w' => ∃ v, e = .returned (.int .i64 v) ∧ Sat w0 w' (Open F r t dl y L' (setL K id (laterV now dl)) M')) := fun W y h => by
    refine (open_setLate hK h id _).mono ?_
    rintro e w' ⟨rfl, h2⟩
    exact ⟨_, rfl, h2⟩
  obtain ⟨p, hp⟩ : ∃ p, laterV now dl = p := ⟨_, rfl⟩
  rw [hp] at HC29 HC34 ⊢
  obtain ⟨y, h⟩ := hS.rpOpen
  obtain ⟨c0, c1, c2, c3, c4, c5⟩ := open_cells h
  have hl := open_look h id true
  rw [hh] at hl
  have htk : tickB now = true := decide_eq_true ht
  have HC := Lib.hid (tick_any (now := now) (w := w))
  rw [htk] at HC
  have t1 : decide (id < 1) = false := decide_eq_false (by omega)
  have t2 : decide (60 < id) = false := decide_eq_false (by omega)
  have HCELL : Hid (∀ W y Q N R, Sat w0 W (Open F r t dl y Q R N) → W.cell? ⟨r, 4, none⟩ = some (.pointer (some ⟨y.lt, 0, none⟩)) ∧ W.cell? ⟨r, 1, none⟩ = some (.func (.func 29) #[] #[]) ∧ W.cell? ⟨r, 2, none⟩ = some (.int .i64 dl)) := fun W y Q N R h => by
    obtain ⟨_, a, b, _, d, _⟩ := open_cells h
    exact ⟨d, a, b⟩
  obtain ⟨ag, lt, mb, tb, yA, yc⟩ := y
  simp only at c0 c1 c2 c3 c4 c5 hl
  clear hS h hh hid ht hm hdl hL hK hn hL' hM' hp htk
  go_enter Try.func15, Try.ntmps15
  go_wp2_with fail
  refine HC.out.mono ?_
  rintro e w1 ⟨rfl, rfl⟩
  go_wp2_with fail
  refine HSENT.out.mono ?_
  rintro e w2 ⟨rfl, h2⟩
  obtain ⟨⟨ag, lt, mb, tb, yA, yc⟩, h3⟩ := h2.rpOpen
  obtain ⟨x4, x1, x2⟩ := HCELL.out w2 _ _ _ _ h3
  simp only at x4 x1 x2
  clear c0 c1 c2 c3 c4 c5 hl HSENT h2
  have hS := h3
  have HS3 := Lib.hid h3
  clear h3
  go_wp2_with fail
  go_region_held3 (fun w' => w'.cell? ⟨r, 4, none⟩ = some (.pointer (some ⟨lt, 0, none⟩)) ∧ w'.cell? ⟨r, 1, none⟩ = some (.func (.func 29) #[] #[]) ∧ w'.cell? ⟨r, 2, none⟩ = some (.int .i64 dl))
    (first | exact ⟨x4, x1, x2⟩ | exact ⟨y4, y1, y2⟩)
    (first
      | (go_at_call 29; refine (HC29.out _).mono ?_; rintro e w7 ⟨rfl, rfl⟩)
      | (go_at_call 34; refine (HC34.out _ _ hS.drew).mono ?_; rintro e w7 ⟨v7, rfl, h7⟩; obtain ⟨y4, y1, y2⟩ := HCELL.out w7 _ _ _ _ h7))
  all_goals
    have H7 := Lib.hid h7
    clear h7 hS x4 x1 x2 y4 y1 y2
    go_wp2_with fail
    go_ret
    exact ⟨rfl, Sat.rpClose H7.out⟩
set_option maxHeartbeats 3200000 in
theorem moved_bad {id now : Int} (hb : ¬ (hasE M id = true ∧ tickB now = true)) (hS : Sat w0 w (RetP r t dl L K M :: F)) :
    Calls Try.prog 18 #[.pointer (some ⟨r, 0, none⟩), .int .i64 id, .int .i64 now] w fun e w' => e = .returned (.int .i64 1) ∧ Sat w0 w' (RetP r t dl L K M :: F) := by
  obtain ⟨y, h⟩ := hS.rpOpen
  obtain ⟨c0, c1, c2, c3, c4, c5⟩ := open_cells h
  have hl := open_look h id true
  have HC := Lib.hid (tick_any (now := now) (w := w))
  have HS := Lib.hid hS
  obtain ⟨ag, lt, mb, tb, yA, yc⟩ := y
  simp only at c0 c1 c2 c3 c4 c5 hl
  cases hh : hasE M id with
  | false =>
    rw [hh] at hl
    clear hS h hb hh
    go_enter Try.func18, Try.ntmps18
    go_wp2_with fail
    go_ret
    exact ⟨rfl, HS.out⟩
  | true =>
    rw [hh] at hl
    have htk : tickB now = false := by
      cases ht : tickB now with
      | false => rfl
      | true => exact absurd ⟨hh, ht⟩ hb
    rw [htk] at HC
    clear hS h hb hh htk
    go_enter Try.func18, Try.ntmps18
    go_wp2_with fail
    refine HC.out.mono ?_
    rintro e w1 ⟨rfl, rfl⟩
    go_wp2_with fail
    go_ret
    exact ⟨rfl, HS.out⟩
set_option maxHeartbeats 3200000 in
theorem moved_ok {id now : Int} (hh : hasE M id = true) (ht : 0 ≤ now ∧ now ≤ 1073741824) (hm : mayB t = true) (hL : L.length ≤ 200)
    (hn : (M.map Prod.fst).Nodup) (hS : Sat w0 w (RetP r t dl L K M :: F)) :
    Calls Try.prog 18 #[.pointer (some ⟨r, 0, none⟩), .int .i64 id, .int .i64 now] w fun e w' => e = .returned (.int .i64 0) ∧
      Sat w0 w' (RetP r t dl (setL L id (laterV now (delayV t 0))) K (putE M id 0) :: F) := by
  have HSENT := Lib.hid (sent_any (id := id) (tries := 0) (now := now) hm hL hn (Int.le_refl _) ht hS)
  obtain ⟨L', hL'⟩ : ∃ x, setL L id (laterV now (delayV t 0)) = x := ⟨_, rfl⟩
  obtain ⟨M', hM'⟩ : ∃ x, putE M id 0 = x := ⟨_, rfl⟩
  rw [hL', hM'] at HSENT ⊢
  obtain ⟨y, h⟩ := hS.rpOpen
  obtain ⟨c0, c1, c2, c3, c4, c5⟩ := open_cells h
  have hl := open_look h id true
  rw [hh] at hl
  have htk : tickB now = true := decide_eq_true ht
  have HC := Lib.hid (tick_any (now := now) (w := w))
  rw [htk] at HC
  obtain ⟨ag, lt, mb, tb, yA, yc⟩ := y
  simp only at c0 c1 c2 c3 c4 c5 hl
  clear hS h hh ht hm hL hn hL' hM' htk
  go_enter Try.func18, Try.ntmps18
  go_wp2_with fail
  refine HC.out.mono ?_
  rintro e w1 ⟨rfl, rfl⟩
  go_wp2_with fail
  refine HSENT.out.mono ?_
  rintro e w2 ⟨rfl, h2⟩
  have H2 := Lib.hid h2
  clear c0 c1 c2 c3 c4 c5 hl HSENT h2
  go_wp2_with fail
  go_ret
  exact ⟨rfl, H2.out⟩
set_option maxHeartbeats 3200000 in
theorem stop_bad {id : Int} (hh : hasE M id = false) (hS : Sat w0 w (RetP r t dl L K M :: F)) :
    Calls Try.prog 19 #[.pointer (some ⟨r, 0, none⟩), .int .i64 id] w fun e w' => e = .returned (.int .i64 1) ∧ Sat w0 w' (RetP r t dl L K M :: F) := by
  obtain ⟨y, h⟩ := hS.rpOpen
  obtain ⟨c0, c1, c2, c3, c4, c5⟩ := open_cells h
  have hl := open_look h id true
  have HS := Lib.hid hS
  obtain ⟨ag, lt, mb, tb, yA, yc⟩ := y
  simp only at c0 c1 c2 c3 c4 c5 hl
  rw [hh] at hl
  clear hS h hh
  go_enter Try.func19, Try.ntmps19
  go_wp2_with fail
  go_ret
  exact ⟨rfl, HS.out⟩
set_option maxHeartbeats 3200000 in
theorem stop_ok {id : Int} (hh : hasE M id = true) (hL : L.length ≤ 200) (hK : K.length ≤ 200) (hn : (M.map Prod.fst).Nodup) (hS : Sat w0 w (RetP r t dl L K M :: F)) :
    Calls Try.prog 19 #[.pointer (some ⟨r, 0, none⟩), .int .i64 id] w fun e w' => e = .returned (.int .i64 0) ∧ Sat w0 w' (RetP r t dl (stopL L id) (stopL K id) (M.filter fun m => decide (m.1 ≠ id)) :: F) := by
  obtain ⟨y, h⟩ := hS.rpOpen
  obtain ⟨c0, c1, c2, c3, c4, c5⟩ := open_cells h
  have hl := open_look h id true
  rw [hh] at hl
  have HN := Lib.hid hn
  have HD := Lib.hid h.r6
  have HA : Hid (∀ W N Q, Sat w0 W (Open F r t dl y L Q N) → Calls Try.prog 37 #[.pointer (some ⟨y.ag, 0, none⟩), .int .i64 id] W fun e w' => ∃ v, e = .returned (.bool v) ∧ Sat w0 w' (Open F r t dl y (stopL L id) Q N)) := fun W N Q h => by
    refine (wstop_any id h.r4 (by omega)).mono ?_
    rintro e w' ⟨rfl, h2⟩
    exact ⟨_, rfl, h2.b4⟩
  have HB : Hid (∀ W N Q, Sat w0 W (Open F r t dl y Q K N) → Calls Try.prog 37 #[.pointer (some ⟨y.lt, 0, none⟩), .int .i64 id] W fun e w' => ∃ v, e = .returned (.bool v) ∧ Sat w0 w' (Open F r t dl y Q (stopL K id) N)) := fun W N Q h => by
    refine (wstop_any id h.r5 (by omega)).mono ?_
    rintro e w' ⟨rfl, h2⟩
    exact ⟨_, rfl, h2.b5⟩
  obtain ⟨M', hM'⟩ : ∃ x, (M.filter fun m => decide (m.1 ≠ id)) = x := ⟨_, rfl⟩
  have HM' := Lib.hid hM'
  rw [hM']
  obtain ⟨ag, lt, mb, tb, yA, yc⟩ := y
  simp only at c0 c1 c2 c3 c4 c5 hl HA HB HD
  clear hS h hh hn hM' hL hK
  go_enter Try.func19, Try.ntmps19
  go_wp2_with (at_delete; refine wpList_mpDel rfl _ _ rfl rfl rfl HD.out HN.out ?_; intro w5 h5; rw [HM'.out] at h5; have H5 : Hid (Sat w0 w5 (Open F r t dl ⟨ag, lt, mb, tb, yA, yc⟩ L K M')) := h5.perm (List.perm_middle (l₁ := [_, _, _, _, _])).symm; clear h5; obtain ⟨c0, c1, c2, c3, c4, c5⟩ := open_cells H5.out)
  try simp only at c0 c1 c2 c3 c4 c5
  refine (HA.out _ _ _ H5.out).mono ?_
  rintro e w6 ⟨v6, rfl, h6⟩
  obtain ⟨c0, c1, c2, c3, c4, c5⟩ := open_cells h6
  simp only at c0 c1 c2 c3 c4 c5
  have H6 := Lib.hid h6
  clear h6 H5 HD
  go_wp2_with fail
  refine (HB.out _ _ _ H6.out).mono ?_
  rintro e w7 ⟨v7, rfl, h7⟩
  have H7 := Lib.hid h7
  clear h7 H6
  go_wp2_with fail
  go_ret
  exact ⟨rfl, Sat.rpClose H7.out⟩
end
end Go.Proofs.Ytbgbpibfmdkndaa
