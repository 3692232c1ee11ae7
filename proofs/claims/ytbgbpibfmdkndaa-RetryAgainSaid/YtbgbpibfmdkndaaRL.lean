/- The program's Retry: Due. -/
import Derived.Test.YtbgbpibfmdkndaaRK
set_option linter.unusedVariables false
set_option linter.unusedSimpArgs false
set_option linter.unnecessarySimpa false
set_option maxRecDepth 100000
namespace Go.Proofs.Ytbgbpibfmdkndaa
open Go.RowKit Go.ChangeShapes Go.WideShapes Go.ChangeAt
theorem Sat.swapB {w0 w : World} {L M : List HP} (h : Sat w0 w (L ++ M)) : Sat w0 w (M ++ L) := h.perm List.perm_append_comm
def dueIds (L : List Tm) (now : Int) : List Int := (L.take (dueN L now)).map (·.1)
theorem ids_nums (L : List Tm) : ids L = nums (L.map (·.1)) := by unfold ids nums; rw [List.map_map]; rfl
/-- one of those that are due is sent again -/
def again1 (t : List Int) (now : Int) (s : List Tm × List Ent) (id : Int) : List Tm × List Ent := (setL s.1 id (laterV now (delayV t (valE s.2 id + 1))), putE s.2 id (valE s.2 id + 1))
def againS (t : List Int) (now : Int) (l : List Int) (s : List Tm × List Ent) : List Tm × List Ent := l.foldl (again1 t now) s
theorem setL_len (L : List Tm) (id a : Int) : (setL L id a).length ≤ L.length + 1 := by
  unfold setL
  split
  · split
    · omega
    · have h := stop_len L id
      rw [put_len, h]
      split <;> omega
  · omega
theorem put_nodup {M : List Ent} (h : (M.map Prod.fst).Nodup) (k v : Int) : ((putE M k v).map Prod.fst).Nodup := by
  unfold putE
  split
  · have e : (M.map fun m => if m.1 = k then (m.1, v) else m).map Prod.fst = M.map Prod.fst := by
      rw [List.map_map]
      refine List.map_congr_left fun m _ => ?_
      show (if m.1 = k then (m.1, v) else m).1 = m.1
      split <;> rfl
    rw [e]
    exact h
  · rename_i hh
    have hk : k ∉ M.map Prod.fst := hasE_not (by simpa using hh)
    rw [List.map_append, List.nodup_append]
    refine ⟨h, by simp, fun a ha b hb => ?_⟩
    simp at hb
    subst hb
    exact fun e => hk (e ▸ ha)
def InE (M : List Ent) (N : Int) : Prop := ∀ m ∈ M, 0 ≤ m.2 ∧ m.2 ≤ N
theorem val_in {M : List Ent} {N : Int} (h : InE M N) (hN : 0 ≤ N) (k : Int) : 0 ≤ valE M k ∧ valE M k ≤ N := by
  unfold valE
  cases hf : M.find? (fun m => decide (k = m.1)) with
  | none => exact ⟨Int.le_refl _, hN⟩
  | some m => exact h m (List.mem_of_find?_eq_some hf)
theorem put_in {M : List Ent} {N v : Int} (h : InE M N) (h0 : 0 ≤ v) (hv : v ≤ N + 1) (k : Int) : InE (putE M k v) (N + 1) := by
  intro m hm
  unfold putE at hm
  split at hm
  · obtain ⟨x, hx, e⟩ := List.mem_map.1 hm
    have := h x hx
    split at e
    · rw [← e]; exact ⟨h0, hv⟩
    · rw [← e]; exact ⟨this.1, by omega⟩
  · rcases List.mem_append.1 hm with hm | hm
    · have := h m hm; exact ⟨this.1, by omega⟩
    · simp at hm
      rw [hm]
      exact ⟨h0, hv⟩
theorem again_ok {t : List Int} {now N : Int} (hN : 0 ≤ N) : ∀ (l : List Int) (s : List Tm × List Ent), (s.2.map Prod.fst).Nodup → InE s.2 N →
    (againS t now l s).1.length ≤ s.1.length + l.length ∧ ((againS t now l s).2.map Prod.fst).Nodup ∧ InE (againS t now l s).2 (N + l.length)
  | [], s, h1, h2 => ⟨Nat.le_refl _, h1, fun m hm => by have := h2 m hm; exact ⟨this.1, by simpa using this.2⟩⟩
  | id :: l, s, h1, h2 => by
    have hv := val_in h2 hN id
    have hl := setL_len s.1 id (laterV now (delayV t (valE s.2 id + 1)))
    obtain ⟨a, b, c⟩ := again_ok (t := t) (now := now) (N := N + 1) (by omega) l (again1 t now s id) (put_nodup h1 _ _) (put_in h2 (by omega) (by omega) _)
    have e : againS t now (id :: l) s = againS t now l (again1 t now s id) := rfl
    rw [e]
    refine ⟨?_, b, ?_⟩
    · have : (again1 t now s id).1.length ≤ s.1.length + 1 := hl
      rw [List.length_cons]; omega
    · have e2 : N + 1 + (l.length : Int) = N + ((id :: l).length : Nat) := by rw [List.length_cons]; omega
      rw [← e2]; exact c
theorem again_take {t : List Int} {now : Int} {l : List Int} {s : List Tm × List Ent} {k : Nat} {x : Int} (h : l[k]? = some x) : againS t now (l.take (k + 1)) s = again1 t now (againS t now (l.take k) s) x := by
  obtain ⟨hk, e⟩ := List.getElem?_eq_some_iff.1 h
  unfold againS
  rw [List.take_succ_eq_append_getElem hk, List.foldl_append, e]
  rfl
def DpRel (w0 : World) (F G : List HP) (r : Nat) (t : List Int) (dl now : Int) (K : List Tm) (ag : List Int) (s : List Tm × List Ent) (n : Nat) (i : Value) (wr : World) : Prop :=
  ∃ k : Nat, k ≤ n ∧ i = .int .i64 k ∧ Sat w0 wr (RetP r t dl (againS t now (ag.take k) s).1 K (againS t now (ag.take k) s).2 :: (G ++ F))
section
variable {w w0 : World} {F : List HP} {t : List Int} {dl : Int} {r : Nat} {L K : List Tm} {M : List Ent} {y : RP}
theorem open_dueA {now : Int} (hL : L.length ≤ 1000000) {G : List HP} (h : Sat w0 w (G ++ Open F r t dl y L K M)) :
    Calls Try.prog 35 #[.pointer (some ⟨y.ag, 0, none⟩), .int .i64 now] w fun e w' => ∃ A' c', e = .returned (.slice A' (dueN L now) c') ∧ Sat w0 w' (Row 3 1 A' (dueN L now) c' (nums (dueIds L now)) :: (G ++ Open F r t dl y (L.drop (dueN L now)) K M)) := by
  have h1 : Sat w0 w (WheelC y.ag 68 70 L :: ((G ++ [_, _, _]) ++ (WheelC y.lt 68 70 K :: MapS y.mb M :: F))) := Sat.perm (L := (G ++ [_, _, _]) ++ WheelC y.ag 68 70 L :: (WheelC y.lt 68 70 K :: MapS y.mb M :: F)) (by rw [List.append_assoc]; exact h) List.perm_middle
  refine (wdue_any now h1 hL).mono ?_
  rintro e w' ⟨A', c', rfl, h2⟩
  refine ⟨A', c', rfl, ?_⟩
  rw [ids_nums] at h2
  have h3 := h2.perm (List.Perm.cons _ (List.perm_middle (l₁ := G ++ [_, _, _])).symm)
  rw [List.append_assoc] at h3
  exact h3
theorem open_dueB {now : Int} (hK : K.length ≤ 1000000) {G : List HP} (h : Sat w0 w (G ++ Open F r t dl y L K M)) :
    Calls Try.prog 35 #[.pointer (some ⟨y.lt, 0, none⟩), .int .i64 now] w fun e w' => ∃ A' c', e = .returned (.slice A' (dueN K now) c') ∧ Sat w0 w' (Row 3 1 A' (dueN K now) c' (nums (dueIds K now)) :: (G ++ Open F r t dl y L (K.drop (dueN K now)) M)) := by
  have h1 : Sat w0 w (WheelC y.lt 68 70 K :: ((G ++ [_, _, _, _]) ++ (MapS y.mb M :: F))) := Sat.perm (L := (G ++ [_, _, _, _]) ++ WheelC y.lt 68 70 K :: (MapS y.mb M :: F)) (by rw [List.append_assoc]; exact h) List.perm_middle
  refine (wdue_any now h1 hK).mono ?_
  rintro e w' ⟨A', c', rfl, h2⟩
  refine ⟨A', c', rfl, ?_⟩
  rw [ids_nums] at h2
  have h3 := h2.perm (List.Perm.cons _ (List.perm_middle (l₁ := G ++ [_, _, _, _])).symm)
  rw [List.append_assoc] at h3
  exact h3
theorem due_len (L : List Tm) (now : Int) : (dueIds L now).length = dueN L now := by
  unfold dueIds
  rw [List.length_map, List.length_take]
  have := first_le L (isLate now)
  show min (firstN L (isLate now)) L.length = firstN L (isLate now)
  omega
set_option maxHeartbeats 3200000 in
theorem due_bad {now : Int} (ht : tickB now = false) (hS : Sat w0 w F) : Calls Try.prog 16 #[.pointer (some ⟨r, 0, none⟩), .int .i64 now] w fun e w' => e = .returned (.tuple #[.slice none 0 0, .slice none 0 0]) ∧ Sat w0 w' F := by
  have HC := Lib.hid (tick_any (now := now) (w := w))
  rw [ht] at HC
  go_enter Try.func16, Try.ntmps16
  go_wp2_with fail
  refine HC.out.mono ?_
  rintro e w1 ⟨rfl, rfl⟩
  go_wp2_with fail
  go_ret2
  exact ⟨rfl, hS⟩
set_option maxHeartbeats 6400000 in
theorem due_ok {now N : Int} (ht : 0 ≤ now ∧ now ≤ 1073741824) (hm : mayB t = true) (hL : L.length ≤ 100) (hK : K.length ≤ 100) (hn : (M.map Prod.fst).Nodup) (hN : 0 ≤ N ∧ N ≤ 4611686018427387904) (hM : InE M N) (hS : Sat w0 w (RetP r t dl L K M :: F)) :
    Calls Try.prog 16 #[.pointer (some ⟨r, 0, none⟩), .int .i64 now] w fun e w' => ∃ A1 c1 A2 c2, e = .returned (.tuple #[.slice A1 (dueN L now) c1, .slice A2 (dueN K now) c2]) ∧
      Sat w0 w' (Row 3 1 A1 (dueN L now) c1 (nums (sortI (dueIds L now))) :: Row 3 1 A2 (dueN K now) c2 (nums (sortI (dueIds K now))) ::
        RetP r t dl (againS t now (sortI (dueIds L now)) (L.drop (dueN L now), M)).1 (K.drop (dueN K now)) (againS t now (sortI (dueIds L now)) (L.drop (dueN L now), M)).2 :: F) := by
  have HC := Lib.hid (tick_any (now := now) (w := w))
  have htk : tickB now = true := decide_eq_true ht
  rw [htk] at HC
  obtain ⟨y, h⟩ := hS.rpOpen
  have HA : Hid (∀ W Q G, Sat w0 W (G ++ Open F r t dl y L Q M) → Calls Try.prog 35 #[.pointer (some ⟨y.ag, 0, none⟩), .int .i64 now] W fun e w' => ∃ A' c', e = .returned (.slice A' (dueN L now) c') ∧ Sat w0 w' (Row 3 1 A' (dueN L now) c' (nums (dueIds L now)) :: (G ++ Open F r t dl y (L.drop (dueN L now)) Q M))) := fun W Q G h => open_dueA (by omega) h
  have HB : Hid (∀ W Q G, Sat w0 W (G ++ Open F r t dl y Q K M) → Calls Try.prog 35 #[.pointer (some ⟨y.lt, 0, none⟩), .int .i64 now] W fun e w' => ∃ A' c', e = .returned (.slice A' (dueN K now) c') ∧ Sat w0 w' (Row 3 1 A' (dueN K now) c' (nums (dueIds K now)) :: (G ++ Open F r t dl y Q (K.drop (dueN K now)) M))) := fun W Q G h => open_dueB (by omega) h
  have HCELL : Hid (∀ W X Q R, Sat w0 W (X :: Open F r t dl y Q R M) → W.cell? ⟨r, 3, none⟩ = some (.pointer (some ⟨y.ag, 0, none⟩)) ∧ W.cell? ⟨r, 4, none⟩ = some (.pointer (some ⟨y.lt, 0, none⟩))) := fun W X Q R h => by
    have h1 := h.r2
    exact ⟨h1.blk.cell 3, h1.blk.cell 4⟩
  have HCELL2 : Hid (∀ W X Y Q R, Sat w0 W (X :: Y :: Open F r t dl y Q R M) → W.cell? ⟨r, 3, none⟩ = some (.pointer (some ⟨y.ag, 0, none⟩)) ∧ W.cell? ⟨r, 4, none⟩ = some (.pointer (some ⟨y.lt, 0, none⟩))) := fun W X Y Q R h => by
    have h1 := h.r3
    exact ⟨h1.blk.cell 3, h1.blk.cell 4⟩
  have hal := due_len L now
  have hbl := due_len K now
  have hfl := first_le L (isLate now)
  have hfk := first_le K (isLate now)
  have hd1 : dueN L now ≤ L.length := hfl
  have hd2 : dueN K now ≤ K.length := hfk
  have hld : (L.drop (dueN L now)).length = L.length - dueN L now := List.length_drop
  have hsl := sortI_len (dueIds L now)
  have hsk := sortI_len (dueIds K now)
  obtain ⟨L1, hL1⟩ : ∃ x, L.drop (dueN L now) = x := ⟨_, rfl⟩
  obtain ⟨K1, hK1⟩ : ∃ x, K.drop (dueN K now) = x := ⟨_, rfl⟩
  obtain ⟨ia, hia⟩ : ∃ x, dueIds L now = x := ⟨_, rfl⟩
  obtain ⟨ib, hib⟩ : ∃ x, dueIds K now = x := ⟨_, rfl⟩
  obtain ⟨na, hna⟩ : ∃ x, dueN L now = x := ⟨_, rfl⟩
  obtain ⟨nb, hnb⟩ : ∃ x, dueN K now = x := ⟨_, rfl⟩
  rw [hL1] at HA hld ⊢
  rw [hK1] at HB ⊢
  rw [hia] at HA hal hsl ⊢
  rw [hib] at HB hbl hsk ⊢
  rw [hna] at HA hal hd1 hld ⊢
  rw [hnb] at HB hbl hd2 ⊢
  have HSA : Hid (∀ W G A c, Sat w0 W (Row 3 1 A na c (nums ia) :: G) → Calls Try.prog 36 #[.slice A na c] W fun e w' => e = .returned (.tuple #[]) ∧ Sat w0 w' (Row 3 1 A na c (nums (sortI ia)) :: G)) := fun W G A c h => by
    have h2 := sort_row (L := ia) (A := A) (c := c) (F := G) (w := W) (w0 := w0) (by omega) (by rw [hal]; exact h)
    rw [hal] at h2
    exact h2
  have HSB : Hid (∀ W G A c, Sat w0 W (Row 3 1 A nb c (nums ib) :: G) → Calls Try.prog 36 #[.slice A nb c] W fun e w' => e = .returned (.tuple #[]) ∧ Sat w0 w' (Row 3 1 A nb c (nums (sortI ib)) :: G)) := fun W G A c h => by
    have h2 := sort_row (L := ib) (A := A) (c := c) (F := G) (w := W) (w0 := w0) (by omega) (by rw [hbl]; exact h)
    rw [hbl] at h2
    exact h2
  obtain ⟨ag, hag⟩ : ∃ x, sortI ia = x := ⟨_, rfl⟩
  obtain ⟨lt, hlt⟩ : ∃ x, sortI ib = x := ⟨_, rfl⟩
  rw [hag] at HSA hsl ⊢
  rw [hlt] at HSB hsk ⊢
  have hagl : ag.length = na := by omega
  have HAGL := Lib.hid hagl
  have HAGN : Hid (∀ k, k ≤ na → (againS t now (ag.take k) (L1, M)).1.length ≤ 200 ∧ ((againS t now (ag.take k) (L1, M)).2.map Prod.fst).Nodup ∧ InE (againS t now (ag.take k) (L1, M)).2 (N + 100)) := fun k hk => by
    obtain ⟨a, b, c⟩ := again_ok (t := t) (now := now) hN.1 (ag.take k) (L1, M) hn hM
    have hkl : (ag.take k).length = k := by rw [List.length_take]; omega
    rw [hkl] at a c
    refine ⟨?_, b, fun m hm => ?_⟩
    · have a2 : (againS t now (ag.take k) (L1, M)).1.length ≤ L1.length + k := a
      omega
    · have := c m hm
      exact ⟨this.1, by omega⟩
  have HSENT : Hid (∀ W s G id tr, s.1.length ≤ 200 → ((s : List Tm × List Ent).2.map Prod.fst).Nodup → 0 ≤ tr → Sat w0 W (RetP r t dl s.1 K1 s.2 :: G) → Calls Try.prog 33 #[.pointer (some ⟨r, 0, none⟩), .int .i64 id, .int .i64 tr, .int .i64 now] W fun e w' => e = .returned (.tuple #[]) ∧ Sat w0 w' (RetP r t dl (setL s.1 id (laterV now (delayV t tr))) K1 (putE s.2 id tr) :: G)) := fun W s G id tr h1 h2 h3 h4 => sent_any hm h1 h2 h3 ht h4
  have hna1 : na ≤ 100 := by omega
  have HS0 := Lib.hid h
  obtain ⟨c0, c1, c2, c3, c4, c5⟩ := open_cells h
  obtain ⟨yag, ylt, ymb, ytb, yA, yc⟩ := y
  simp only at c0 c1 c2 c3 c4 c5 HA HB HCELL HCELL2
  have hS := h
  clear h htk hm hL hK hn hM hal hbl hfl hfk hd1 hd2 hld hsl hsk hL1 hK1 hia hib hna hnb hag hlt hagl ht
  go_enter Try.func16, Try.ntmps16
  go_wp2_with fail
  refine HC.out.mono ?_
  rintro e w1 ⟨rfl, rfl⟩
  go_wp2_with fail
  go_region_held3 (fun w' => w'.cell? ⟨r, 3, none⟩ = some (.pointer (some ⟨yag, 0, none⟩)) ∧ w'.cell? ⟨r, 4, none⟩ = some (.pointer (some ⟨ylt, 0, none⟩)))
    (first | exact ⟨c3, c4⟩ | exact ⟨x3, x4⟩ | exact ⟨z3, z4⟩)
    (first
      | (go_at_call 35; with_reducible refine (HA.out _ _ [] hS.drew).mono ?_; rintro e w5 ⟨A1, k1, rfl, h5⟩; obtain ⟨x3, x4⟩ := HCELL.out w5 _ _ _ h5)
      | (go_at_call 35; with_reducible refine (HB.out _ _ [_] h5).mono ?_; rintro e w6 ⟨A2, k2, rfl, h6⟩; obtain ⟨z3, z4⟩ := HCELL2.out w6 _ _ _ _ h6)
      | (go_at_call 35; with_reducible refine (HB.out _ _ [] hS.drew).mono ?_; rintro e w5 ⟨A2, k2, rfl, h5⟩; obtain ⟨x3, x4⟩ := HCELL.out w5 _ _ _ h5)
      | (go_at_call 35; with_reducible refine (HA.out _ _ [_] h5).mono ?_; rintro e w6 ⟨A1, k1, rfl, h6'⟩; have h6 := h6'.r2; obtain ⟨z3, z4⟩ := HCELL2.out w6 _ _ _ _ h6))
  all_goals
    have h7 : Sat w0 w6 (Open (Row 3 1 A1 na k1 (nums ia) :: Row 3 1 A2 nb k2 (nums ib) :: F) r t dl ⟨yag, ylt, ymb, ytb, yA, yc⟩ L1 K1 M) := h6.r2.perm ((List.perm_append_comm (l₁ := [_, _]) (l₂ := [_, _, _, _, _, _])).append_right F)
    have H7 := Lib.hid (Sat.rpClose h7)
    clear h5 h6 h7 hS c0 c1 c2 c3 c4 c5 x3 x4 z3 z4 HA HB HCELL HCELL2 HS0
    as_aux_lemma =>
      go_wp2_with fail
      refine (HSA.out _ _ _ _ H7.out.r2).mono ?_
      rintro e w8 ⟨rfl, h8⟩
      have H8 := Lib.hid h8.r3
      clear h8 H7
      go_wp2_with fail
      refine (HSB.out _ _ _ _ H8.out).mono ?_
      rintro e w9 ⟨rfl, h9⟩
      have H9 : Hid (Sat w0 w9 (RetP r t dl L1 K1 M :: ([Row 3 1 A1 na k1 (nums ag), Row 3 1 A2 nb k2 (nums lt)] ++ F))) := h9.r3.perm ((List.Perm.swap _ _ _).cons _)
      clear h9 H8
      go_wp2_with fail
      go_loopw [31] (DpRel w0 F [Row 3 1 A1 na k1 (nums ag), Row 3 1 A2 nb k2 (nums lt)] r t dl now K1 ag (L1, M) na) (fun i _ => na - (intOf i).toNat)
      case atStart => exact ⟨0, Nat.zero_le _, rfl, H9.out⟩
      case round =>
        obtain ⟨k, hk, rfl, hT⟩ := hrel
        clear H9
        obtain ⟨a1, a2, a3⟩ := HAGN.out k hk
        obtain ⟨s, hs⟩ : ∃ s, againS t now (ag.take k) (L1, M) = s := ⟨_, rfl⟩
        rw [hs] at a1 a2 a3 hT
        by_cases hkl : k < na
        · obtain ⟨x, hx⟩ : ∃ x, ag[k]? = some x := ⟨_, List.getElem?_eq_getElem (by rw [HAGL.out]; exact hkl)⟩
          have HNX : Hid (againS t now (ag.take (k + 1)) (L1, M) = again1 t now s x) := by show _ = _; rw [again_take hx, hs]
          obtain ⟨b, o, hA1, hcell⟩ := (Sat.rowNs hT.r2).resolve_left (by rintro rfl; simp at hx)
          subst hA1
          have k0 := hcell k (by rw [HAGL.out]; exact hkl)
          have hgx : ag.getD k 0 = x := by simp [hx]
          rw [hgx] at k0
          obtain ⟨y2, hO⟩ := hT.rpOpen
          obtain ⟨_, _, _, _, _, d5⟩ := open_cells hO
          have hlk := open_look hO x false
          obtain ⟨v, hv⟩ : ∃ v, valE s.2 x = v := ⟨_, rfl⟩
          have hvi := val_in a3 (by omega) x
          rw [hv] at hlk hvi
          obtain ⟨hv1, hv2⟩ := hvi
          have HCL := Lib.hid (HSENT.out wr s _ x (v + 1) a1 a2 (by omega) hT)
          have HAG1 : Hid (again1 t now s x = (setL s.1 x (laterV now (delayV t (v + 1))), putE s.2 x (v + 1))) := by show _ = _; unfold again1; rw [hv]
          obtain ⟨y2g, y2l, y2m, y2t, y2A, y2c⟩ := y2
          simp only at d5 hlk
          obtain ⟨hN1, hN2⟩ := hN
          have hna2 : (k : Int) < (na : Int) := by omega
          clear hcell hgx hx hT hO hs a1 a2 a3 hv
          go_wp2_with fail
          refine HCL.out.mono ?_
          rintro e w10 ⟨rfl, h10⟩
          have H10 := Lib.hid h10
          clear h10 HCL d5 hlk k0
          go_wp2_with fail
          go_roundw
          case rel =>
            refine ⟨k + 1, by omega, by go_num, ?_⟩
            rw [HNX.out, HAG1.out]
            exact H10.out
          case measure => simp [intOf]; omega
        · obtain rfl : k = na := by omega
          have e : ag.take k = ag := List.take_of_length_le (by rw [HAGL.out]; exact Nat.le_refl _)
          rw [e] at hs
          have HSS := Lib.hid hs
          have HT := Lib.hid hT
          clear hT hs e a1 a2 a3 hkl
          go_wp2_with fail
          go_ret2
          refine ⟨A1, k1, A2, k2, rfl, ?_⟩
          rw [HSS.out]
          exact HT.out.b3
end
end Go.Proofs.Ytbgbpibfmdkndaa
