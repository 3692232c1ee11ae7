/- The registry's All: the definitions in their order, each in memory of its own. -/
import Derived.Test.YtpmoanjeoaeabaaDoorRM
import Derived.Deep.RegionHeld3
set_option linter.unusedVariables false
set_option linter.unusedSimpArgs false
set_option linter.unnecessarySimpa false
set_option maxRecDepth 100000
namespace Go.Proofs.YtpmoanjeoaeabaaDoor
open Go.RowKit Go.ChangeShapes Go.WideShapes Go.ChangeAt
theorem grown_find {R : List Ver} (h : Grown R) : ∀ r ∈ R, findV R r.p = some r := by
  induction h with
  | nil => intro r hr; cases hr
  | @snoc R D hR ih =>
    intro r hr
    rcases List.mem_append.1 hr with hr | hr
    · exact findV_keep (ih r hr) _
    · have e : r = ⟨D, (verN R D.name : Int) + 1⟩ := by simpa using hr
      subst e
      exact findV_snoc (grown_new hR D.name)
def defC (D : Df) : List Value := [.string D.name, .slice D.A D.steps.length D.c]
/-- definitions, as cells -/
def defsC (L : List Df) : List Value := L.flatMap defC
def zerosD (n : Nat) : List Value := (List.replicate n [Value.string ⟨#[]⟩, .slice none 0 0]).flatten
theorem defsC_len (L : List Df) : (defsC L).length = L.length * 2 := by
  induction L with
  | nil => rfl
  | cons p L ih =>
    unfold defsC at ih ⊢
    rw [List.flatMap_cons, List.length_append, ih, List.length_cons]
    show 2 + _ = _
    omega
theorem defs_set (L : List Df) (D : Df) (n i : Nat) (h : L.length = i) (hi : i < n) : ((defsC L ++ zerosD (n - i)).set (i * 2) (.string D.name)).set (i * 2 + 1) (.slice D.A D.steps.length D.c) = defsC (L ++ [D]) ++ zerosD (n - (i + 1)) := by
  obtain ⟨m, hm⟩ : ∃ m, n - i = m + 1 := ⟨n - i - 1, by omega⟩
  have e2 : n - (i + 1) = m := by omega
  have hl : (defsC L).length = i * 2 := by rw [defsC_len, h]
  rw [hm, e2]
  have ez : zerosD (m + 1) = .string ⟨#[]⟩ :: .slice none 0 0 :: zerosD m := by unfold zerosD; rw [List.replicate_succ]; rfl
  have ed : defsC (L ++ [D]) = defsC L ++ [.string D.name, .slice D.A D.steps.length D.c] := by unfold defsC; rw [List.flatMap_append]; rfl
  rw [ez, ed, List.set_append_right _ _ (by omega), List.set_append_right _ _ (by omega), hl]
  have e0 : i * 2 - i * 2 = 0 := by omega
  have e1 : i * 2 + 1 - i * 2 = 1 := by omega
  rw [e0, e1]
  simp
theorem infoD : (Tryd.prog.info? 24).map (fun i => (i.zero, i.size, i.bytes)) = some (some (.agg #[.string ⟨#[]⟩, .slice none 0 0]), 2, 40) := by kernel_rfl
theorem make24 (n : Nat) (hn : n ≤ 1000000) (W : World) : (Instr.makeSlice 47 (.int .i64 (n : Int)) (.int .i64 (n : Int))).run Tryd.prog W = .ok (.slice (some ⟨W.heap.size, 0, none⟩) n n) (W.alloc (.cells (madeCells #[.string ⟨#[]⟩, .slice none 0 0] (n * 2)) 24)) := by
  obtain ⟨i0, hi, hz0, hz1, hz2⟩ := info_parts infoD
  have := run_make (P := Tryd.prog) W 47 24 i0 (.agg #[.string ⟨#[]⟩, .slice none 0 0]) Tryd.underlying47 hi hz0 .i64 .i64 n n (by omega) (by omega) (by rw [hz2]; omega) (by omega)
  rw [hz1, show (n : Int).toNat * 2 = n * 2 by omega] at this
  exact this
theorem made_defs (n : Nat) : (madeCells #[.string ⟨#[]⟩, .slice none 0 0] (n * 2)).toList = zerosD n := by
  have hl : (zerosD n).length = n * 2 := by
    unfold zerosD
    rw [List.length_flatten, List.map_replicate, List.sum_replicate_nat]
    rfl
  apply List.ext_getElem?
  intro i
  by_cases hi : i < n * 2
  · obtain ⟨q, r, rfl, hr⟩ : ∃ q r, i = q * 2 + r ∧ r < 2 := ⟨i / 2, i % 2, by omega, by omega⟩
    have hq : q < n := by omega
    have h1 := flat_get (sz := 2) (List.replicate n [Value.string ⟨#[]⟩, .slice none 0 0]) q r (fun x hx => by rw [(List.mem_replicate.1 hx).2]; rfl) (by simpa using hq) hr
    show _ = (zerosD n)[_]?
    unfold zerosD
    rw [h1]
    have e0 : (q * 2 + r) % 2 = r := by omega
    simp [madeCells, hi, e0, List.getD, List.getElem?_replicate, hq]
    rcases (by omega : r = 0 ∨ r = 1) with rfl | rfl <;> simp
  · rw [List.getElem?_eq_none (by simp [madeCells]; omega), List.getElem?_eq_none (by omega)]
def Likes (L : List Df) (R : List Ver) : Prop := ∀ (j : Nat) (D : Df) (r : Ver), L[j]? = some D → R[j]? = some r → Like D r.d
theorem likes_snoc {L : List Df} {R : List Ver} {D : Df} {k : Nat} (h : Likes L R) (hl : L.length = k) (hk : k < R.length) (hd : Like D R[k].d) : Likes (L ++ [D]) R := by
  intro j E r h1 h2
  by_cases hj : j < L.length
  · rw [List.getElem?_append_left hj] at h1
    exact h j E r h1 h2
  · by_cases e : j = k
    · subst e
      rw [List.getElem?_append_right (by omega), hl, Nat.sub_self] at h1
      rw [List.getElem?_eq_getElem hk] at h2
      obtain rfl : D = E := by simpa using h1
      obtain rfl : R[j] = r := by simpa using h2
      exact hd
    · rw [List.getElem?_eq_none (by simp; omega)] at h1
      cases h1
theorem likes_nil (R : List Ver) : Likes [] R := by
  intro j D r h _
  simp at h
theorem Sat.r8 {w0 w : World} {A B C D E G H J : HP} {L : List HP} (h : Sat w0 w (A :: B :: C :: D :: E :: G :: H :: J :: L)) : Sat w0 w (J :: A :: B :: C :: D :: E :: G :: H :: L) := (h.perm (((((((List.Perm.swap J H L).cons G).cons E).cons D).cons C).cons B).cons A)).r7
theorem Sat.b7 {w0 w : World} {A B C D E G H : HP} {L : List HP} (h : Sat w0 w (A :: B :: C :: D :: E :: G :: H :: L)) : Sat w0 w (B :: C :: D :: E :: G :: H :: A :: L) := h.b5.perm ((((((List.Perm.swap G A (H :: L)).trans ((List.Perm.swap H A L).cons G)).cons E).cons D).cons C).cons B)
def AllRel (w0 : World) (L : List HP) (R : List Ver) (ob : Nat) (i : Value) (wr : World) : Prop :=
  ∃ (k : Nat) (Ds : List Df), k ≤ R.length ∧ i = .int .i64 k ∧ Ds.length = k ∧ Likes Ds R ∧ Sat w0 wr (Blk ob 24 (defsC Ds ++ zerosD (R.length - k)) :: sep (Ds.map OwnP) :: L)
set_option maxHeartbeats 3200000 in
theorem all_any {w w0 : World} {F : List HP} {rb : Nat} {R : List Ver} (hR : ∀ r ∈ R, Wf r.d) (hg : Grown R) (hlen : R.length ≤ 16) (hS : Sat w0 w (RegP rb R :: F)) :
    Calls Tryd.prog 26 #[.pointer (some ⟨rb, 0, none⟩)] w fun e w' => ∃ (ob : Nat) (Ds : List Df), e = .returned (.slice (some ⟨ob, 0, none⟩) R.length R.length) ∧ Ds.length = R.length ∧ Likes Ds R ∧ Sat w0 w' (Blk ob 24 (defsC Ds) :: sep (Ds.map OwnP) :: RegP rb R :: F) := by
  obtain ⟨A, c, mb, lb, h0⟩ := hS.regOpen
  obtain ⟨LL, hLL⟩ : ∃ LL, LL = Blk rb 78 [.slice A R.length c, .map (some mb), .map (some lb)] :: Row 80 2 A R.length c (plcC (R.map Ver.p)) :: MapP mb (R.map fun r => (r.p, r.d.v)) :: MapC lb R.length (fun s => (verN R s : Int)) :: sep (R.map fun r => OwnP r.d) :: F := ⟨_, rfl⟩
  have HLL := Lib.hid hLL
  have hmk := make24 R.length (by omega)
  have k0 := h0.blk.cell 0
  have h1 := h0.new (madeCells #[.string ⟨#[]⟩, .slice none 0 0] (R.length * 2)) 24
  rw [made_defs] at h1
  have k1 := cell_alloc (.cells (madeCells #[.string ⟨#[]⟩, .slice none 0 0] (R.length * 2)) 24) k0
  obtain ⟨ob, hob⟩ : ∃ b, w.heap.size = b := ⟨_, rfl⟩
  rw [hob] at h1
  have h2 : Sat w0 (w.alloc (.cells (madeCells #[.string ⟨#[]⟩, .slice none 0 0] (R.length * 2)) 24)) (Blk ob 24 (defsC [] ++ zerosD (R.length - 0)) :: sep (([] : List Df).map OwnP) :: LL) := by
    rw [hLL]
    exact (Sat.close (M := []) h1).r2
  have H2 := Lib.hid h2
  have C56 : Hid (∀ (r : Ver) W L, r ∈ R → Sat w0 W (sep (R.map fun r => OwnP r.d) :: L) → Calls Tryd.prog 56 #[.agg #[.string r.d.name, .slice r.d.A r.d.steps.length r.d.c]] W fun e w' => ∃ D : Df, e = .returned (.agg #[.string D.name, .slice D.A D.steps.length D.c]) ∧ Like D r.d ∧ Sat w0 w' (OwnP D :: sep (R.map fun r => OwnP r.d) :: L)) := fun r W L hr h => by
    refine (rcopied_own (h.regDef hr (hR r hr)) (hR r hr).fits h).mono ?_
    rintro e w' ⟨D, rfl, hl, hs⟩
    exact ⟨D, by rw [← like_v hl]; rfl, hl, hs⟩
  have HLK : Hid (∀ (r : Ver) W L, r ∈ R → Sat w0 W (MapP mb (R.map fun r => (r.p, r.d.v)) :: L) → (Instr.lookup 76 (.map (some mb)) (.agg #[.string r.d.name, .int .i64 r.v]) false).run Tryd.prog W = .ok (.agg #[.string r.d.name, .slice r.d.A r.d.steps.length r.d.c]) W) := fun r W L hr h => by
    have h1 := h.plcLook r.p false
    rw [valP_V, grown_find hg r hr] at h1
    exact h1
  obtain ⟨n, hn⟩ : ∃ n, R.length = n := ⟨_, rfl⟩
  have HN := Lib.hid hn
  rw [hn] at k0 k1 hmk hlen HLL H2 ⊢
  clear hn h0 h1 h2 hS hLL
  go_enter Tryd.func26, Tryd.ntmps26
  go_wp2_with fail
  try simp only [hob]
  clear k0 k1 hmk
  go_loopw [17] (AllRel w0 LL R ob) (fun i _ => n - (intOf i).toNat)
  case atStart => exact ⟨0, [], Nat.zero_le _, rfl, rfl, likes_nil R, by rw [HN.out]; exact H2.out⟩
  case round =>
    obtain ⟨k, Ds, hk, rfl, hl, hlike, hS⟩ := hrel
    rw [HN.out] at hk hS
    clear H2
    by_cases hlt : k < n
    · have hk1 : k < R.length := by rw [HN.out]; exact hlt
      obtain ⟨r, hr⟩ : ∃ r, R[k] = r := ⟨_, rfl⟩
      have hmem : r ∈ R := by rw [← hr]; exact List.getElem_mem hk1
      have hLk : Hid (∀ D, Like D r.d → Likes (Ds ++ [D]) R) := fun D hd => likes_snoc hlike hl hk1 (by rw [hr]; exact hd)
      have hj1 : k < (R.map Ver.p).length := by simpa using hk1
      have g0 := plcC_get (R.map Ver.p) k 0 hj1 (by decide)
      have g1 := plcC_get (R.map Ver.p) k 1 hj1 (by decide)
      rw [List.getElem_map, hr] at g0 g1
      have hS5 := hS
      rw [HLL.out] at hS5
      have hrow := hS5.r4
      obtain ⟨g, hA, hq1, hq2⟩ := hrow.rowCell (by intro e; rw [e] at g0; simp [plcV] at g0)
      subst hA
      rw [Nat.add_zero] at g0
      have c0 := (hrow.rowAt (j := k * 2) (v := .string r.d.name) (by rw [g0]; rfl)).1
      have c1 := (hrow.rowAt (j := k * 2 + 1) (v := .int .i64 r.v) (by rw [g1]; rfl)).1
      have hp := hS5.new #[.string r.d.name, .int .i64 r.v] 80
      obtain ⟨pb, hpb⟩ : ∃ q, wr.heap.size = q := ⟨_, rfl⟩
      rw [hpb] at hp
      have HP := Lib.hid hp
      clear hp hS5 hrow hq1 hq2 g0 g1 hj1 hk1 hlike hr
      go_wp2_with fail
      obtain ⟨W1, hW1⟩ : ∃ x, x = wr.alloc (.cells #[.string r.d.name, .int .i64 r.v] 80) := ⟨_, rfl⟩
      rw [← hW1] at HP ⊢
      clear hW1 hpb c0 c1
      have HC := Lib.hid (C56.out r W1.drew _ hmem HP.out.drew.r8)
      have x1 := HP.out.r4.blk.cell 1
      have x2 := HP.out.blk.cell 0
      have x3 := HP.out.blk.cell 1
      have hk1 := HLK.out r W1.drew _ hmem HP.out.drew.r6
      have HDS : Hid (∀ D : Df, ((defsC Ds ++ zerosD (n - k)).set (k * 2) (.string D.name)).set (k * 2 + 1) (.slice D.A D.steps.length D.c) = defsC (Ds ++ [D]) ++ zerosD (n - (k + 1))) := fun D => defs_set Ds D n k hl hlt
      have HLN : Hid ((defsC Ds ++ zerosD (n - k)).length = n * 2) := by
        show _ = _
        rw [← made_defs, List.length_append, defsC_len, hl]
        simp [madeCells]
        omega
      obtain ⟨vs, hvs⟩ : ∃ v, v = defsC Ds ++ zerosD (n - k) := ⟨_, rfl⟩
      rw [← hvs] at HDS HLN HP HC hS
      clear HP hS C56 HLK hvs
      go_region_held3 (fun w' => w'.cell? ⟨rb, 1, none⟩ = some (.map (some mb)) ∧ w'.cell? ⟨pb, 0, none⟩ = some (.string r.d.name) ∧ w'.cell? ⟨pb, 1, none⟩ = some (.int .i64 r.v))
        (first | exact ⟨x1, x2, x3⟩ | exact ⟨y1, y2, y3⟩ | exact ⟨z1, z2, z3⟩)
        (first
          | (go_at_call 56; refine HC.out.mono ?_; rintro e w5 ⟨D, rfl, hd, h5⟩; have y1 := h5.r6.blk.cell 1; have y2 := h5.r3.blk.cell 0; have y3 := h5.r3.blk.cell 1; have q0 := h5.r4.blk.cell (k * 2); have q1 := h5.r4.blk.cell (k * 2 + 1); rw [List.getElem?_eq_getElem (by rw [HLN.out]; omega)] at q0 q1; have hX := (h5.r4.set (k * 2) (.string D.name)).set (k * 2 + 1) (.slice D.A D.steps.length D.c); rw [HDS.out] at hX; have z1 := hX.r6.blk.cell 1; have z2 := hX.r4.blk.cell 0; have z3 := hX.r4.blk.cell 1; have qf0 := h5.r4.blk.free (k * 2); have qf1 := h5.r4.blk.free (k * 2 + 1); have HX := Lib.hid hX; clear hX h5))
      all_goals
        have HLD := Lib.hid (hLk.out D hd)
        have HFIN : Hid (Sat w0 ((w5.setCell ⟨ob, k * 2, none⟩ (.string D.name)).setCell ⟨ob, k * 2 + 1, none⟩ (.slice D.A D.steps.length D.c)) (Blk ob 24 (defsC (Ds ++ [D]) ++ zerosD (n - (k + 1))) :: sep ((Ds ++ [D]).map OwnP) :: LL)) := by
          have h := HX.out.r4.tail.r2.r4.snocP.r2.r3.b7
          rw [HLL.out, List.map_append]
          exact h
        clear HX q0 q1 qf0 qf1 y1 y2 y3 z1 z2 z3 x1 x2 x3 hk1 HC HDS HLN hLk hd
        go_wp2_with fail
        go_roundw
        case rel => exact ⟨k + 1, Ds ++ [D], by rw [HN.out]; omega, by go_num, by simp [hl], HLD.out, by rw [HN.out]; exact HFIN.out⟩
        case measure => simp [intOf]; omega
    · obtain rfl : k = n := by omega
      have HS := Lib.hid hS
      have HL := Lib.hid hlike
      clear hS C56 HLK hlike
      go_wp2_with fail
      go_ret
      refine ⟨ob, Ds, rfl, hl, HL.out, ?_⟩
      have h := HS.out
      have e : defsC Ds ++ zerosD 0 = defsC Ds := by simp [zerosD]
      rw [HLL.out, Nat.sub_self, e] at h
      have h3 := h.b7.b7
      rw [← HN.out] at h3
      exact (Sat.regClose h3).b3
end Go.Proofs.YtpmoanjeoaeabaaDoor
