/- The registry's Add (under way). -/
import Derived.Test.YtpmoanjeoaeabaaDoorRM
import Derived.Deep.RegionHeld3
import Derived.StillTailTactics
set_option linter.unusedVariables false
set_option linter.unusedSimpArgs false
set_option linter.unnecessarySimpa false
set_option maxRecDepth 100000
namespace Go.Proofs.YtpmoanjeoaeabaaDoor
open Go.RowKit Go.ChangeShapes Go.WideShapes Go.ChangeAt
theorem run_bs75 (w : World) (v0 v1 : Value) : (Instr.buildSlice 75 1 #[(0, .agg #[v0, v1])]).run Tryd.prog w = .ok (.slice (some ⟨w.heap.size, 0, none⟩) 1 1) (w.alloc (.cells #[v0, v1] 80)) := by
  kernel_rfl
theorem step_bs75 {w : World} {ops : Array Oper} {o : Oper} {a : Act} {K : Act → World → Prop} {Q : Exit → Act → World → Prop} {E : Prop} (hgd : o.guard = none) (t : Tmp) (ho : o.op = .buildSlice 75 1 #[(0, .tmp t)]) (v0 v1 : Value)
    (hv : a.eval (.tmp t) = .agg #[v0, v1]) (h : K (a.put o.dst (.slice (some ⟨w.heap.size, 0, none⟩) 1 1)) (w.alloc (.cells #[v0, v1] 80))) : if Region.wanted o (yielded ops a.tmps) = true then Oper.wp Tryd.prog o a w K Q else E := by
  have hw : Region.wanted o (yielded ops a.tmps) = true := by simp [Region.wanted, hgd]
  rw [if_pos hw]
  unfold Oper.wp execOp
  have := run_bs75 w v0 v1
  simp only [ho, resolve, Sem.run_bind, Sem.run_pure, Result.andThen_ok, List.map_toArray, List.map_cons, List.map_nil, hv, this]
  exact h
theorem infoPl : (Tryd.prog.info? 80).map (fun i => (i.zero, i.size, i.bytes)) = some (some (.agg #[.string ⟨#[]⟩, .int .i64 0]), 2, 24) := by kernel_rfl
theorem map_snoc (R : List Ver) (D : Df) (v : Int) (nm : ByteArray) (h : D.name = nm) : (R ++ [(⟨D, v⟩ : Ver)]).map (fun r : Ver => (r.p, r.d.v)) = (R.map fun r : Ver => (r.p, r.d.v)) ++ [((nm, v), D.v)] := by
  subst h
  rw [List.map_append]
  rfl
theorem plcC_snoc (R : List Ver) (D : Df) (v : Int) (nm : ByteArray) (h : D.name = nm) : plcC ((R ++ [(⟨D, v⟩ : Ver)]).map Ver.p) = plcC (R.map Ver.p) ++ [.string nm, .int .i64 v] := by
  subst h
  unfold plcC
  rw [List.map_append, List.flatMap_append]
  rfl
theorem verN_put (R : List Ver) (D : Df) (v : Int) (nm : ByteArray) (h : D.name = nm) : (fun s => (verN (R ++ [(⟨D, v⟩ : Ver)]) s : Int)) = fun t => if t = nm then (verN R nm : Int) + 1 else (verN R t : Int) := by
  subst h
  funext s
  rw [verN_snoc]
  show ((verN R s + if D.name = s then 1 else 0 : Nat) : Int) = _
  by_cases e : s = D.name
  · subst e; simp
  · rw [if_neg e, if_neg (fun g => e g.symm)]; simp
theorem regGrow {w0 W : World} {F : List HP} {R : List Ver} {D : Df} {nm : ByteArray} {vn nn rb mb lb pb b c3 : Nat} {A3 : Option Addr} {xp xb : List Value} (h1 : D.name = nm) (h2 : verN R nm = vn) (h3 : R.length = nn)
    (h : Sat w0 W (MapC lb (nn + 1) (fun t => if t = nm then ((vn : Int) + 1) else (verN R t : Int)) :: MapP mb ((R.map fun r => (r.p, r.d.v)) ++ [((nm, (vn : Int) + 1), D.v)]) :: OwnP D :: Blk rb 78 [.slice A3 (nn + 1) c3, .map (some mb), .map (some lb)] ::
      Row 80 2 A3 (nn + 1) c3 (plcC (R.map Ver.p) ++ [.string nm, .int .i64 ((vn : Int) + 1)]) :: Blk pb 80 xp :: Blk b 24 xb :: sep (R.map fun r => OwnP r.d) :: F)) : Sat w0 W (RegP rb (R ++ [⟨D, (verN R nm : Int) + 1⟩]) :: F) := by
  subst h2 h3
  have e1 := map_snoc R D ((verN R nm : Int) + 1) nm h1
  have e2 := plcC_snoc R D ((verN R nm : Int) + 1) nm h1
  have e3 := verN_put R D ((verN R nm : Int) + 1) nm h1
  have e4 : (R ++ [(⟨D, (verN R nm : Int) + 1⟩ : Ver)]).length = R.length + 1 := by simp
  have h5 := h.r6.tail
  have h6 := h5.r6.tail
  have h7 : Sat w0 W (sep ((R ++ [(⟨D, (verN R nm : Int) + 1⟩ : Ver)]).map fun r => OwnP r.d) :: MapC lb (R.length + 1) (fun t => if t = nm then ((verN R nm : Int) + 1) else (verN R t : Int)) :: MapP mb ((R.map fun r => (r.p, r.d.v)) ++ [((nm, (verN R nm : Int) + 1), D.v)]) ::
      Blk rb 78 [.slice A3 (R.length + 1) c3, .map (some mb), .map (some lb)] :: Row 80 2 A3 (R.length + 1) c3 (plcC (R.map Ver.p) ++ [.string nm, .int .i64 ((verN R nm : Int) + 1)]) :: F) := by
    have e5 : (R ++ [(⟨D, (verN R nm : Int) + 1⟩ : Ver)]).map (fun r : Ver => OwnP r.d) = (R.map fun r : Ver => OwnP r.d) ++ [OwnP D] := by rw [List.map_append]; rfl
    rw [e5]
    exact (h6.r3.r6).snocP
  refine Sat.regClose (A := A3) (c := c3) (mb := mb) (lb := lb) ?_
  rw [e1, e2, e3, e4]
  exact h7.r2.r3.r5.r5
/-- what Add answers and leaves where the definition grows the registry -/
def GrowOut (w0 : World) (F : List HP) (rb : Nat) (R : List Ver) (d : Df) (e : Ending) (w' : World) : Prop :=
  (16 ≤ R.length ∧ e = .returned (.tuple #[.int .i64 0, .int .i64 141]) ∧ Sat w0 w' (RegP rb R :: F)) ∨
  (R.length < 16 ∧ ∃ D : Df, Like D d ∧ e = .returned (.tuple #[.int .i64 ((verN R d.name : Int) + 1), .int .i64 0]) ∧ Sat w0 w' (RegP rb (R ++ [⟨D, (verN R d.name : Int) + 1⟩]) :: F))
def AddOut (w0 : World) (F : List HP) (rb : Nat) (R : List Ver) (d : Df) (e : Ending) (w' : World) : Prop :=
  ((checkN d).2 ≠ 0 ∧ e = .returned (.tuple #[.int .i64 0, .int .i64 1]) ∧ Sat w0 w' (RegP rb R :: F)) ∨
  ((checkN d).2 = 0 ∧ ∃ r, findV R (d.name, (verN R d.name : Int)) = some r ∧ Like r.d d ∧ e = .returned (.tuple #[.int .i64 (verN R d.name : Int), .int .i64 0]) ∧ Sat w0 w' (RegP rb R :: F)) ∨
  ((checkN d).2 = 0 ∧ (∀ r, findV R (d.name, (verN R d.name : Int)) = some r → ¬ Like r.d d) ∧ GrowOut w0 F rb R d e w')
set_option maxHeartbeats 6400000 in
theorem add_any {w : World} {F : List HP} {rb : Nat} {R : List Ver} (d : Df) (hw : Wf d) (hR : ∀ r ∈ R, Wf r.d) (hg : Grown R) (hlen : R.length ≤ 16) {w0 : World} (hDF : ∀ W L, Sat w0 W (L ++ F) → DefAt W d) (hT0 : Lib.Utf8Tabs 0 1 w0) (hO : Old w0 ∈ F) (hS : Sat w0 w (RegP rb R :: F)) :
    Calls Tryd.prog 25 #[.pointer (some ⟨rb, 0, none⟩), d.v] w (AddOut w0 F rb R d) := by
  obtain ⟨A, c, mb, lb, h0⟩ := hS.regOpen
  have h1 := h0.new #[.string d.name, .slice d.A d.steps.length d.c] 24
  obtain ⟨b, hb⟩ : ∃ b, w.heap.size = b := ⟨_, rfl⟩
  rw [hb] at h1
  have C12 : Hid (∀ w1 L, Sat w0 w1 (L ++ F) → Calls Tryd.prog 12 #[d.v] w1 fun e w' => e = .returned (.tuple #[.int .i64 (checkN d).1, .int .i64 (checkN d).2]) ∧ Below w1.heap.size w1 w') := fun w1 L h => check_any d (hDF w1 L h) hw.fits.sized (tabs_keep hT0 (h.old (List.mem_append_right _ hO)))
  have HB1 : Hid (∀ w1 L, Sat w0 w1 (L ++ F) → Below w0.heap.size w0 w1) := fun w1 L h => h.old (List.mem_append_right _ hO)
  have HBAD : Hid ((checkN d).2 ≠ 0 → ∀ e w', e = Ending.returned (.tuple #[.int .i64 0, .int .i64 1]) → Sat w0 w' (RegP rb R :: F) → AddOut w0 F rb R d e w') := fun h e w' he hs => .inl ⟨h, he, hs⟩
  have HLK : Hid (∀ W L, Sat w0 W (MapC lb R.length (fun s => (verN R s : Int)) :: L) → (Instr.lookup 66 (.map (some lb)) (.string d.name) false).run Tryd.prog W = .ok (.int .i64 (verN R d.name : Int)) W) := fun W L h => h.mapLook (by have := hw.fits.name; unfold maxLen; omega)
  obtain ⟨FO, hFO⟩ : ∃ X, AddOut w0 F rb R d = X := ⟨_, rfl⟩
  obtain ⟨CN, hCN⟩ : ∃ X, checkN d = X := ⟨_, rfl⟩
  obtain ⟨x, y⟩ := CN
  rw [hCN, hFO] at HBAD
  rw [hCN] at C12
  rw [hFO]
  unfold Df.v at C12 ⊢
  obtain ⟨n, hN⟩ : ∃ n, d.steps.length = n := ⟨_, rfl⟩
  rw [hN] at h1 C12 ⊢
  have H1 := Lib.hid h1
  have C55 : Hid (∀ (r : Ver) W, r ∈ R → Sat w0 W (sep (R.map fun r => OwnP r.d) :: F) → Calls Tryd.prog 55 #[.agg #[.string r.d.name, .slice r.d.A r.d.steps.length r.d.c], .agg #[.string d.name, .slice d.A n d.c]] W fun e w' => e = .returned (.bool (likeB r.d d)) ∧ Below W.heap.size W w') := fun r W hr h => by
    rw [← hN]
    exact rsame_any (h.regDef hr (hR r hr)) (hDF W [_] h) (hR r hr).fits hw.fits
  have HMID : Hid ((checkN d).2 = 0 → ∀ r, findV R (d.name, (verN R d.name : Int)) = some r → Like r.d d → ∀ e w', e = Ending.returned (.tuple #[.int .i64 (verN R d.name : Int), .int .i64 0]) → Sat w0 w' (RegP rb R :: F) → FO e w') := fun h r hr hl e w' he hs => by
    rw [← hFO]
    exact .inr (.inl ⟨h, r, hr, hl, he, hs⟩)
  rw [hCN] at HMID
  have HGR : Hid ((checkN d).2 = 0 → (∀ r, findV R (d.name, (verN R d.name : Int)) = some r → ¬ Like r.d d) → ∀ e w', GrowOut w0 F rb R d e w' → FO e w') := fun h hr e w' hg => by
    rw [← hFO]
    exact .inr (.inr ⟨h, hr, hg⟩)
  rw [hCN] at HGR
  have C56 : Hid (∀ W L, DefAt W d → Sat w0 W L → Calls Tryd.prog 56 #[.agg #[.string d.name, .slice d.A n d.c]] W fun e w' => ∃ D : Df, e = .returned (.agg #[.string D.name, .slice D.A D.steps.length D.c]) ∧ Like D d ∧ Sat w0 w' (OwnP D :: L)) := fun W L hd h => by
    rw [← hN]
    refine (rcopied_own hd hw.fits h).mono ?_
    rintro e w' ⟨D, rfl, hl, hs⟩
    exact ⟨D, by rw [← like_v hl]; rfl, hl, hs⟩
  have HDF := Lib.hid hDF
  have HNEW := Lib.hid (grown_new hg d.name)
  have hvn16 := Nat.le_trans (verN_le R d.name) hlen
  have HNM : Hid (d.name.size ≤ maxLen) := by have := hw.fits.name; show _ ≤ _; unfold maxLen; omega
  clear hDF hT0 hS h0 h1 hCN hN
  go_enter Tryd.func25, Tryd.ntmps25
  go_wp2_with fail
  try simp only [hb]
  refine (C12.out _ [_, _, _, _, _, _] H1.out).mono ?_
  rintro e w1 ⟨rfl, hb1⟩
  have H2 := Lib.hid (H1.out.below hb1)
  by_cases hy : y = 0
  · subst hy
    obtain ⟨vn, hvn⟩ : ∃ v, verN R d.name = v := ⟨_, rfl⟩
    rw [hvn] at HLK HNEW hvn16
    have z0 := H2.out.blk.cell 0
    have z2 := H2.out.r2.blk.cell 2
    have u0 := cell_alloc (.cells #[.string ⟨#[]⟩, .int .i64 0] 80) z0
    have u2 := cell_alloc (.cells #[.string ⟨#[]⟩, .int .i64 0] 80) z2
    have hk1 := HLK.out _ _ H2.out.r5.drew
    have hk2 := HLK.out _ _ (H2.out.new #[.string ⟨#[]⟩, .int .i64 0] 80).r6.drew
    have HVN := Lib.hid hvn
    clear HBAD hb1 H1 C12 hvn
    go_wp2_with fail
    go_region
    obtain ⟨pb, hpb⟩ : ∃ q, w1.heap.size = q := ⟨_, rfl⟩
    have h3 := (H2.out.new #[.string d.name, .int .i64 (vn : Int)] 80).drew
    rw [hpb] at h3 ⊢
    obtain ⟨W2, hW2⟩ : ∃ x, x = (w1.alloc (.cells #[.string d.name, .int .i64 (vn : Int)] 80)).drew := ⟨_, rfl⟩
    rw [← hW2] at h3 ⊢
    have H3 := Lib.hid h3
    clear hW2 h3 z0 z2 u0 u2 hk1 hk2 H2
    have HLK2 : Hid (∀ W L, Sat w0 W (MapP mb (R.map fun r => (r.p, r.d.v)) :: L) → (Instr.lookup 76 (.map (some mb)) (.agg #[.string d.name, .int .i64 (vn : Int)]) true).run Tryd.prog W = .ok (.tuple #[valP (R.map fun r => (r.p, r.d.v)) (d.name, (vn : Int)), .bool (findV R (d.name, (vn : Int))).isSome]) W) := fun W L h => by
      have h1 := h.plcLook (d.name, (vn : Int)) true
      rw [isP_V] at h1
      exact h1
    have HVAL := Lib.hid (valP_V R (d.name, (vn : Int)))
    obtain ⟨V, hV⟩ : ∃ V, findV R (d.name, (vn : Int)) = V := ⟨_, rfl⟩
    rw [hV] at HLK2 HVAL
    have HV := Lib.hid hV
    clear hV
    cases V with
    | some r =>
      rw [HVAL.out] at HLK2
      have y0 := H3.out.blk.cell 0
      have y1 := H3.out.blk.cell 1
      have y2 := H3.out.r3.blk.cell 1
      have v0 := cell_alloc (.cells #[.string ⟨#[]⟩, .slice none 0 0] 24) y0
      have v1 := cell_alloc (.cells #[.string ⟨#[]⟩, .slice none 0 0] 24) y1
      have v2 := cell_alloc (.cells #[.string ⟨#[]⟩, .slice none 0 0] 24) y2
      have HLK3 : Hid (∀ W L, Sat w0 W (MapP mb (R.map fun r => (r.p, r.d.v)) :: L) → (Instr.lookup 76 (.map (some mb)) (.agg #[.string d.name, .int .i64 (vn : Int)]) true).run Tryd.prog W = .ok (.tuple #[.agg #[.string r.d.name, .slice r.d.A r.d.steps.length r.d.c], .bool true]) W) := HLK2.out
      have hk1 := HLK3.out _ _ H3.out.r5.drew
      have hk2 := HLK3.out _ _ (H3.out.new #[.string ⟨#[]⟩, .slice none 0 0] 24).r6.drew
      clear HLK2 HLK3
      go_wp2_with fail
      go_region
      obtain ⟨xb, hxb⟩ : ∃ q, W2.heap.size = q := ⟨_, rfl⟩
      have h4 := (H3.out.new #[.string r.d.name, .slice r.d.A r.d.steps.length r.d.c] 24).drew
      rw [hxb] at h4 ⊢
      obtain ⟨W3, hW3⟩ : ∃ x, x = (W2.alloc (.cells #[.string r.d.name, .slice r.d.A r.d.steps.length r.d.c] 24)).drew := ⟨_, rfl⟩
      rw [← hW3] at h4 ⊢
      have H4 := Lib.hid h4
      have a0 := h4.blk.cell 0
      have a1 := h4.blk.cell 1
      have c0 := h4.r3.blk.cell 0
      have c1 := h4.r3.blk.cell 1
      clear hW3 h4 y0 y1 y2 v0 v1 v2 hk1 hk2 H3
      have hmem := findV_mem HV.out
      have CC := Lib.hid (C55.out r W3 hmem.1 H4.out.tail.tail.tail.tail.tail.tail.tail)
      by_cases hl : Like r.d d
      · rw [like_yes hl] at CC
        have HMD : Hid (∀ e w', e = Ending.returned (.tuple #[.int .i64 (vn : Int), .int .i64 0]) → Sat w0 w' (RegP rb R :: F) → FO e w') := fun e w' he hs => by
          have h := HMID.out (by first | rfl | trivial) r (by rw [HVN.out]; exact HV.out) hl e w'
          rw [HVN.out] at h
          exact h he hs
        clear HMID hl hmem
        go_wp2_with fail
        refine CC.out.mono ?_
        rintro e w9 ⟨rfl, hb9⟩
        have h10 := H4.out.below hb9
        have p1 := h10.r2.blk.cell 1
        have H5 := Lib.hid h10
        clear h10 hb9 H4 a0 a1 c0 c1 CC
        go_wp2_with fail
        exact HMD.out _ _ rfl H5.out.tail.tail.tail.regClose
      · rw [like_no hl] at CC
        have HGO : Hid (∀ e w', GrowOut w0 F rb R d e w' → FO e w') := HGR.out (by first | rfl | trivial) fun r' hr' hl' => by
          rw [HVN.out, HV.out] at hr'
          exact hl (by cases hr'; exact hl')
        clear HMID HGR hl hmem
        go_wp2_with fail
        refine CC.out.mono ?_
        rintro e w9 ⟨rfl, hb9⟩
        have h10 := H4.out.below hb9
        have H5 := Lib.hid h10.tail
        clear h10 hb9 H4 a0 a1 c0 c1 CC HVAL HV C55 HLK
        have k0 := H5.out.r3.blk.cell 0
        have p0 := H5.out.blk.cell 0
        have p1 := H5.out.blk.cell 1
        have pf := H5.out.blk.free 1
        obtain ⟨nn, hNN⟩ : ∃ n, R.length = n := ⟨_, rfl⟩
        rw [hNN] at k0 H5 hlen
        have HNN := Lib.hid hNN
        clear hNN
        by_cases hfull : 16 ≤ nn
        · have tf : decide ((16 : Int) ≤ (nn : Int)) = true := decide_eq_true (by omega)
          clear p0 p1 pf hvn16
          go_wp2_with fail
          exact HGO.out _ _ (.inl ⟨by rw [HNN.out]; exact hfull, rfl, Sat.regClose (by rw [HNN.out]; exact H5.out.tail.tail)⟩)
        · have tf : decide ((16 : Int) ≤ (nn : Int)) = false := decide_eq_false (by omega)
          go_wp2_with fail
          have h6 := H5.out.set 1 (.int .i64 ((vn : Int) + 1))
          have h7 : Sat w0 (w9.setCell ⟨pb, 1, none⟩ (.int .i64 ((vn : Int) + 1))) (Row 80 2 A nn c (plcC (R.map Ver.p)) :: Blk pb 80 [.string d.name, .int .i64 ((vn : Int) + 1)] :: Blk b 24 [.string d.name, .slice d.A n d.c] :: Blk rb 78 [.slice A nn c, .map (some mb), .map (some lb)] ::
            MapP mb (R.map fun r => (r.p, r.d.v)) :: MapC lb nn (fun s => (verN R s : Int)) :: sep (R.map fun r => OwnP r.d) :: F) := h6.r4
          clear h6
          obtain ⟨W6, hW6⟩ : ∃ x, x = w9.setCell ⟨pb, 1, none⟩ (.int .i64 ((vn : Int) + 1)) := ⟨_, rfl⟩
          rw [← hW6] at h7 ⊢
          clear hW6 H5 k0 p0 p1 pf
          obtain ⟨gb, hgb⟩ : ∃ q, W6.heap.size = q := ⟨_, rfl⟩
          have H7 := Lib.hid h7
          clear h7
          go_cut [62] (fun s wx => ∃ A3 c3, Sat w0 wx (Blk rb 78 [.slice A3 (nn + 1) c3, .map (some mb), .map (some lb)] :: Row 80 2 A3 (nn + 1) c3 (plcC (R.map Ver.p) ++ [.string d.name, .int .i64 ((vn : Int) + 1)]) :: Blk pb 80 [.string d.name, .int .i64 ((vn : Int) + 1)] :: Blk b 24 [.string d.name, .slice d.A n d.c] ::
            MapP mb (R.map fun r => (r.p, r.d.v)) :: MapC lb nn (fun s => (verN R s : Int)) :: sep (R.map fun r => OwnP r.d) :: F))
          case first =>
            as_aux_lemma =>
              have k0 := H7.out.r4.blk.cell 0
              have p0 := H7.out.r2.blk.cell 0
              have p1 := H7.out.r2.blk.cell 1
              have h8 := H7.out.drew.new #[.string d.name, .int .i64 ((vn : Int) + 1)] 80
              have hgb' : W6.drew.heap.size = gb := hgb
              rw [hgb'] at h8
              clear hgb'
              have HB8 := Lib.hid h8
              have e0 := cell_alloc (.cells #[.string d.name, .int .i64 ((vn : Int) + 1)] 80) k0
              obtain ⟨i80, hi80, hz80, hs80, hb80⟩ := info_parts infoPl
              have HI80 := Lib.hid hi80
              have hb63 : nn + 1 ≤ maxLen ∧ (nn + 1) * 24 ≤ 140737488355328 := by unfold maxLen; omega
              have HONE : Hid (∀ u ∈ (#[.string d.name, .int .i64 ((vn : Int) + 1)] : Array Value).toList, u.oneCell' = true) := by
                show ∀ u ∈ _, _
                intro u hu
                simp at hu
                rcases hu with rfl | rfl <;> rfl
              have HLEN : Hid ((#[.string d.name, .int .i64 ((vn : Int) + 1)] : Array Value).toList.length = 2) := rfl
              have HZC : Hid ((Value.agg #[.string ⟨#[]⟩, .int .i64 0]).cells.size = 2) := rfl
              clear H7 hi80 h8
              go_region_law (first
                | (refine step_bs75 rfl 60 rfl (.string d.name) (.int .i64 ((vn : Int) + 1)) rfl ?_)
                | (refine step_app1 rfl (.tmp 59) (.tmp 61) 75 rfl 80 i80 _ 2 24 Tryd.underlying75 HI80.out hz80 hs80 hb80 HZC.out (by decide) rfl HB8.out rfl HLEN.out HONE.out hb63.1 hb63.2 ?_; intro A3 c3 W8 hS8; have q1 : W8.cell? ⟨rb, 0, none⟩ = some (.slice A nn c) := hS8.r4.blk.cell 0; have qf := hS8.r4.blk.free 0))
              all_goals
                have HX := Lib.hid (hS8.r4.set 0 (.slice A3 (nn + 1) c3))
                clear hS8 HB8
                go_wp2_with fail
                go_meet
                exact ⟨A3, c3, HX.out⟩
          case rest =>
            as_aux_lemma =>
              obtain ⟨A3, c3, hS⟩ := hcut
              have H8 := Lib.hid hS
              clear hS H7 hgb
              have HK : Hid (findP (d.name, (vn : Int) + 1) (R.map fun r => (r.p, r.d.v)) 0 = none) := by
                show _ = _
                have h := isP_V R (d.name, (vn : Int) + 1)
                rw [HNEW.out] at h
                cases hx : findP (d.name, (vn : Int) + 1) (R.map fun r => (r.p, r.d.v)) 0 with
                | none => rfl
                | some _ => rw [hx] at h; cases h
              go_wp2_with fail
              go_cut [71] (fun s wx => ∃ D : Df, Like D d ∧ Sat w0 wx (MapP mb ((R.map fun r => (r.p, r.d.v)) ++ [((d.name, (vn : Int) + 1), D.v)]) :: OwnP D :: Blk rb 78 [.slice A3 (nn + 1) c3, .map (some mb), .map (some lb)] :: Row 80 2 A3 (nn + 1) c3 (plcC (R.map Ver.p) ++ [.string d.name, .int .i64 ((vn : Int) + 1)]) :: Blk pb 80 [.string d.name, .int .i64 ((vn : Int) + 1)] :: Blk b 24 [.string d.name, .slice d.A n d.c] ::
                MapC lb nn (fun s => (verN R s : Int)) :: sep (R.map fun r => OwnP r.d) :: F))
              case first =>
                as_aux_lemma =>
                  have HC := Lib.hid (C56.out wc.drew _ (HDF.out _ [_, _, _, _, _, _, _] H8.out.drew) H8.out.drew)
                  have x1 := H8.out.blk.cell 1
                  have x2 := H8.out.r3.blk.cell 0
                  have x3 := H8.out.r3.blk.cell 1
                  have x4 := H8.out.r4.blk.cell 0
                  have x5 := H8.out.r4.blk.cell 1
                  clear H8 C56 HB1 HDF
                  go_region_held3 (fun w' => w'.cell? ⟨rb, 1, none⟩ = some (.map (some mb)) ∧ w'.cell? ⟨pb, 0, none⟩ = some (.string d.name) ∧ w'.cell? ⟨pb, 1, none⟩ = some (.int .i64 ((vn : Int) + 1)) ∧ w'.cell? ⟨b, 0, none⟩ = some (.string d.name) ∧ w'.cell? ⟨b, 1, none⟩ = some (.slice d.A n d.c))
                    (first | exact ⟨x1, x2, x3, x4, x5⟩ | exact ⟨y1, y2, y3, y4, y5⟩ | exact ⟨z1, z2, z3, z4, z5⟩)
                    (first
                      | (go_at_call 56; refine HC.out.mono ?_; rintro e w5 ⟨D, rfl, hl, h5⟩; obtain ⟨W9, hrun0, h9⟩ := h5.r6.plcPut HK.out D.v; have hrun : (Instr.mapUpdate 76 (.map (some mb)) (.agg #[.string d.name, .int .i64 ((vn : Int) + 1)]) (.agg #[.string D.name, .slice D.A D.steps.length D.c])).run Tryd.prog w5 = .ok () W9 := hrun0; have y1 := h5.r2.blk.cell 1; have y2 := h5.r4.blk.cell 0; have y3 := h5.r4.blk.cell 1; have y4 := h5.r5.blk.cell 0; have y5 := h5.r5.blk.cell 1; have z1 := h9.r3.blk.cell 1; have z2 := h9.r5.blk.cell 0; have z3 := h9.r5.blk.cell 1; have z4 := h9.r6.blk.cell 0; have z5 := h9.r6.blk.cell 1; have H9 := Lib.hid h9; clear h9 h5 hrun0))
                  all_goals
                    go_wp2_with fail
                    go_meet
                    exact ⟨D, hl, H9.out⟩
              case rest =>
                as_aux_lemma =>
                  obtain ⟨D, hl, hS⟩ := hcut
                  have x2 := hS.r3.blk.cell 2
                  have x3 := hS.r5.blk.cell 1
                  have x4 := hS.r6.blk.cell 0
                  have HM13 := Lib.hid hS.drew.r7
                  have HLI := Lib.hid hl
                  have HWF : Hid ((Lit.int .i64 ((vn : Int) + 1)).wf = true) := WalkArith.wf_i64 (by omega)
                  have HNX : Hid (nn < maxLen) := by show _ < _; unfold maxLen; omega
                  clear hS hl H8
                  go_wp2_with fail
                  go_still_tail 8, (by kernel_rfl)
                  change wpList _ _ _ _ _ wc.drew
                  go_wp2_with (first
                    | (at_mapUpdate; refine wpList_mapPut rfl (.tmp 75) (.tmp 77) (.tmp 79) rfl rfl HM13.out rfl rfl HNM.out HWF.out HNX.out ?_; intro w10 h10; have q1 := h10.r6.blk.cell 1; have H10 := Lib.hid h10; clear h10))
                  exact HGO.out _ _ (.inr ⟨by rw [HNN.out]; omega, D, HLI.out, by rw [HVN.out]; rfl, regGrow HLI.out.1 HVN.out HNN.out H10.out⟩)
    | none =>
      have HGO : Hid (∀ e w', GrowOut w0 F rb R d e w' → FO e w') := HGR.out (by first | rfl | trivial) fun r' hr' _ => by
        rw [HVN.out, HV.out] at hr'
        cases hr'
      clear HMID HGR
      rw [HVAL.out] at HLK2
      have y0 := H3.out.blk.cell 0
      have y1 := H3.out.blk.cell 1
      have y2 := H3.out.r3.blk.cell 1
      have v0 := cell_alloc (.cells #[.string ⟨#[]⟩, .slice none 0 0] 24) y0
      have v1 := cell_alloc (.cells #[.string ⟨#[]⟩, .slice none 0 0] 24) y1
      have v2 := cell_alloc (.cells #[.string ⟨#[]⟩, .slice none 0 0] 24) y2
      have HLK3 : Hid (∀ W L, Sat w0 W (MapP mb (R.map fun r => (r.p, r.d.v)) :: L) → (Instr.lookup 76 (.map (some mb)) (.agg #[.string d.name, .int .i64 (vn : Int)]) true).run Tryd.prog W = .ok (.tuple #[.agg #[.string ⟨#[]⟩, .slice none 0 0], .bool false]) W) := HLK2.out
      have hk1 := HLK3.out _ _ H3.out.r5.drew
      have hk2 := HLK3.out _ _ (H3.out.new #[.string ⟨#[]⟩, .slice none 0 0] 24).r6.drew
      clear HLK2 HLK3
      go_wp2_with fail
      go_region
      obtain ⟨xb, hxb⟩ : ∃ q, W2.heap.size = q := ⟨_, rfl⟩
      have h4 := (H3.out.new #[.string ⟨#[]⟩, .slice none 0 0] 24).drew
      rw [hxb] at h4 ⊢
      obtain ⟨w9, hW3⟩ : ∃ x, x = (W2.alloc (.cells #[.string ⟨#[]⟩, .slice none 0 0] 24)).drew := ⟨_, rfl⟩
      rw [← hW3] at h4 ⊢
      have H5 := Lib.hid h4.tail
      clear hW3 h4 y0 y1 y2 v0 v1 v2 hk1 hk2 H3 HVAL HV C55 HLK
      have k0 := H5.out.r3.blk.cell 0
      have p0 := H5.out.blk.cell 0
      have p1 := H5.out.blk.cell 1
      have pf := H5.out.blk.free 1
      obtain ⟨nn, hNN⟩ : ∃ n, R.length = n := ⟨_, rfl⟩
      rw [hNN] at k0 H5 hlen
      have HNN := Lib.hid hNN
      clear hNN
      by_cases hfull : 16 ≤ nn
      · have tf : decide ((16 : Int) ≤ (nn : Int)) = true := decide_eq_true (by omega)
        clear p0 p1 pf hvn16
        go_wp2_with fail
        exact HGO.out _ _ (.inl ⟨by rw [HNN.out]; exact hfull, rfl, Sat.regClose (by rw [HNN.out]; exact H5.out.tail.tail)⟩)
      · have tf : decide ((16 : Int) ≤ (nn : Int)) = false := decide_eq_false (by omega)
        go_wp2_with fail
        have h6 := H5.out.set 1 (.int .i64 ((vn : Int) + 1))
        have h7 : Sat w0 (w9.setCell ⟨pb, 1, none⟩ (.int .i64 ((vn : Int) + 1))) (Row 80 2 A nn c (plcC (R.map Ver.p)) :: Blk pb 80 [.string d.name, .int .i64 ((vn : Int) + 1)] :: Blk b 24 [.string d.name, .slice d.A n d.c] :: Blk rb 78 [.slice A nn c, .map (some mb), .map (some lb)] ::
          MapP mb (R.map fun r => (r.p, r.d.v)) :: MapC lb nn (fun s => (verN R s : Int)) :: sep (R.map fun r => OwnP r.d) :: F) := h6.r4
        clear h6
        obtain ⟨W6, hW6⟩ : ∃ x, x = w9.setCell ⟨pb, 1, none⟩ (.int .i64 ((vn : Int) + 1)) := ⟨_, rfl⟩
        rw [← hW6] at h7 ⊢
        clear hW6 H5 k0 p0 p1 pf
        obtain ⟨gb, hgb⟩ : ∃ q, W6.heap.size = q := ⟨_, rfl⟩
        have H7 := Lib.hid h7
        clear h7
        go_cut [62] (fun s wx => ∃ A3 c3, Sat w0 wx (Blk rb 78 [.slice A3 (nn + 1) c3, .map (some mb), .map (some lb)] :: Row 80 2 A3 (nn + 1) c3 (plcC (R.map Ver.p) ++ [.string d.name, .int .i64 ((vn : Int) + 1)]) :: Blk pb 80 [.string d.name, .int .i64 ((vn : Int) + 1)] :: Blk b 24 [.string d.name, .slice d.A n d.c] ::
          MapP mb (R.map fun r => (r.p, r.d.v)) :: MapC lb nn (fun s => (verN R s : Int)) :: sep (R.map fun r => OwnP r.d) :: F))
        case first =>
          as_aux_lemma =>
            have k0 := H7.out.r4.blk.cell 0
            have p0 := H7.out.r2.blk.cell 0
            have p1 := H7.out.r2.blk.cell 1
            have h8 := H7.out.drew.new #[.string d.name, .int .i64 ((vn : Int) + 1)] 80
            have hgb' : W6.drew.heap.size = gb := hgb
            rw [hgb'] at h8
            clear hgb'
            have HB8 := Lib.hid h8
            have e0 := cell_alloc (.cells #[.string d.name, .int .i64 ((vn : Int) + 1)] 80) k0
            obtain ⟨i80, hi80, hz80, hs80, hb80⟩ := info_parts infoPl
            have HI80 := Lib.hid hi80
            have hb63 : nn + 1 ≤ maxLen ∧ (nn + 1) * 24 ≤ 140737488355328 := by unfold maxLen; omega
            have HONE : Hid (∀ u ∈ (#[.string d.name, .int .i64 ((vn : Int) + 1)] : Array Value).toList, u.oneCell' = true) := by
              show ∀ u ∈ _, _
              intro u hu
              simp at hu
              rcases hu with rfl | rfl <;> rfl
            have HLEN : Hid ((#[.string d.name, .int .i64 ((vn : Int) + 1)] : Array Value).toList.length = 2) := rfl
            have HZC : Hid ((Value.agg #[.string ⟨#[]⟩, .int .i64 0]).cells.size = 2) := rfl
            clear H7 hi80 h8
            go_region_law (first
              | (refine step_bs75 rfl 60 rfl (.string d.name) (.int .i64 ((vn : Int) + 1)) rfl ?_)
              | (refine step_app1 rfl (.tmp 59) (.tmp 61) 75 rfl 80 i80 _ 2 24 Tryd.underlying75 HI80.out hz80 hs80 hb80 HZC.out (by decide) rfl HB8.out rfl HLEN.out HONE.out hb63.1 hb63.2 ?_; intro A3 c3 W8 hS8; have q1 : W8.cell? ⟨rb, 0, none⟩ = some (.slice A nn c) := hS8.r4.blk.cell 0; have qf := hS8.r4.blk.free 0))
            all_goals
              have HX := Lib.hid (hS8.r4.set 0 (.slice A3 (nn + 1) c3))
              clear hS8 HB8
              go_wp2_with fail
              go_meet
              exact ⟨A3, c3, HX.out⟩
        case rest =>
          as_aux_lemma =>
            obtain ⟨A3, c3, hS⟩ := hcut
            have H8 := Lib.hid hS
            clear hS H7 hgb
            have HK : Hid (findP (d.name, (vn : Int) + 1) (R.map fun r => (r.p, r.d.v)) 0 = none) := by
              show _ = _
              have h := isP_V R (d.name, (vn : Int) + 1)
              rw [HNEW.out] at h
              cases hx : findP (d.name, (vn : Int) + 1) (R.map fun r => (r.p, r.d.v)) 0 with
              | none => rfl
              | some _ => rw [hx] at h; cases h
            go_wp2_with fail
            go_cut [71] (fun s wx => ∃ D : Df, Like D d ∧ Sat w0 wx (MapP mb ((R.map fun r => (r.p, r.d.v)) ++ [((d.name, (vn : Int) + 1), D.v)]) :: OwnP D :: Blk rb 78 [.slice A3 (nn + 1) c3, .map (some mb), .map (some lb)] :: Row 80 2 A3 (nn + 1) c3 (plcC (R.map Ver.p) ++ [.string d.name, .int .i64 ((vn : Int) + 1)]) :: Blk pb 80 [.string d.name, .int .i64 ((vn : Int) + 1)] :: Blk b 24 [.string d.name, .slice d.A n d.c] ::
              MapC lb nn (fun s => (verN R s : Int)) :: sep (R.map fun r => OwnP r.d) :: F))
            case first =>
              as_aux_lemma =>
                have HC := Lib.hid (C56.out wc.drew _ (HDF.out _ [_, _, _, _, _, _, _] H8.out.drew) H8.out.drew)
                have x1 := H8.out.blk.cell 1
                have x2 := H8.out.r3.blk.cell 0
                have x3 := H8.out.r3.blk.cell 1
                have x4 := H8.out.r4.blk.cell 0
                have x5 := H8.out.r4.blk.cell 1
                clear H8 C56 HB1 HDF
                go_region_held3 (fun w' => w'.cell? ⟨rb, 1, none⟩ = some (.map (some mb)) ∧ w'.cell? ⟨pb, 0, none⟩ = some (.string d.name) ∧ w'.cell? ⟨pb, 1, none⟩ = some (.int .i64 ((vn : Int) + 1)) ∧ w'.cell? ⟨b, 0, none⟩ = some (.string d.name) ∧ w'.cell? ⟨b, 1, none⟩ = some (.slice d.A n d.c))
                  (first | exact ⟨x1, x2, x3, x4, x5⟩ | exact ⟨y1, y2, y3, y4, y5⟩ | exact ⟨z1, z2, z3, z4, z5⟩)
                  (first
                    | (go_at_call 56; refine HC.out.mono ?_; rintro e w5 ⟨D, rfl, hl, h5⟩; obtain ⟨W9, hrun0, h9⟩ := h5.r6.plcPut HK.out D.v; have hrun : (Instr.mapUpdate 76 (.map (some mb)) (.agg #[.string d.name, .int .i64 ((vn : Int) + 1)]) (.agg #[.string D.name, .slice D.A D.steps.length D.c])).run Tryd.prog w5 = .ok () W9 := hrun0; have y1 := h5.r2.blk.cell 1; have y2 := h5.r4.blk.cell 0; have y3 := h5.r4.blk.cell 1; have y4 := h5.r5.blk.cell 0; have y5 := h5.r5.blk.cell 1; have z1 := h9.r3.blk.cell 1; have z2 := h9.r5.blk.cell 0; have z3 := h9.r5.blk.cell 1; have z4 := h9.r6.blk.cell 0; have z5 := h9.r6.blk.cell 1; have H9 := Lib.hid h9; clear h9 h5 hrun0))
                all_goals
                  go_wp2_with fail
                  go_meet
                  exact ⟨D, hl, H9.out⟩
            case rest =>
              as_aux_lemma =>
                obtain ⟨D, hl, hS⟩ := hcut
                have x2 := hS.r3.blk.cell 2
                have x3 := hS.r5.blk.cell 1
                have x4 := hS.r6.blk.cell 0
                have HM13 := Lib.hid hS.drew.r7
                have HLI := Lib.hid hl
                have HWF : Hid ((Lit.int .i64 ((vn : Int) + 1)).wf = true) := WalkArith.wf_i64 (by omega)
                have HNX : Hid (nn < maxLen) := by show _ < _; unfold maxLen; omega
                clear hS hl H8
                go_wp2_with fail
                go_still_tail 8, (by kernel_rfl)
                change wpList _ _ _ _ _ wc.drew
                go_wp2_with (first
                  | (at_mapUpdate; refine wpList_mapPut rfl (.tmp 75) (.tmp 77) (.tmp 79) rfl rfl HM13.out rfl rfl HNM.out HWF.out HNX.out ?_; intro w10 h10; have q1 := h10.r6.blk.cell 1; have H10 := Lib.hid h10; clear h10))
                exact HGO.out _ _ (.inr ⟨by rw [HNN.out]; omega, D, HLI.out, by rw [HVN.out]; rfl, regGrow HLI.out.1 HVN.out HNN.out H10.out⟩)
  · have t0 : (y != 0) = true := by simp [hy]
    have HBAD2 := Lib.hid (HBAD.out hy)
    clear hy hb1 H1
    go_wp2_with fail
    exact HBAD2.out _ _ rfl H2.out.tail.regClose
end Go.Proofs.YtpmoanjeoaeabaaDoor
