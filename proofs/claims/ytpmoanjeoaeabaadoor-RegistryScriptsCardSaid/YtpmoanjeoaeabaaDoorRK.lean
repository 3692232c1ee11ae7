/- The registry's Find. -/
import Derived.Test.YtpmoanjeoaeabaaDoorRJ
set_option linter.unusedVariables false
set_option linter.unusedSimpArgs false
set_option linter.unnecessarySimpa false
set_option maxRecDepth 100000
namespace Go.Proofs.YtpmoanjeoaeabaaDoor
open Go.RowKit Go.ChangeShapes Go.WideShapes Go.ChangeAt
/-- the version that is asked for -/
def verOf (R : List Ver) (nm : ByteArray) (ver : Int) : Int := if ver = 0 then (verN R nm : Int) else ver
def FindOut (w0 : World) (F : List HP) (rb : Nat) (R : List Ver) (nm : ByteArray) (ver : Int) (e : Ending) (w' : World) : Prop :=
  match findV R (nm, verOf R nm ver) with
  | none => e = .returned (.tuple #[.agg #[.string ⟨#[]⟩, .slice none 0 0], .int .i64 0, .int .i64 140]) ∧ Sat w0 w' (RegP rb R :: F)
  | some r => ∃ D : Df, e = .returned (.tuple #[likeV r.d D, .int .i64 (verOf R nm ver), .int .i64 0]) ∧ Like D r.d ∧ Sat w0 w' (OwnP D :: RegP rb R :: F)
theorem find_none {w0 w' : World} {F : List HP} {rb : Nat} {R : List Ver} {nm : ByteArray} {ver : Int} {e : Ending} (h : findV R (nm, verOf R nm ver) = none) (he : e = .returned (.tuple #[.agg #[.string ⟨#[]⟩, .slice none 0 0], .int .i64 0, .int .i64 140])) (hS : Sat w0 w' (RegP rb R :: F)) :
    FindOut w0 F rb R nm ver e w' := by unfold FindOut; rw [h]; exact ⟨he, hS⟩
theorem find_some {w0 w' : World} {F : List HP} {rb : Nat} {R : List Ver} {nm : ByteArray} {ver : Int} {e : Ending} {r : Ver} {D : Df} (h : findV R (nm, verOf R nm ver) = some r) (he : e = .returned (.tuple #[likeV r.d D, .int .i64 (verOf R nm ver), .int .i64 0]))
    (hl : Like D r.d) (hS : Sat w0 w' (OwnP D :: RegP rb R :: F)) : FindOut w0 F rb R nm ver e w' := by unfold FindOut; rw [h]; exact ⟨D, he, hl, hS⟩
theorem results_c3 {fn : Func} {p u v : Tmp} {ty : TypeId} (h : fn.results = #[.cell p ty, .tmp u, .tmp v]) (tmps : Array Value) (P : Program) (w : World) :
    (results fn tmps).run P w = ((asAddr (tmps.getD p undef)).run P w).andThen fun a w₁ => ((loadVar ty a).run P w₁).andThen fun x w₂ => .ok (.tuple #[x, tmps.getD u undef, tmps.getD v undef]) w₂ := by
  simp only [results, h]
  simp [Sem.run_bind, Result.andThen]
theorem res27 {w0 w : World} {F : List HP} {fn : Func} {g : Nat} {tmps : Array Value} {a b : Value} (hr : fn.results = #[.cell 6 24, .tmp 7, .tmp 8]) (h : Sat w0 w (Blk g 24 [a, b] :: F)) (hp : tmps.getD 6 undef = .pointer (some ⟨g, 0, none⟩)) :
    (results fn tmps).run Tryd.prog w = .ok (.tuple #[.agg #[a, b], tmps.getD 7 undef, tmps.getD 8 undef]) w := by
  rw [results_c3 hr, hp]
  simp only [asAddr, Sem.run_pure, Result.andThen_ok]
  rw [run_loadVar_row w g 24 24 #[a, b] (0, 0) _ h.blk u24 d24 i24]
  rfl
set_option maxHeartbeats 6400000 in
theorem find_any {w w0 : World} {F : List HP} {rb : Nat} {R : List Ver} (nm : ByteArray) (ver : Int) (hn : nm.size ≤ maxLen) (hv : wf64 ver) (hR : ∀ r ∈ R, Wf r.d) (hlen : R.length ≤ 16) (hS : Sat w0 w (RegP rb R :: F)) :
    Calls Tryd.prog 27 #[.pointer (some ⟨rb, 0, none⟩), .string nm, .int .i64 ver] w (FindOut w0 F rb R nm ver) := by
  obtain ⟨A, c, mb, lb, h0⟩ := hS.regOpen
  have h1 := h0.new #[.string ⟨#[]⟩, .slice none 0 0] 24
  have hs1 : (w.alloc (.cells #[.string ⟨#[]⟩, .slice none 0 0] 24)).heap.size = w.heap.size + 1 := by simp
  have h2 := h1.new #[.string nm, .int .i64 ver] 80
  obtain ⟨b, hb⟩ : ∃ b, w.heap.size = b := ⟨_, rfl⟩
  rw [hs1, hb] at h2
  have HNO : Hid (findV R (nm, verOf R nm ver) = none → ∀ e w', e = Ending.returned (.tuple #[.agg #[.string ⟨#[]⟩, .slice none 0 0], .int .i64 0, .int .i64 140]) → Sat w0 w' (RegP rb R :: F) → FindOut w0 F rb R nm ver e w') := fun h e w' he hs => find_none h he hs
  have HYES : Hid (∀ r, findV R (nm, verOf R nm ver) = some r → ∀ e w' D, e = Ending.returned (.tuple #[likeV r.d D, .int .i64 (verOf R nm ver), .int .i64 0]) → Like D r.d → Sat w0 w' (OwnP D :: RegP rb R :: F) → FindOut w0 F rb R nm ver e w') := fun r h e w' D he hl hs => find_some h he hl hs
  have HRET := Lib.hid (ret_V R (nm, verOf R nm ver))
  have HVAL := Lib.hid (valP_V R (nm, verOf R nm ver))
  have HOL : Hid ((R.map Ver.p).length = R.length) := List.length_map ..
  have HW := Lib.hid hR
  have HPV : Hid (verOf R nm ver = if ver = 0 then (verN R nm : Int) else ver) := rfl
  obtain ⟨pv, hpv⟩ : ∃ x, verOf R nm ver = x := ⟨_, rfl⟩
  rw [hpv] at HNO HYES HRET HVAL HPV
  obtain ⟨n, hN⟩ : ∃ n, R.length = n := ⟨_, rfl⟩
  rw [hN] at h2 hlen HOL
  rw [HOL.out] at HRET
  obtain ⟨V, hV⟩ : ∃ V, findV R (nm, pv) = V := ⟨_, rfl⟩
  rw [hV] at HNO HYES HRET HVAL
  obtain ⟨FO, hFO⟩ : ∃ X, FindOut w0 F rb R nm ver = X := ⟨_, rfl⟩
  rw [hFO] at HNO HYES ⊢
  obtain ⟨rt, hrt⟩ : ∃ x, (retI n fun j => decide ((R.map Ver.p).getD j (.empty, 0) = (nm, pv))) = x := ⟨_, rfl⟩
  rw [hrt] at HRET
  have I57 : Hid (∀ w1 F', Sat w0 w1 (Row 80 2 A n c (plcC (R.map Ver.p)) :: Blk (b + 1) 80 [.string nm, .int .i64 pv] :: F') → Calls Tryd.prog 57 #[.slice A n c, .func (.func 58) #[] #[.pointer (some ⟨b + 1, 0, none⟩)]] w1 fun e w' => e = .returned (.int .i64 rt) ∧ Sat w0 w' (Row 80 2 A n c (plcC (R.map Ver.p)) :: Blk (b + 1) 80 [.string nm, .int .i64 pv] :: F')) := fun w1 F' h => by
    have h5 := index57 (R.map Ver.p) (nm, pv) (by rw [HOL.out]; omega) (by rw [HOL.out]; exact h)
    rw [HOL.out, hrt] at h5
    exact h5
  have HN := Lib.hid hN
  have HV := Lib.hid hV
  have H2 := Lib.hid h2
  have H3 := Lib.hid (by have h := h1.new #[.string nm, .int .i64 pv] 80; rw [hs1, hb, hN] at h; exact h : Sat w0 ((w.alloc (.cells #[.string ⟨#[]⟩, .slice none 0 0] 24)).alloc (.cells #[.string nm, .int .i64 pv] 80)) (Blk (b + 1) 80 [.string nm, .int .i64 pv] :: Blk b 24 [.string ⟨#[]⟩, .slice none 0 0] :: Blk rb 78 [.slice A n c, .map (some mb), .map (some lb)] :: Row 80 2 A n c (plcC (R.map Ver.p)) :: MapP mb (R.map fun r => (r.p, r.d.v)) :: MapC lb n (fun s => (verN R s : Int)) :: sep (R.map fun r => OwnP r.d) :: F))
  have HLK : Hid (∀ W L, Sat w0 W (MapC lb n (fun s => (verN R s : Int)) :: L) → (Instr.lookup 66 (.map (some lb)) (.string nm) false).run Tryd.prog W = .ok (.int .i64 (verN R nm : Int)) W) := fun W L h => h.mapLook hn
  clear hR hv hn h0 h1 h2 hs1 hS hpv hN hV hFO hrt
  by_cases h0 : ver = 0
  · subst h0
    have hpv : pv = (verN R nm : Int) := by rw [HPV.out, if_pos rfl]
    have hlk := HLK.out _ _ H2.out.r6
    rw [← hpv] at hlk
    have x2 := H2.out.r3.blk.cell 2
    clear HLK HPV hpv
    have x0 := H3.out.r3.blk.cell 0
    have x1 := H3.out.r3.blk.cell 1
    go_enter Tryd.func27, Tryd.ntmps27
    go_wp2_with fail
    try simp only [hb]
    refine (I57.out _ _ H3.out.r4).mono ?_
    rintro e w1 ⟨rfl, h4⟩
    have z0 := h4.r3.blk.cell 0
    have z1 := h4.r3.blk.cell 1
    have f0 := h4.r3.blk.free 0
    have f1 := h4.r3.blk.free 1
    have k0 := h4.r2.blk.cell 0
    have k1 := h4.r2.blk.cell 1
    have y1 := h4.r4.blk.cell 1
    have H4 := Lib.hid h4
    clear h4 x0 x1 H2 H3 I57
    cases V with
    | none =>
      have t0 : decide (rt < 0) = true := decide_eq_true (by have := HRET.out; simp at this; omega)
      have hx := (H4.out.r3.set 0 (.string ⟨#[]⟩)).set 1 (.slice none 0 0)
      have HX : Hid (Sat w0 _ (Blk b 24 [.string ⟨#[]⟩, .slice none 0 0] :: Row 80 2 A n c (plcC (R.map Ver.p)) :: Blk (b + 1) 80 [.string nm, .int .i64 pv] :: Blk rb 78 [.slice A n c, .map (some mb), .map (some lb)] :: MapP mb (R.map fun r => (r.p, r.d.v)) :: MapC lb n (fun s => (verN R s : Int)) :: sep (R.map fun r => OwnP r.d) :: F)) := hx
      clear hx HRET HVAL HYES H4
      go_wp2_with fail
      refine bodyPost_ret (res27 (by rfl) HX.out (by rfl)) rfl ?_
      refine HNO.out (by first | rfl | trivial) _ _ rfl ?_
      have h9 := HX.out.tail.r2.tail.r2
      rw [← HN.out] at h9
      exact h9.regClose
    | some r =>
      have t0 : decide (rt < 0) = false := decide_eq_false (by have := HRET.out; simp at this; omega)
      have hmem := findV_mem HV.out
      have C56 : Hid (∀ W L, Sat w0 W (sep (R.map fun r => OwnP r.d) :: L) → Calls Tryd.prog 56 #[.agg #[.string r.d.name, .slice r.d.A r.d.steps.length r.d.c]] W fun e w' => ∃ D : Df, e = .returned (.agg #[.string r.d.name, .slice D.A r.d.steps.length D.c]) ∧ Like D r.d ∧ Sat w0 w' (OwnP D :: sep (R.map fun r => OwnP r.d) :: L)) := fun W L h =>
        rcopied_own (h.regDef hmem.1 (HW.out r hmem.1)) (HW.out r hmem.1).fits h
      have HLK2 : Hid (∀ W L, Sat w0 W (MapP mb (R.map fun r => (r.p, r.d.v)) :: L) → (Instr.lookup 76 (.map (some mb)) (.agg #[.string nm, .int .i64 pv]) false).run Tryd.prog W = .ok (.agg #[.string r.d.name, .slice r.d.A r.d.steps.length r.d.c]) W) := fun W L h => by
        have h1 := h.plcLook (nm, pv) false
        rw [HVAL.out] at h1
        exact h1
      have hlk2 := HLK2.out _ _ H4.out.r5.drew
      have HQ := Lib.hid H4.out.r7
      have HY : Hid (∀ e w' D, e = Ending.returned (.tuple #[.agg #[.string r.d.name, .slice D.A r.d.steps.length D.c], .int .i64 pv, .int .i64 0]) → Like D r.d → Sat w0 w' (OwnP D :: RegP rb R :: F) → FO e w') := fun e w' D he hl hs => HYES.out r rfl e w' D he hl hs
      clear HRET HVAL HYES HNO hmem H4 HLK2
      go_wp2_with fail
      go_region_with (first
        | (go_at_call 56; refine (C56.out _ _ HQ.out.drew).mono ?_; rintro e w5 ⟨D, rfl, hl, h5⟩; have u1 := h5.r4.blk.cell 1; have v0 := h5.r5.blk.cell 0; have v1 := h5.r5.blk.cell 1; have g0 := h5.r5.blk.free 0; have g1 := h5.r5.blk.free 1))
      all_goals
        have hx := (h5.r5.set 0 (.string r.d.name)).set 1 (.slice D.A r.d.steps.length D.c)
        have HX : Hid (Sat w0 _ (Blk b 24 [.string r.d.name, .slice D.A r.d.steps.length D.c] :: OwnP D :: sep (R.map fun r => OwnP r.d) :: Row 80 2 A n c (plcC (R.map Ver.p)) :: Blk (b + 1) 80 [.string nm, .int .i64 pv] :: Blk rb 78 [.slice A n c, .map (some mb), .map (some lb)] :: MapP mb (R.map fun r => (r.p, r.d.v)) :: MapC lb n (fun s => (verN R s : Int)) :: F)) := hx
        have HL := Lib.hid hl
        clear h5 hx hl u1 v0 v1 g0 g1
        go_wp2_with fail
        refine bodyPost_ret (res27 (by rfl) HX.out (by rfl)) rfl ?_
        refine HY.out _ _ D rfl HL.out ?_
        have h9 := HX.out.tail.r4.tail.r2.r6.r6.r5.r6
        rw [← HN.out] at h9
        exact h9.regClose.r2
  · have hpv : pv = ver := by rw [HPV.out, if_neg h0]
    subst hpv
    have t9 : (pv == 0) = false := by simp [h0]
    clear HLK HPV
    have x0 := H3.out.r3.blk.cell 0
    have x1 := H3.out.r3.blk.cell 1
    go_enter Tryd.func27, Tryd.ntmps27
    go_wp2_with fail
    try simp only [hb]
    refine (I57.out _ _ H3.out.r4).mono ?_
    rintro e w1 ⟨rfl, h4⟩
    have z0 := h4.r3.blk.cell 0
    have z1 := h4.r3.blk.cell 1
    have f0 := h4.r3.blk.free 0
    have f1 := h4.r3.blk.free 1
    have k0 := h4.r2.blk.cell 0
    have k1 := h4.r2.blk.cell 1
    have y1 := h4.r4.blk.cell 1
    have H4 := Lib.hid h4
    clear h4 x0 x1 H2 H3 I57
    cases V with
    | none =>
      have t0 : decide (rt < 0) = true := decide_eq_true (by have := HRET.out; simp at this; omega)
      have hx := (H4.out.r3.set 0 (.string ⟨#[]⟩)).set 1 (.slice none 0 0)
      have HX : Hid (Sat w0 _ (Blk b 24 [.string ⟨#[]⟩, .slice none 0 0] :: Row 80 2 A n c (plcC (R.map Ver.p)) :: Blk (b + 1) 80 [.string nm, .int .i64 pv] :: Blk rb 78 [.slice A n c, .map (some mb), .map (some lb)] :: MapP mb (R.map fun r => (r.p, r.d.v)) :: MapC lb n (fun s => (verN R s : Int)) :: sep (R.map fun r => OwnP r.d) :: F)) := hx
      clear hx HRET HVAL HYES H4
      go_wp2_with fail
      refine bodyPost_ret (res27 (by rfl) HX.out (by rfl)) rfl ?_
      refine HNO.out (by first | rfl | trivial) _ _ rfl ?_
      have h9 := HX.out.tail.r2.tail.r2
      rw [← HN.out] at h9
      exact h9.regClose
    | some r =>
      have t0 : decide (rt < 0) = false := decide_eq_false (by have := HRET.out; simp at this; omega)
      have hmem := findV_mem HV.out
      have C56 : Hid (∀ W L, Sat w0 W (sep (R.map fun r => OwnP r.d) :: L) → Calls Tryd.prog 56 #[.agg #[.string r.d.name, .slice r.d.A r.d.steps.length r.d.c]] W fun e w' => ∃ D : Df, e = .returned (.agg #[.string r.d.name, .slice D.A r.d.steps.length D.c]) ∧ Like D r.d ∧ Sat w0 w' (OwnP D :: sep (R.map fun r => OwnP r.d) :: L)) := fun W L h =>
        rcopied_own (h.regDef hmem.1 (HW.out r hmem.1)) (HW.out r hmem.1).fits h
      have HLK2 : Hid (∀ W L, Sat w0 W (MapP mb (R.map fun r => (r.p, r.d.v)) :: L) → (Instr.lookup 76 (.map (some mb)) (.agg #[.string nm, .int .i64 pv]) false).run Tryd.prog W = .ok (.agg #[.string r.d.name, .slice r.d.A r.d.steps.length r.d.c]) W) := fun W L h => by
        have h1 := h.plcLook (nm, pv) false
        rw [HVAL.out] at h1
        exact h1
      have hlk2 := HLK2.out _ _ H4.out.r5.drew
      have HQ := Lib.hid H4.out.r7
      have HY : Hid (∀ e w' D, e = Ending.returned (.tuple #[.agg #[.string r.d.name, .slice D.A r.d.steps.length D.c], .int .i64 pv, .int .i64 0]) → Like D r.d → Sat w0 w' (OwnP D :: RegP rb R :: F) → FO e w') := fun e w' D he hl hs => HYES.out r rfl e w' D he hl hs
      clear HRET HVAL HYES HNO hmem H4 HLK2
      go_wp2_with fail
      go_region_with (first
        | (go_at_call 56; refine (C56.out _ _ HQ.out.drew).mono ?_; rintro e w5 ⟨D, rfl, hl, h5⟩; have u1 := h5.r4.blk.cell 1; have v0 := h5.r5.blk.cell 0; have v1 := h5.r5.blk.cell 1; have g0 := h5.r5.blk.free 0; have g1 := h5.r5.blk.free 1))
      all_goals
        have hx := (h5.r5.set 0 (.string r.d.name)).set 1 (.slice D.A r.d.steps.length D.c)
        have HX : Hid (Sat w0 _ (Blk b 24 [.string r.d.name, .slice D.A r.d.steps.length D.c] :: OwnP D :: sep (R.map fun r => OwnP r.d) :: Row 80 2 A n c (plcC (R.map Ver.p)) :: Blk (b + 1) 80 [.string nm, .int .i64 pv] :: Blk rb 78 [.slice A n c, .map (some mb), .map (some lb)] :: MapP mb (R.map fun r => (r.p, r.d.v)) :: MapC lb n (fun s => (verN R s : Int)) :: F)) := hx
        have HL := Lib.hid hl
        clear h5 hx hl u1 v0 v1 g0 g1
        go_wp2_with fail
        refine bodyPost_ret (res27 (by rfl) HX.out (by rfl)) rfl ?_
        refine HY.out _ _ D rfl HL.out ?_
        have h9 := HX.out.tail.r4.tail.r2.r6.r6.r5.r6
        rw [← HN.out] at h9
        exact h9.regClose.r2
end Go.Proofs.YtpmoanjeoaeabaaDoor
