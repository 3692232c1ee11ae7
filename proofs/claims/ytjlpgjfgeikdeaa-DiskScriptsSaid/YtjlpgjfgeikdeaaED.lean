/- The law DiskScripts: the walk. -/
import Derived.Test.YtjlpgjfgeikdeaaEC
set_option linter.unusedVariables false
set_option linter.unusedSimpArgs false
set_option linter.unnecessarySimpa false
namespace Go.Proofs.Ytjlpgjfgeikdeaa
open Go.RowKit Go.ChangeShapes Go.WideShapes Go.ChangeAt
def Pairs (w w' : World) (A : Option Addr) (c : Nat) (ps : List PP) (F : List HP) : Prop :=
  1 ≤ ps.length ∧ ps.length ≤ 8 ∧ (∀ p ∈ ps, p.M.Ok) ∧ Sat w w' (Row 31 2 A ps.length c (pv ps) :: sep (ps.map PP.piece) :: Old w :: F)
def ScRel (w : World) (n : Nat) (l i : Value) (wr : World) : Prop :=
  ∃ (k : Nat) (ps : List PP) (A : Option Addr) (c : Nat), k ≤ n ∧ i = .int .i64 k ∧ l = .slice A ps.length c ∧ Pairs w wr A c ps []
def SmRel (w : World) (A : Option Addr) (c : Nat) (ps : List PP) (i : Value) (wr : World) : Prop :=
  ∃ k : Nat, k ≤ ps.length ∧ i = .int .i64 k ∧ Pairs w wr A c ps []
def MidRel (w : World) (n0 : Nat) (idx d r : Nat) (F : List HP) (l : Value) (wr : World) : Prop :=
  ∃ (ps : List PP) (A : Option Addr) (c : Nat) (h : idx < ps.length), l = .slice A ps.length c ∧ ps[idx].d = d ∧ ps[idx].r = r ∧ Pairs w wr A c ps F
theorem set_same (ps : List PP) (i : Nat) (h : i < ps.length) : ps.set i ⟨ps[i].d, ps[i].r, ps[i].v, ps[i].M⟩ = ps := List.set_getElem_self h
set_option maxRecDepth 100000 in
set_option maxHeartbeats 1600000 in
theorem diskScripts_walk (room : Int) (A : Option Addr) (n c : Nat) (l : List DOp) (w : World) (w0 : (Lit.int .i64 room).wf = true) (w1 : OpsAt w A n c l) (_ : n * 48 ≤ 140737488351232) :
    Calls Try.prog 8 #[.int .i64 room, .slice A n c] w fun e w' => e = .returned (.bool true) ∧ Below w.heap.size w w' := by
  have HE := Lib.hid w1.1
  obtain ⟨hn, hml, _⟩ := w1.1.at_
  rw [List.length_map] at hn hml
  subst hn
  unfold maxLen at hml
  have HW := Lib.hid w1.2
  have HR : Hid (wf64 room) := i64_of w0
  have hpr := pickN_lt room 200 (by decide)
  obtain ⟨q, hq⟩ : ∃ q, pickN room 200 = q := ⟨_, rfl⟩
  rw [hq] at hpr
  have HQ := Lib.hid hq
  have HFO : Hid ((freshM (3 + (q : Int))).Ok) := fresh_ok (by omega) (by omega)
  obtain ⟨ii, hi, hz, hsz, hby⟩ := info_parts info31
  clear hq w0 w1
  go_enter Try.func8, Try.ntmps8
  go_wp2_with fail
  refine (pick_any room 200 w HR.out (by decide) (by decide)).mono ?_
  rintro e w' ⟨rfl, rfl⟩
  rw [HQ.out]
  go_wp2_with fail
  refine (new_any (3 + (q : Int)) w' (by omega) (by omega)).mono ?_
  rintro e w2 ⟨rfl, hD, hb⟩
  have hS2 := (Sat.start w').diskNew hb hD (fun k hk => by rcases hk with rfl | ⟨i, hi, hk⟩; exact Nat.le_refl _; simp [Value.ownBlock] at hk)
  clear hD hb
  obtain ⟨d, hd⟩ : ∃ d, w'.heap.size = d := ⟨_, rfl⟩
  rw [hd] at hS2 ⊢
  clear hd
  go_wp2_with fail
  refine (rnew_any (3 + (q : Int)) w2 (by omega) (by omega)).mono ?_
  rintro e w3 ⟨rfl, hD, hb⟩
  have hS3 := hS2.made hb (Nat.le_refl _) hD
  clear hD hb hS2
  obtain ⟨r, hr⟩ : ∃ d, w2.heap.size = d := ⟨_, rfl⟩
  rw [hr] at hS3 ⊢
  clear hr
  go_wp2_with fail
  refine (begun_sat hS3 (3 + (q : Int)) (by omega) (by omega)).mono ?_
  rintro e w4 ⟨g, v, rfl, hS4⟩
  clear hS3
  have hS5 := (hS4.tail.r2.new #[.pointer (some ⟨d, 0, none⟩), .pointer (some ⟨r, 0, none⟩)] 31)
  have hR : Sat w' _ (Row 31 2 (some ⟨w4.heap.size, 0, none⟩) 1 1 (pv [⟨d, r, fun _ => .slice none 0 0, freshM (3 + (q : Int))⟩]) :: _) := Sat.rowOf (E := 31) (sz := 2) (n := 1) (c := 1) (xs := pv [⟨d, r, fun _ => .slice none 0 0, freshM (3 + (q : Int))⟩]) hS5 rfl (by omega) (by unfold maxLen; omega) rfl rfl
  have hR2 : Sat w' _ [_, sep ([(⟨d, r, fun _ => .slice none 0 0, freshM (3 + (q : Int))⟩ : PP)].map PP.piece), Old w'] := (Sat.close (M := [sep [DiskV d (fun _ => .slice none 0 0) (freshM (3 + (q : Int))), Blk r 69 (cellsR (freshM (3 + (q : Int))))]]) hR.r2.r3.r2.close2).r2
  clear hS4 hS5 hR
  go_wp2_with fail
  go_loopw [9, 10] (ScRel w' l.length) (fun _ i _ => l.length - (intOf i).toNat)
  case atStart => exact ⟨0, [⟨d, r, fun _ => .slice none 0 0, freshM (3 + (q : Int))⟩], _, _, Nat.zero_le _, rfl, rfl, by simp, by simp, by simp; exact HFO.out, hR2⟩
  case round =>
    obtain ⟨k, ps, A1, c1, hk, rfl, rfl, hp1, hp2, hps, hT⟩ := hrel
    clear hR2
    have HPS := Lib.hid hps
    clear hps
    by_cases hlt : k < l.length
    · obtain ⟨b, of, rfl, hc⟩ := (HE.out.keep (hT.old (by simp))).at_.2.2 (by rw [List.length_map]; omega)
      have hc' := hc k (by rw [List.length_map]; exact hlt)
      have hx : (l.map DOp.vs).getD k [] = (l[k]).vs := by simp [List.getD, hlt]
      rw [hx] at hc'
      have HWF := Lib.hid (HW.out _ (List.getElem_mem hlt))
      have hdk := HWF.out.1
      obtain ⟨o, hM⟩ : ∃ x, l[k] = x := ⟨_, rfl⟩
      rw [hM] at hc' HWF hdk
      clear hM
      obtain ⟨act, dk, fl, nm, s⟩ := o
      have e0 := hc' 0 (by decide)
      have e1 := hc' 1 (by decide)
      have e2 := hc' 2 (by decide)
      have e3 := hc' 3 (by decide)
      have e4 := hc' 4 (by decide)
      simp only [DOp.vs] at e0 e1 e2 e3 e4
      rw [Nat.add_zero] at e0
      simp only at hdk
      have HDK := Lib.hid hdk
      clear hc hc' hx hdk
      obtain ⟨ix, hix⟩ : ∃ ix, pickN dk ps.length = ix := ⟨_, rfl⟩
      have hixl := pickN_lt dk ps.length (by omega)
      rw [hix] at hixl
      have HIX := Lib.hid hix
      clear hix
      obtain ⟨g1, rfl, hcell⟩ := hT.pairCells (by omega)
      obtain ⟨y0, y1⟩ := hcell ix hixl
      have hg1 : g1 < wr.heap.size := World.block_lt_of_cell? wr _ y0
      have hT2 := hT.new #[.int .i64 act, .int .i64 dk, .int .i64 fl, .int .i64 nm, .string s] 48
      obtain ⟨d1, hd1⟩ : ∃ d1, ps[ix].d = d1 := ⟨_, rfl⟩
      obtain ⟨r1, hr1⟩ : ∃ r1, ps[ix].r = r1 := ⟨_, rfl⟩
      rw [hd1] at y0
      rw [hr1] at y1
      have hT3 := hT2.new #[.pointer (some ⟨d1, 0, none⟩), .pointer (some ⟨r1, 0, none⟩)] 31
      have hq2 : (wr.alloc (.cells #[.int .i64 act, .int .i64 dk, .int .i64 fl, .int .i64 nm, .string s] 48)).heap.size = wr.heap.size + 1 := by simp
      rw [hq2] at hT3
      have HT3 := Lib.hid hT3
      have HD1 := Lib.hid hd1
      have HR1 := Lib.hid hr1
      clear hcell hT2 hT3 hq2 hd1 hr1 hT
      go_wp2_with fail
      refine (pick_any dk ps.length _ HDK.out (by omega) (by omega)).mono ?_
      rintro e w5 ⟨rfl, rfl⟩
      rw [HIX.out]
      go_upto_region 12 with fail
      have h3 := HT3.out
      generalize (wr.alloc (.cells #[.int .i64 act, .int .i64 dk, .int .i64 fl, .int .i64 nm, .string s] 48)).alloc (.cells #[.pointer (some ⟨d1, 0, none⟩), .pointer (some ⟨r1, 0, none⟩)] 31) = W at h3 ⊢
      obtain ⟨p, hp⟩ : ∃ p, wr.heap.size = p := ⟨_, rfl⟩
      rw [hp] at h3 ⊢
      clear HT3 hp hg1 y0 y1 e0 e1 e2 e3 e4
      obtain ⟨FB, hFB⟩ : ∃ FB : List HP, FB = [Blk (p + 1) 31 [.pointer (some ⟨d1, 0, none⟩), .pointer (some ⟨r1, 0, none⟩)], Blk p 48 [.int .i64 act, .int .i64 dk, .int .i64 fl, .int .i64 nm, .string s]] := ⟨_, rfl⟩
      have h4 : Sat w' W (Row 31 2 (some ⟨g1, 0, none⟩) ps.length c1 (pv ps) :: sep (ps.map PP.piece) :: Old w' :: FB) := by rw [hFB]; exact h3.perm (List.perm_append_comm (l₁ := [_, _]) (l₂ := [_, _, _]))
      have HFB := Lib.hid hFB
      have x0 := h3.blk.cell 0
      have x1 := h3.blk.cell 1
      have z0 := h3.r2.blk.cell 0
      have z1 := h3.r2.blk.cell 1
      have z2 := h3.r2.blk.cell 2
      have z3 := h3.r2.blk.cell 3
      have z4 := h3.r2.blk.cell 4
      clear hFB h3
      obtain ⟨tb, htb⟩ : ∃ tb, tb = decide (act = 7 ∧ ps.length < 8) := ⟨_, rfl⟩
      have HTB := Lib.hid htb
      go_cut [68] (fun v wx => v = .bool tb ∧ wx = W)
      case first =>
        by_cases a8 : act = 7
        · by_cases a7 : ps.length < 8
          · have a9 : decide ((ps.length : Int) < 8) = true := by simp; omega
            have : tb = true := by rw [htb]; simp [a8, a7]
            subst this
            subst a8
            clear htb
            go_wp2_with fail
            go_meet
            exact ⟨rfl, rfl⟩
          · have a9 : decide ((ps.length : Int) < 8) = false := by simp; omega
            have : tb = false := by rw [htb]; simp [a7]
            subst this
            subst a8
            clear htb
            go_wp2_with fail
            go_meet
            exact ⟨rfl, rfl⟩
        · have t7 : (act == 7) = false := by rw [beq_eq_false_iff_ne]; exact a8
          have : tb = false := by rw [htb]; simp [a8]
          subst this
          clear htb
          go_wp2_with fail
          go_meet
          exact ⟨rfl, rfl⟩
      obtain ⟨rfl, rfl⟩ := hcut
      clear htb
      go_upto_if 68 with fail
      go_cut [9] (MidRel w' ps.length ix d1 r1 FB)
      case first =>
        cases tb with
        | true =>
          obtain ⟨rfl, hl8⟩ : act = 7 ∧ ps.length < 8 := by have := HTB.out; simpa using this.symm
          have h5 := h4.r2.pair ix hixl
          have HPM := Lib.hid (HPS.out _ (List.getElem_mem hixl))
          have hset := set_same ps ix hixl
          have hup : ∀ (wx : World) (G : List HP), Sat w' wx (DiskV d1 ps[ix].v ps[ix].M :: Blk r1 69 (cellsR ps[ix].M) :: sep ((ps.map PP.piece).eraseIdx ix) :: G) → Sat w' wx (sep (ps.map PP.piece) :: G) := by
            intro wx G h
            have h' : Sat w' wx (DiskV ps[ix].d ps[ix].v ps[ix].M :: Blk ps[ix].r 69 (cellsR ps[ix].M) :: sep ((ps.map PP.piece).eraseIdx ix) :: G) := by rw [HD1.out, HR1.out]; exact h
            have h2 := Sat.unpair ix hixl h'
            rw [hset] at h2
            exact h2
          rw [HD1.out, HR1.out] at h5
          obtain ⟨v1, hv1⟩ : ∃ v1, ps[ix].v = v1 := ⟨_, rfl⟩
          obtain ⟨M1, hM1⟩ : ∃ M1, ps[ix].M = M1 := ⟨_, rfl⟩
          rw [hv1, hM1] at h5 hup
          rw [hM1] at HPM
          have HUP := Lib.hid hup
          clear hv1 hM1 hup hset h4
          go_wp2_with fail
          refine (copy_sat h5 HPM.out).mono ?_
          rintro e w6 ⟨g2, v2, rfl, h6⟩
          have x1' : w6.cell? ⟨p + 1, 1, none⟩ = some (.pointer (some ⟨r1, 0, none⟩)) := by
            have h7 := h6
            rw [HFB.out] at h7
            exact (h7.perm (List.perm_append_comm (l₁ := [_, _, _, _, _, _]) (l₂ := [_, _]))).blk.cell 1
          clear h5 x0 x1 z0 z1 z2 z3 z4
          go_wp2_with fail
          refine (rcopy_any r1 M1 h6.r3).mono ?_
          rintro e w7 ⟨g3, rfl, h7⟩
          have h8 := h7.r6
          have h4' : ps.length + 1 ≤ maxLen := by unfold maxLen; omega
          have h5' : (ps.length + 1) * 16 ≤ 140737488355328 := by omega
          go_wp2_with (at_builtin; refine wpList_app1 rfl (.tmp 74) (.tmp 80) 54 rfl 31 ii (.agg #[.pointer none, .pointer none]) 2 16 Try.underlying54 hi hz hsz hby rfl (by decide) rfl (h8.new #[.pointer (some ⟨g2, 0, none⟩), .pointer (some ⟨g3, 0, none⟩)] 31) (by rfl) rfl (by intro u hu; simp at hu; rcases hu with rfl | rfl <;> rfl) h4' h5' ?_; intro A' c' w8 h9; clear x1')
          go_meet
          refine ⟨ps ++ [⟨g2, g3, v2, M1⟩], A', c', by simp; omega, by simp, ?_, ?_, by simp, by simp; omega, ?_, ?_⟩
          · rw [List.getElem_append_left hixl]; exact HD1.out
          · rw [List.getElem_append_left hixl]; exact HR1.out
          · intro z hz
            rcases List.mem_append.1 hz with hz | hz
            · exact HPS.out z hz
            · simp at hz; subst hz; exact HPM.out
          · have h10 := (HUP.out _ _ h9.r5.r4.r2.r6.b3).r3.r4.close2.snoc.r2
            rw [pv_snoc, List.map_append, List.length_append]
            exact h10
        | false =>
          go_wp2_with fail
          go_meet
          exact ⟨ps, _, _, hixl, rfl, HD1.out, HR1.out, hp1, hp2, HPS.out, h4⟩
      case rest =>
        obtain ⟨qs, A2, c2, hx, rfl, hqd, hqr, hq1, hq2, hqs, h5⟩ := hcut
        clear h4 x0 x1 z0 z1 z2 z3 z4
        rw [HFB.out] at h5
        have h6 := h5.perm (List.perm_append_comm (l₁ := [_, _, _]) (l₂ := [_, _]))
        have x0 := h6.blk.cell 0
        have x1 := h6.blk.cell 1
        have z0 := h6.r2.blk.cell 0
        have z1 := h6.r2.blk.cell 1
        have z2 := h6.r2.blk.cell 2
        have z3 := h6.r2.blk.cell 3
        have z4 := h6.r2.blk.cell 4
        have h7 := h5.r2.pair ix hx
        rw [hqd, hqr] at h7
        have HQS := Lib.hid hqs
        have HQM := Lib.hid (hqs _ (List.getElem_mem hx))
        have hup : ∀ (wx : World) (G : List HP) (v : Nat → Value) (M : MD), Sat w' wx (DiskV d1 v M :: Blk r1 69 (cellsR M) :: sep ((qs.map PP.piece).eraseIdx ix) :: G) → Sat w' wx (sep ((qs.set ix ⟨qs[ix].d, qs[ix].r, v, M⟩).map PP.piece) :: G) := by
          intro wx G v M h
          exact Sat.unpair ix hx (by rw [hqd, hqr]; exact h)
        have HUP := Lib.hid hup
        have hpv := pv_set qs ix hx
        have HPV := Lib.hid hpv
        clear hup h5 h6 hqs hpv hqd hqr
        go_wp2_with fail
        refine (does_sat ⟨act, dk, fl, nm, s⟩ h7 HQM.out HWF.out).mono ?_
        rintro e w6 ⟨rfl, v6, h8⟩
        have hOK2 : Hid ((stepM qs[ix].M ⟨act, dk, fl, nm, s⟩).Ok) := step_ok HQM.out _
        obtain ⟨M6, hM6⟩ : ∃ M6, stepM qs[ix].M ⟨act, dk, fl, nm, s⟩ = M6 := ⟨_, rfl⟩
        rw [hM6] at h8 hOK2
        have h9 := (HUP.out _ _ _ _ h8).r2
        rw [← HPV.out v6 M6] at h9
        have hl : (qs.set ix ⟨qs[ix].d, qs[ix].r, v6, M6⟩).length = qs.length := by simp
        rw [← hl] at h9 hq1 hq2 ⊢
        have hall : ∀ z ∈ qs.set ix ⟨qs[ix].d, qs[ix].r, v6, M6⟩, z.M.Ok := by
          intro z hz
          rcases List.mem_or_eq_of_mem_set hz with hz | rfl
          · exact HQS.out z hz
          · exact hOK2.out
        have h10 := h9.r4.tail.r4.tail
        generalize qs.set ix ⟨qs[ix].d, qs[ix].r, v6, M6⟩ = ts at h10 hall hq1 hq2 ⊢
        have HALL := Lib.hid hall
        clear hall h9 h8 h7 hM6 hl x0 x1 z0 z1 z2 z3 z4 HUP HPV
        go_wp2_with fail
        go_loopw [14] (SmRel w' A2 c2 ts) (fun i _ => ts.length - (intOf i).toNat)
        case atStart => exact ⟨0, Nat.zero_le _, rfl, hq1, hq2, HALL.out, h10⟩
        case round =>
          obtain ⟨j, hj, rfl, _, _, _, hU⟩ := hrel
          clear h10
          by_cases hjl : j < ts.length
          · obtain ⟨g5, rfl, hcell⟩ := hU.pairCells (by omega)
            obtain ⟨y0, y1⟩ := hcell j hjl
            have h5 := hU.r2.pair j hjl
            have HOKJ := Lib.hid (HALL.out _ (List.getElem_mem hjl))
            have hset := set_same ts j hjl
            have hup : ∀ (wx : World) (G : List HP), Sat w' wx (DiskV ts[j].d ts[j].v ts[j].M :: Blk ts[j].r 69 (cellsR ts[j].M) :: sep ((ts.map PP.piece).eraseIdx j) :: G) → Sat w' wx (sep (ts.map PP.piece) :: G) := by
              intro wx G h
              have h2 := Sat.unpair j hjl h
              rw [hset] at h2
              exact h2
            obtain ⟨⟨dj, rj, vj, Mj⟩, hTJ⟩ : ∃ x, ts[j] = x := ⟨_, rfl⟩
            rw [hTJ] at y0 y1 h5 hup HOKJ
            simp only at y0 y1 h5 hup HOKJ
            have HUP := Lib.hid hup
            clear hcell hTJ hset hup hU
            go_wp2_with fail
            refine (same_sat h5 HOKJ.out).mono ?_
            rintro e w9 ⟨rfl, h6⟩
            go_wp2_with fail
            go_roundw
            case rel => exact ⟨j + 1, by omega, by go_num, hq1, hq2, HALL.out, (HUP.out _ _ h6).r2⟩
            case measure => simp [intOf]; omega
          · go_wp2_with fail
            go_roundw
            case rel => exact ⟨k + 1, ts, A2, c2, by omega, by go_num, rfl, hq1, hq2, HALL.out, hU⟩
            case measure => simp [intOf]; omega
    · go_wp2_with fail
      go_ret
      exact ⟨rfl, hT.old (by simp)⟩
end Go.Proofs.Ytjlpgjfgeikdeaa
