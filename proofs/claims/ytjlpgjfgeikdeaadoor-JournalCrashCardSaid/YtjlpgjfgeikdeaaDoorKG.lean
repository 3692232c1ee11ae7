/- The law's own functions: plays; a journal behind Adds, Syncs and Compacts. -/
import Derived.Test.YtjlpgjfgeikdeaaDoorKD
set_option linter.unusedVariables false
set_option linter.unusedSimpArgs false
set_option linter.unnecessarySimpa false
set_option maxRecDepth 100000
namespace Go.Proofs.YtjlpgjfgeikdeaaDoor
open Go.RowKit Go.ChangeShapes Go.WideShapes Go.ChangeAt
open Fr (strOfNats strOfNats_size strOfNats_bytes bytesOf Table restOf wrapS)
theorem jop_cells {w0 w' : World} {b of c : Nat} {l : List JOp} (hE : Elems w0 (.slice (some ⟨b, of, none⟩) l.length c) 3 (l.map JOp.vs)) (hb : Below w0.heap.size w0 w') (k : Nat) (hk : k < l.length) :
    w'.cell? ⟨b, of + k * 3, none⟩ = some (.int .i64 l[k].act) ∧ w'.cell? ⟨b, of + k * 3 + 1, none⟩ = some (.int .i64 l[k].num) ∧ w'.cell? ⟨b, of + k * 3 + 2, none⟩ = some (.string l[k].s) := by
  obtain ⟨b', of', e, hc⟩ := (hE.keep hb).at_.2.2 (by rw [List.length_map]; omega)
  cases e
  have hc' := hc k (by rw [List.length_map]; exact hk)
  have hx : (l.map JOp.vs).getD k [] = (l[k]).vs := by simp [List.getD, hk]
  rw [hx] at hc'
  exact ⟨hc' 0 (by decide), hc' 1 (by decide), hc' 2 (by decide)⟩
theorem jop_addr {w0 : World} {A : Option Addr} {c : Nat} {l : List JOp} (hE : Elems w0 (.slice A l.length c) 3 (l.map JOp.vs)) (hk : 0 < l.length) : ∃ b of, A = some ⟨b, of, none⟩ := by
  obtain ⟨b', of', e, hc⟩ := hE.at_.2.2 (by rw [List.length_map]; omega)
  exact ⟨b', of', e⟩
/-- what was put in, and that it stands; the other files are empty -/
structure Told (M : MD) (J : JS) (snap : ByteArray) (recs : List ByteArray) (t : Nat) : Prop where
  good : Good M J snap recs
  safe : Safe M J snap recs t
  only : M.used = (M.f J.file).b.size
section
variable {M : MD} {J : JS} {snap : ByteArray} {recs : List ByteArray} {t : Nat}
theorem only_set {n : Nat} {x : MF} (hn : n < 4) (h : M.used = (M.f n).b.size) : (M.set n x).used = ((M.set n x).f n).b.size := by
  have := used_set M n x hn
  rw [set_f, if_pos rfl]
  omega
theorem Told.add (h : Told M J snap recs t) (s : ByteArray) (hc : (addR M J s).2.2 = 0) : Told (addR M J s).1 (addR M J s).2.1 snap (recs ++ [s]) t := by
  obtain ⟨h1, h2, _⟩ := good_add h.good s hc
  refine ⟨h1, safe_app' h.good h.safe s hc, ?_⟩
  rw [h2]
  show (addR M J s).1.used = ((addR M J s).1.f J.file).b.size
  have hf := h.good.file
  unfold addR at hc ⊢
  by_cases a1 : 4000 < s.size
  · rw [if_pos a1] at hc; simp at hc
  rw [if_neg a1] at hc ⊢
  by_cases a2 : (appR M J.file (wrapS s)).2 = 0
  · rw [if_pos a2]
    show (appR M J.file (wrapS s)).1.used = ((appR M J.file (wrapS s)).1.f J.file).b.size
    rw [app_eq (by omega) a2]
    exact only_set (by omega) h.only
  · rw [if_neg a2] at hc; exact absurd hc a2
theorem Told.sync (h : Told M J snap recs t) : Told (jsyncR M J).1 J snap recs recs.length := by
  obtain ⟨h1, h2⟩ := good_sync h.good
  refine ⟨h1, safe_all h1 h2, ?_⟩
  have hf := h.good.file
  unfold jsyncR
  rw [sync_eq (by omega)]
  exact only_set (by omega) h.only
theorem Told.comp (h : Told M J snap recs t) (s : ByteArray) : ((compR M J s).2.2 = 0 ∧ Told (compR M J s).1 (compR M J s).2.1 s [] 0 ∧ (compR M J s).2.1 = ⟨1 - J.file, J.gen + 1, 0⟩) ∨ ((compR M J s).2.2 ≠ 0 ∧ (compR M J s).1 = M ∧ (compR M J s).2.1 = J) := by
  rcases good_comp h.good s with ⟨h0, h1, h2, h3, h4⟩ | h
  · refine .inl ⟨h0, ?_, h2⟩
    rw [h2]
    refine ⟨h1, safe_all h1 h3, ?_⟩
    show _ = ((compR M J s).1.f (1 - J.file)).b.size
    rw [show ((compR M J s).1.f (1 - J.file)).b = _ from h1.here, file_size]
    have := h.only
    simp only [sizeB]
    show (compR M J s).1.used = (headS (J.gen + 1) s).size + 0
    omega
  · exact .inr h
theorem made_told {room : Nat} (h : 17 ≤ room) (h2 : room ≤ 1048576) : Told (madeM room) ⟨0, 1, 0⟩ noText [] 0 := by
  have hg := good_made h h2
  refine ⟨hg, safe_all hg (made_safe h), ?_⟩
  have hl := (lays_yes (M := freshM room) (file := 0) (gen := 1) (snap := noText) (by decide) (made_code (by omega))).2.2.2
  unfold madeM
  rw [hl]
  exact only_set (by decide) rfl
theorem Told.len (h : Told M J snap recs t) : recs.length ≤ 131072 := by
  have := h.good.sane.n_le
  rw [h.good.n] at this
  exact this
end
/-- the told's cell -/
def TB (g : Nat) (snap : ByteArray) (A : Option Addr) (n c t : Nat) : HP := Blk g 49 [.string snap, .slice A n c, .int .i64 t]
def PlsOut (w0 : World) (F : List HP) (e : Ending) (w' : World) : Prop :=
  ∃ (d j : Nat) (v : Nat → Value) (M : MD) (J : JS) (snap : ByteArray) (recs : List ByteArray) (t : Nat) (A : Option Addr) (c : Nat),
    e = .returned (.tuple #[.pointer (some ⟨d, 0, none⟩), .pointer (some ⟨j, 0, none⟩), .agg #[.string snap, .slice A recs.length c, .int .i64 t], .bool true]) ∧ Told M J snap recs t ∧
    Sat w0 w' (JB j d J :: DiskV d v M :: Row 9 1 A recs.length c (strs recs) :: F)
def PlsRel (w0 : World) (F : List HP) (p d j r y g : Nat) (n : Nat) (i : Value) (wr : World) : Prop :=
  ∃ (k : Nat) (v : Nat → Value) (M : MD) (J : JS) (snap : ByteArray) (recs : List ByteArray) (t : Nat) (A : Option Addr) (c : Nat), k ≤ n ∧ i = .int .i64 k ∧ Told M J snap recs t ∧
    Sat w0 wr (JB j d J :: DiskV d v M :: PB p d j r y :: TB g snap A recs.length c t :: Row 9 1 A recs.length c (strs recs) :: F)
theorem results_tt_cell_t {fn : Func} {a b p u : Tmp} {ty : TypeId} (h : fn.results = #[.tmp a, .tmp b, .cell p ty, .tmp u]) (tmps : Array Value) (P : Program) (w : World) :
    (results fn tmps).run P w =
      ((asAddr (tmps.getD p undef)).run P w).andThen fun x w₁ => ((loadVar ty x).run P w₁).andThen fun v w₂ => .ok (.tuple #[tmps.getD a undef, tmps.getD b undef, v, tmps.getD u undef]) w₂ := by
  simp only [results, h]
  simp [Sem.run_bind, Result.andThen]
section
variable {w0 w : World} {F : List HP}
theorem u49 : Tryd.prog.underlying 49 = some (((Tryd.prog.underlying 49).getD (.struct #[]))) := by kernel_rfl
theorem d49 : (match (Tryd.prog.underlying 49).getD (.struct #[]) with | .struct _ | .array _ _ => true | _ => false) = true := by kernel_rfl
theorem i49 : (Tryd.prog.info? 49).map (·.size) = some 3 := by kernel_rfl
theorem pl_results {w : World} {g : Nat} {tmps : Array Value} {a b c x y z : Value} (h : Sat w0 w (Blk g 49 [a, b, c] :: F)) (hp : tmps.getD 6 undef = .pointer (some ⟨g, 0, none⟩)) (hx : tmps.getD 4 undef = x) (hy : tmps.getD 5 undef = y) (hz : tmps.getD 7 undef = z) :
    (results Tryd.f19 tmps).run Tryd.prog w = .ok (.tuple #[x, y, .agg #[a, b, c], z]) w := by
  rw [results_tt_cell_t (by rfl)]
  rw [hp]
  simp only [asAddr, Sem.run_pure, Result.andThen_ok]
  rw [run_loadVar_row w g 49 49 #[a, b, c] (0, 0) _ h.blk u49 d49 i49, ← hx, ← hy, ← hz]
  rfl
set_option maxHeartbeats 6400000 in
theorem plays_any (room : Int) (A : Option Addr) (n c : Nat) (l : List JOp) (hS : Sat w0 w F) (hO : Old w0 ∈ F) (hT : Table w0) (hr : wf64 room) (hI : JOpsAt w0 A n c l) :
    Calls Tryd.prog 19 #[.int .i64 room, .slice A n c] w (PlsOut w0 F) := by
  obtain ⟨ii, hi, hz, hsz9, hby⟩ := info_parts info9
  obtain ⟨hn, hml, _⟩ := hI.1.at_
  rw [List.length_map] at hn hml
  subst hn
  unfold maxLen at hml
  have HE := Lib.hid hI.1
  have HW := Lib.hid hI.2
  have hpk := pickN_lt room 6000 (by decide)
  have HP0 : Hid (∀ w1, Calls Tryd.prog 23 #[.int .i64 room, .int .i64 6000] w1 fun e w' => e = .returned (.int .i64 (pickN room 6000 : Nat)) ∧ w' = w1) := fun w1 => pick_any room 6000 w1 hr (by decide) (by decide)
  obtain ⟨q, hq⟩ : ∃ q, pickN room 6000 = q := ⟨_, rfl⟩
  rw [hq] at hpk HP0
  have hr : (20 : Int) + (q : Int) = ((20 + q : Nat) : Int) := by omega
  have h0 := hS.new #[.string ⟨#[]⟩, .slice none 0 0, .int .i64 0] 49
  obtain ⟨g6, hg6⟩ : ∃ g, w.heap.size = g := ⟨_, rfl⟩
  have H1 := Lib.hid (made_any (20 + q) (by omega) (by omega) h0 (by simp [hO]) hT)
  have HTD := Lib.hid (made_told (room := 20 + q) (by omega) (by omega))
  obtain ⟨B, hB⟩ : ∃ B, madeM ((20 + q : Nat) : Int) = B := ⟨_, rfl⟩
  rw [hB] at H1 HTD
  have sw0 : IntKind.i64.wrap (20 + (q : Int)) = ((20 + q : Nat) : Int) := by rw [← hr]; exact IntWalk.i64_in _ (by omega)
  clear hB hq hI hr h0 hS
  go_enter Tryd.func19, Tryd.ntmps19
  go_wp2_with fail
  refine (HP0.out _).mono ?_
  rintro e w2 ⟨rfl, rfl⟩
  go_wp2_with fail
  refine H1.out.mono ?_
  rw [hg6]
  clear H1 HP0
  rintro e w3 ⟨d, j, r, y, v, rfl, h3⟩
  have h4 := (h3.new #[.pointer (some ⟨d, 0, none⟩), .pointer (some ⟨j, 0, none⟩), .pointer (some ⟨r, 0, none⟩), .pointer (some ⟨y, 0, none⟩)] 56)
  obtain ⟨p, hp⟩ : ∃ p, w3.heap.size = p := ⟨_, rfl⟩
  rw [hp] at h4
  have h5 := h4.new #[.string ⟨#[]⟩, .slice none 0 0, .int .i64 0] 49
  have hp2 : (w3.alloc (.cells #[.pointer (some ⟨d, 0, none⟩), .pointer (some ⟨j, 0, none⟩), .pointer (some ⟨r, 0, none⟩), .pointer (some ⟨y, 0, none⟩)] 56)).heap.size = p + 1 := by simp [hp]
  rw [hp2] at h5
  obtain ⟨g, hg⟩ : ∃ g, p + 1 = g := ⟨_, rfl⟩
  rw [hg] at h5
  unfold Two at h5
  have H5 := Lib.hid h5
  clear h3 h4 hp2 h5
  go_wp2_with fail
  try simp only [hp, hg]
  refine (begun_any H5.out (by simp [hO]) hT).mono ?_
  rintro e w4 ⟨rfl, h6⟩
  have H6 := Lib.hid ((((((h6.r5.tail).r5.tail).nilRow 9 1).r5.r5).r5.b3).r5.b4)
  clear H5 h6
  go_wp2_with fail
  go_loopw [11] (PlsRel w0 (Blk g6 49 [.string ⟨#[]⟩, .slice none 0 0, .int .i64 0] :: F) p d j r y g l.length) (fun i _ => l.length - (intOf i).toNat)
  case atStart => exact ⟨0, v, B, ⟨0, 1, 0⟩, ⟨#[]⟩, [], 0, none, 0, Nat.zero_le _, rfl, HTD.out, H6.out⟩
  case round =>
    obtain ⟨k, v, M, J, snap, recs, t, A1, c1, hk, rfl, hTD, hU⟩ := hrel
    clear H6 HTD
    have HLN := Lib.hid hTD.len
    by_cases hlt : k < l.length
    · obtain ⟨b, of, rfl⟩ := jop_addr HE.out (by omega)
      obtain ⟨e0, e1, e2⟩ := jop_cells HE.out (hU.old (by simp [hO])) k hlt
      obtain ⟨_, hsz⟩ := HW.out _ (List.getElem_mem hlt)
      obtain ⟨⟨act, num, s⟩, hM⟩ : ∃ x, l[k] = x := ⟨_, rfl⟩
      rw [hM] at e0 e1 e2 hsz
      simp only at e0 e1 e2 hsz
      have HSZ := Lib.hid hsz
      have HTD := Lib.hid hTD
      have HS := Lib.hid (hU.new #[.int .i64 act, .int .i64 num, .string s] 62)
      obtain ⟨o, ho⟩ : ∃ o, wr.heap.size = o := ⟨_, rfl⟩
      rw [ho] at HS
      clear hM hsz hTD hU
      by_cases a0 : act = 0
      · subst a0
        have H1 := HS.out.r3.r3
        have x1 := H1.r4.blk.cell 1
        have HA := Lib.hid (add_any H1 HTD.out.good.ok s HSZ.out (by rw [HTD.out.good.n]; have := HLN.out; omega) (by simp [hO]) hT)
        have HAD := Lib.hid (HTD.out.add s)
        have HNO := Lib.hid (add_no (M := M) (J := J) (rec := s))
        obtain ⟨⟨M1, J1, k1⟩, hR⟩ : ∃ x, addR M J s = x := ⟨_, rfl⟩
        rw [hR] at HA HAD HNO
        unfold POut at HA
        simp only at HA HAD HNO
        clear hR H1
        go_wp2_with fail
        refine HA.out.mono ?_
        rintro e w5 ⟨rfl, v5, h5⟩
        clear HA x1 e0 e1 e2
        by_cases hk0 : k1 = 0
        · subst hk0
          have hT1 := HAD.out rfl
          have hln := hT1.len
          rw [List.length_append] at hln
          simp only [List.length_cons, List.length_nil] at hln
          have HT1 := Lib.hid hT1
          have h4 : recs.length + 1 ≤ maxLen := by unfold maxLen; omega
          have h5' : (recs.length + 1) * 16 ≤ 140737488355328 := by omega
          have HN := Lib.hid (h5.r6.new #[.string s] 9)
          have y1 : w5.cell? ⟨g, 1, none⟩ = some (.slice A1 recs.length c1) := h5.r5.blk.cell 1
          have y2 : w5.cell? ⟨o, 2, none⟩ = some (.string s) := h5.r3.blk.cell 2
          clear hT1 HAD HNO h5
          go_wp2_with (at_builtin; refine wpList_app1 rfl (.tmp 48) (.tmp 51) 37 rfl 9 ii (.string ⟨#[]⟩) 1 16 Tryd.underlying37 hi hz hsz9 hby rfl (by decide) rfl HN.out (by rfl) rfl (strs_one [s]) h4 h5' ?_; intro A' c' w6 h6; have z1 : w6.cell? ⟨g, 1, none⟩ = some (.slice A1 recs.length c1) := h6.r6.blk.cell 1; have z2 := h6.r6.blk.free 1; clear y1 y2)
          have H7 := Lib.hid (h6.r6.set 1 (.slice A' (recs.length + 1) c'))
          clear h6 z1 z2
          go_roundw
          case rel => exact ⟨k + 1, v5, M1, J1, snap, recs ++ [s], t, A', c', by omega, by go_num, HT1.out, by simpa [strs, TB] using H7.out.r5.tail.r4.r4.r5.b3⟩
          case measure => simp [intOf]; omega
        · have HNN := Lib.hid (HNO.out hk0)
          have t0 : (k1 == 0) = false := by rw [beq_eq_false_iff_ne]; exact hk0
          have H7 := Lib.hid h5
          clear h5 hk0 HNO HAD
          go_wp2_with fail
          go_roundw
          case rel => exact ⟨k + 1, v5, M, J, snap, recs, t, A1, c1, by omega, by go_num, HTD.out, by have := H7.out.r3.tail; rw [HNN.out.1, HNN.out.2] at this; exact this⟩
          case measure => simp [intOf]; omega
      have t0 : (act == 0) = false := by rw [beq_eq_false_iff_ne]; exact a0
      by_cases a1 : act = 1
      · subst a1
        clear a0
        have H1 := HS.out.r3.r3
        have x1 := H1.r4.blk.cell 1
        have HA := Lib.hid (jsync_any H1)
        have HSY := Lib.hid HTD.out.sync
        have hf4 := HTD.out.good.file
        have hjs : jsyncR M J = ((jsyncR M J).1, J, 0) := by unfold jsyncR; rw [sync_eq (by omega)]
        obtain ⟨M1, hM1⟩ : ∃ x, (jsyncR M J).1 = x := ⟨_, rfl⟩
        rw [hM1] at HSY hjs
        rw [hjs] at HA
        unfold POut at HA
        simp only at HA
        clear hjs hM1 H1 hf4
        go_wp2_with fail
        refine HA.out.mono ?_
        rintro e w5 ⟨rfl, v5, h5⟩
        have y1 : w5.cell? ⟨g, 1, none⟩ = some (.slice A1 recs.length c1) := h5.r5.blk.cell 1
        have y2 := h5.r5.blk.cell 2
        have y3 := h5.r5.blk.free 2
        have H7 := Lib.hid (h5.r5.set 2 (.int .i64 recs.length))
        clear HA x1 e0 e1 e2 h5
        go_wp2_with fail
        go_roundw
        case rel => exact ⟨k + 1, v5, M1, J, snap, recs, recs.length, A1, c1, by omega, by go_num, HSY.out, H7.out.r4.tail.b4⟩
        case measure => simp [intOf]; omega
      have t1 : (act == 1) = false := by rw [beq_eq_false_iff_ne]; exact a1
      by_cases a2 : act = 2
      · subst a2
        clear a0 a1
        have H1 := HS.out.r3.r3
        have x1 := H1.r4.blk.cell 1
        have HA := Lib.hid (comp_any H1 HTD.out.good.ok s HSZ.out HTD.out.good.file HTD.out.good.gen2 (by simp [hO]) hT)
        have HAD := Lib.hid (HTD.out.comp s)
        obtain ⟨⟨M1, J1, k1⟩, hR⟩ : ∃ x, compR M J s = x := ⟨_, rfl⟩
        rw [hR] at HA HAD
        unfold POut at HA
        simp only at HA HAD
        clear hR H1
        go_wp2_with fail
        refine HA.out.mono ?_
        rintro e w5 ⟨rfl, v5, h5⟩
        clear HA x1 e0 e1 e2
        by_cases hk0 : k1 = 0
        · subst hk0
          have HT1 : Hid (Told M1 J1 s [] 0) := (HAD.out.resolve_right fun h => h.1 rfl).2.1
          have y1 := h5.r5.blk.cell 0
          have y2 := h5.r5.blk.cell 1
          have y3 := h5.r5.blk.cell 2
          have f1 := h5.r5.blk.free 0
          have f2 := h5.r5.blk.free 1
          have f3 := h5.r5.blk.free 2
          have q2 : w5.cell? ⟨o, 2, none⟩ = some (.string s) := h5.r3.blk.cell 2
          have H7 := Lib.hid (((h5.r5.set 0 (.string s)).set 1 (.slice none 0 0)).set 2 (.int .i64 0))
          clear h5 HAD
          go_wp2_with fail
          go_roundw
          case rel => exact ⟨k + 1, v5, M1, J1, s, [], 0, none, 0, by omega, by go_num, HT1.out, by have := (H7.out.r4.tail.b4).r5.tail; exact (((this.nilRow 9 1)).b5)⟩
          case measure => simp [intOf]; omega
        · have HNN := Lib.hid (HAD.out.resolve_left fun h => hk0 h.1)
          have t2 : (k1 == 0) = false := by rw [beq_eq_false_iff_ne]; exact hk0
          have H7 := Lib.hid h5
          clear h5 hk0 HAD
          go_wp2_with fail
          go_roundw
          case rel => exact ⟨k + 1, v5, M, J, snap, recs, t, A1, c1, by omega, by go_num, HTD.out, by have := H7.out.r3.tail; rw [HNN.out.2.1, HNN.out.2.2] at this; exact this⟩
          case measure => simp [intOf]; omega
      · have t2 : (act == 2) = false := by rw [beq_eq_false_iff_ne]; exact a2
        have H7 := Lib.hid HS.out.tail
        clear a0 a1 a2
        go_wp2_with fail
        go_roundw
        case rel => exact ⟨k + 1, v, M, J, snap, recs, t, A1, c1, by omega, by go_num, HTD.out, H7.out⟩
        case measure => simp [intOf]; omega
    · have x0 := hU.r3.blk.cell 0
      have x1 := hU.r3.blk.cell 1
      have y0 := hU.r4.blk.cell 0
      have y1 := hU.r4.blk.cell 1
      have y2 := hU.r4.blk.cell 2
      have z0 := hU.r6.blk.cell 0
      have z1 := hU.r6.blk.cell 1
      have z2 := hU.r6.blk.cell 2
      have f0 := hU.r6.blk.free 0
      have f1 := hU.r6.blk.free 1
      have f2 := hU.r6.blk.free 2
      have HTD := Lib.hid hTD
      clear hTD
      go_wp2_with fail
      go_region
      go_wp2_with fail
      (try simp only [Exit.inBlock, Exit.then])
      have H9 := Lib.hid ((((hU.r6.set 0 (.string snap)).set 1 (.slice A1 recs.length c1)).set 2 (.int .i64 t))).drew
      refine bodyPost_ret (pl_results H9.out rfl rfl rfl rfl) rfl ?_
      exact ⟨d, j, v, M, J, snap, recs, t, A1, c1, rfl, HTD.out, (H9.out.tail.r3.tail).r3.tail⟩
end
end Go.Proofs.YtjlpgjfgeikdeaaDoor
