/- The registry: what it holds; New; where a place stands. -/
import Derived.Test.YtpmoanjeoaeabaaDoorRH
set_option linter.unusedVariables false
set_option linter.unusedSimpArgs false
set_option linter.unnecessarySimpa false
set_option maxRecDepth 100000
namespace Go.Proofs.YtpmoanjeoaeabaaDoor
open Go.RowKit Go.ChangeShapes Go.WideShapes Go.ChangeAt
theorem Sat.r7 {w0 w : World} {A B C D E G H : HP} {L : List HP} (h : Sat w0 w (A :: B :: C :: D :: E :: G :: H :: L)) : Sat w0 w (H :: A :: B :: C :: D :: E :: G :: L) := (h.perm ((((((List.Perm.swap H G L).cons E).cons D).cons C).cons B).cons A)).r6
def plcV (p : Plc) : List Value := [.string p.1, .int .i64 p.2]
/-- the places in their order, as cells -/
def plcC (O : List Plc) : List Value := O.flatMap plcV
theorem plcC_len (O : List Plc) : (plcC O).length = O.length * 2 := by
  induction O with
  | nil => rfl
  | cons p O ih =>
    unfold plcC at ih ⊢
    rw [List.flatMap_cons, List.length_append, ih, List.length_cons]
    show 2 + _ = _
    omega
theorem plcC_get (O : List Plc) (i j : Nat) (hi : i < O.length) (hj : j < 2) : (plcC O)[i * 2 + j]? = (plcV O[i])[j]? := by
  have e : plcC O = (O.map plcV).flatten := by unfold plcC; rw [List.flatMap_def]
  rw [e, flat_get (O.map plcV) i j (fun x hx => by obtain ⟨s, _, rfl⟩ := List.mem_map.1 hx; rfl) (by simpa using hi) hj]
  simp [List.getD, hi]
/-- a definition in its version -/
structure Ver where
  d : Df
  v : Int
def Ver.p (r : Ver) : Plc := (r.d.name, r.v)
/-- how many versions there are of a name -/
def verN (R : List Ver) (s : ByteArray) : Nat := R.countP fun r => r.d.name = s
/-- what a registry has in memory -/
def RegP (rb : Nat) (R : List Ver) : HP := ex fun x : Option Addr × Nat × Nat × Nat =>
  sep [Blk rb 78 [.slice x.1 R.length x.2.1, .map (some x.2.2.1), .map (some x.2.2.2)], Row 80 2 x.1 R.length x.2.1 (plcC (R.map Ver.p)),
    MapP x.2.2.1 (R.map fun r => (r.p, r.d.v)), MapC x.2.2.2 R.length (fun s => (verN R s : Int)), sep (R.map fun r => OwnP r.d)]
section
variable {w w0 : World} {F : List HP} {rb : Nat} {R : List Ver}
theorem Sat.regOpen (h : Sat w0 w (RegP rb R :: F)) : ∃ (A : Option Addr) (c mb lb : Nat), Sat w0 w (Blk rb 78 [.slice A R.length c, .map (some mb), .map (some lb)] :: Row 80 2 A R.length c (plcC (R.map Ver.p)) ::
    MapP mb (R.map fun r => (r.p, r.d.v)) :: MapC lb R.length (fun s => (verN R s : Int)) :: sep (R.map fun r => OwnP r.d) :: F) := by
  obtain ⟨⟨A, c, mb, lb⟩, h2⟩ := h.open_ex
  exact ⟨A, c, mb, lb, h2.open_⟩
theorem Sat.regClose {A : Option Addr} {c mb lb : Nat} (h : Sat w0 w (Blk rb 78 [.slice A R.length c, .map (some mb), .map (some lb)] :: Row 80 2 A R.length c (plcC (R.map Ver.p)) ::
    MapP mb (R.map fun r => (r.p, r.d.v)) :: MapC lb R.length (fun s => (verN R s : Int)) :: sep (R.map fun r => OwnP r.d) :: F)) : Sat w0 w (RegP rb R :: F) :=
  Sat.close_ex (α := Option Addr × Nat × Nat × Nat) ⟨A, c, mb, lb⟩ (Sat.close (M := [_, _, _, _, _]) h)
theorem regNew_any (hS : Sat w0 w F) : Calls Tryd.prog 54 #[] w fun e w' => ∃ rb : Nat, e = .returned (.pointer (some ⟨rb, 0, none⟩)) ∧ Sat w0 w' (RegP rb [] :: F) := by
  obtain ⟨b, hb⟩ : ∃ b, w.heap.size = b := ⟨_, rfl⟩
  have h1 := hS.plcNew
  have hs1 : (w.alloc (.map #[] 0)).heap.size = w.heap.size + 1 := by simp
  have h2 := h1.mapNew
  rw [hs1] at h2
  have hs2 : ((w.alloc (.map #[] 0)).alloc (.map #[] 0)).heap.size = w.heap.size + 1 + 1 := by simp
  have h3 := (Sat.close (M := []) h2).new #[.slice none 0 0, .map (some b), .map (some (b + 1))] 78
  rw [hs2, hb] at h3
  have h4 := (h3.nilRow 80 2)
  have H4 := Lib.hid h4
  clear h1 h2 h3 h4 hs1 hs2 hS
  have hmm : ∀ (t : TypeId) (w : World), (Instr.makeMap t none).run Tryd.prog w = .ok (.map (some w.heap.size)) (w.alloc (.map #[] 0)) := fun t w => rfl
  go_enter Tryd.func54, Tryd.ntmps54
  go_wp2_with fail
  try simp only [hb]
  go_ret
  refine ⟨b + 1 + 1, rfl, ?_⟩
  have h := H4.out
  have h5 := h.r2.r5.r5.r4.r4.r4.b3
  exact Sat.regClose (A := none) (c := 0) (mb := b) (lb := b + 1) (R := []) h5
end
theorem find58_any {w : World} (p k : Plc) {pb : Nat} (h : At w pb 80 (plcV k)) : Calls Tryd.prog 58 #[.agg #[.string p.1, .int .i64 p.2], .pointer (some ⟨pb, 0, none⟩)] w (Quietly w (.bool (decide (p = k)))) := by
  obtain ⟨a, b⟩ := p
  obtain ⟨c, d⟩ := k
  have h1 := (Sat.start w).new #[.string a, .int .i64 b] 80
  have hB := h1.old (by simp)
  have ha := h.keep hB
  have c0 := ha.cell 0
  have c1 := ha.cell 1
  have HB := Lib.hid hB
  obtain ⟨q, hq⟩ : ∃ q, w.heap.size = q := ⟨_, rfl⟩
  unfold Quietly
  simp only [plcV] at c0 c1
  by_cases e1 : a = c
  · subst e1
    by_cases e2 : b = d
    · subst e2
      rw [decide_eq_true (rfl : ((a, b) : Plc) = (a, b))]
      clear h h1 hB ha
      go_enter Tryd.func58, Tryd.ntmps58
      go_wp2_with fail
      go_ret
      exact ⟨rfl, HB.out⟩
    · rw [decide_eq_false (fun e => e2 (congrArg Prod.snd e) : ¬ ((a, b) : Plc) = (a, d))]
      have x2 : (b == d) = false := by simp [e2]
      clear h h1 hB ha
      go_enter Tryd.func58, Tryd.ntmps58
      go_wp2_with fail
      go_ret
      exact ⟨rfl, HB.out⟩
  · have HD : Hid (decide (((a, b) : Plc) = (c, d)) = false) := decide_eq_false fun e => e1 (congrArg Prod.fst e)
    obtain ⟨r, hr⟩ : ∃ r, decide (((a, b) : Plc) = (c, d)) = r := ⟨_, rfl⟩
    rw [hr] at HD ⊢
    have x1 : (a.toList == c.toList) = false := str_no e1
    clear h h1 hB ha hr
    go_enter Tryd.func58, Tryd.ntmps58
    go_wp2_with fail
    go_ret
    exact ⟨by rw [HD.out]; rfl, HB.out⟩
def IxRel (w0 : World) (L : List HP) (n : Nat) (p : Nat → Bool) (i : Value) (wr : World) : Prop := ∃ k : Nat, k ≤ n ∧ i = .int .i64 k ∧ Sat w0 wr L ∧ ∀ j, j < k → p j = false
set_option maxHeartbeats 1600000 in
theorem index57 {w w0 : World} {F : List HP} {A : Option Addr} {c pb : Nat} (O : List Plc) (k : Plc) (hm : O.length ≤ 1000000) (hS : Sat w0 w (Row 80 2 A O.length c (plcC O) :: Blk pb 80 (plcV k) :: F)) :
    Calls Tryd.prog 57 #[.slice A O.length c, .func (.func 58) #[] #[.pointer (some ⟨pb, 0, none⟩)]] w fun e w' => e = .returned (.int .i64 (retI O.length fun j => decide (O.getD j (.empty, 0) = k))) ∧ Sat w0 w' (Row 80 2 A O.length c (plcC O) :: Blk pb 80 (plcV k) :: F) := by
  have HS0 := Lib.hid hS
  obtain ⟨p, hp⟩ : ∃ p : Nat → Bool, (fun j => decide (O.getD j (.empty, 0) = k)) = p := ⟨_, rfl⟩
  rw [hp]
  have HP : Hid (∀ j (hj : j < O.length), p j = decide (O[j] = k)) := fun j hj => by
    rw [← hp]
    show decide (O.getD j _ = k) = _
    rw [← List.getElem_eq_getD (h := hj)]
  obtain ⟨n, hn⟩ : ∃ n, O.length = n := ⟨_, rfl⟩
  have HN := Lib.hid hn
  rw [hn] at HS0 hm ⊢
  clear hS hp hn
  go_enter Tryd.func57, Tryd.ntmps57
  go_wp2_with fail
  go_loopw [8] (IxRel w0 (Row 80 2 A n c (plcC O) :: Blk pb 80 (plcV k) :: F) n p) (fun i _ => n - (intOf i).toNat)
  case atStart => exact ⟨0, Nat.zero_le _, rfl, HS0.out, fun j hj => absurd hj (Nat.not_lt_zero _)⟩
  case round =>
    obtain ⟨j, hj, rfl, hS, ha⟩ := hrel
    clear HS0
    by_cases hlt : j < n
    · have hj1 : j < O.length := by rw [HN.out]; exact hlt
      have g0 := plcC_get O j 0 hj1 (by decide)
      have g1 := plcC_get O j 1 hj1 (by decide)
      obtain ⟨g, rfl, hq1, hq2⟩ := hS.rowCell (by intro e; rw [e] at g0; simp [plcV] at g0)
      rw [Nat.add_zero] at g0
      have c0 := (hS.rowAt (j := j * 2) (v := .string O[j].1) (by rw [g0]; rfl)).1
      have c1 := (hS.rowAt (j := j * 2 + 1) (v := .int .i64 O[j].2) (by rw [g1]; rfl)).1
      have HCL : Hid (Calls Tryd.prog 58 #[.agg #[.string O[j].1, .int .i64 O[j].2], .pointer (some ⟨pb, 0, none⟩)] wr fun e w' => e = .returned (.bool (p j)) ∧ Below wr.heap.size wr w') := by
        show Calls _ _ _ _ _
        rw [HP.out j hj1]
        exact find58_any O[j] k hS.r2.blk
      have HX : Hid (∀ b, p j = b → (b = true → retI n p = j) ∧ (b = false → ∀ i, i < j + 1 → p i = false)) := fun b hb => ⟨fun e => ret_hit hlt (hb.trans e) ha, fun e i hi => by
        by_cases hjk2 : i < j
        · exact ha i hjk2
        · obtain rfl : i = j := by omega
          exact hb.trans e⟩
      obtain ⟨b, hbb⟩ : ∃ b, p j = b := ⟨_, rfl⟩
      have HX2 := Lib.hid (HX.out b hbb)
      rw [hbb] at HCL
      obtain ⟨x, hx⟩ : ∃ x, O[j].1 = x := ⟨_, rfl⟩
      obtain ⟨y, hy⟩ : ∃ x, O[j].2 = x := ⟨_, rfl⟩
      rw [hx] at c0 HCL
      rw [hy] at c1 HCL
      have HS := Lib.hid hS
      clear hS ha HX hbb hx hy hq1 hq2 g0 g1 hj1
      cases b with
      | true =>
        have HF := Lib.hid (HX2.out.1 rfl)
        go_wp2_with fail
        refine HCL.out.mono ?_
        rintro e w' ⟨rfl, hb'⟩
        have HB2 := Lib.hid (HS.out.below hb')
        clear hb'
        go_wp2_with fail
        go_ret
        exact ⟨by rw [HF.out]; rfl, HB2.out⟩
      | false =>
        have HF := Lib.hid (HX2.out.2 rfl)
        go_wp2_with fail
        refine HCL.out.mono ?_
        rintro e w' ⟨rfl, hb'⟩
        have HB2 := Lib.hid (HS.out.below hb')
        clear hb'
        go_wp2_with fail
        go_roundw
        case rel => exact ⟨j + 1, by omega, by go_num, HB2.out, HF.out⟩
        case measure => simp [intOf]; omega
    · have HF := Lib.hid (ret_none (n := n) (p := p) fun i hi => ha i (by omega))
      have HS := Lib.hid hS
      clear hS ha
      go_wp2_with fail
      go_ret
      exact ⟨by rw [HF.out]; rfl, HS.out⟩
end Go.Proofs.YtpmoanjeoaeabaaDoor
