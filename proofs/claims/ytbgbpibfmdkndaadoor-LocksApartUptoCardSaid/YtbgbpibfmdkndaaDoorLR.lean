/- The walk of LocksScripts. -/
import Derived.Test.YtbgbpibfmdkndaaDoorLQ
import Derived.Deep.CutBlock
import Derived.Deep.DeepCutAuto
import Derived.Deep.RegionHeld3
set_option linter.unusedVariables false
set_option linter.unusedSimpArgs false
set_option linter.unnecessarySimpa false
set_option maxRecDepth 100000
namespace Go.Proofs.YtbgbpibfmdkndaaDoor
open Go.RowKit Go.ChangeShapes Go.WideShapes Go.ChangeAt
/-- what is asked of both tables, of one instance: the two lists, and that they are the same -/
structure Asks (w0 : World) (G : List HP) (tb xb : Nat) (E : List Ent) (inst : Int) (n : Nat) (V : List Value) : Prop where
  one : ∀ W, Sat w0 W (TabP tb E :: DocT xb E :: G) → Calls Tryd.prog 18 #[.pointer (some ⟨tb, 0, none⟩), .int .i64 inst] W fun e w' => ∃ A2 c2, e = .returned (.slice A2 n c2) ∧ Sat w0 w' (Row 9 1 A2 n c2 V :: TabP tb E :: DocT xb E :: G)
  two : ∀ A2 c2 W, Sat w0 W (Row 9 1 A2 n c2 V :: TabP tb E :: DocT xb E :: G) → Calls Tryd.prog 19 #[.pointer (some ⟨xb, 0, none⟩), .int .i64 inst] W fun e w' => ∃ A3 c3, e = .returned (.slice A3 n c3) ∧ Sat w0 w' (Row 9 1 A3 n c3 V :: Row 9 1 A2 n c2 V :: TabP tb E :: DocT xb E :: G)
  same : ∀ A2 c2 A3 c3 W, Sat w0 W (Row 9 1 A3 n c3 V :: Row 9 1 A2 n c2 V :: TabP tb E :: DocT xb E :: G) → Calls Tryd.prog 12 #[.slice A2 n c2, .slice A3 n c3] W fun e w' => e = .returned (.bool true) ∧ Sat w0 w' (Row 9 1 A2 n c2 V :: TabP tb E :: DocT xb E :: G)
  fill : ∀ A2 c2 W, Sat w0 W (Row 9 1 A2 n c2 V :: TabP tb E :: DocT xb E :: G) → Calls Tryd.prog 13 #[.slice A2 n c2] W fun e w' => e = .returned (.tuple #[]) ∧ Sat w0 w' (TabP tb E :: DocT xb E :: G)
theorem asks {w0 : World} {G : List HP} {tb xb : Nat} {E : List Ent} (hE : TabOk E) (hlen : E.length ≤ 4194304) (hT0 : Lib.Utf8Tabs 0 1 w0) (hO : Old w0 ∈ G) (inst : Int) : ∃ n V, Asks w0 G tb xb E inst n V := by
  have hl := held_len E inst
  refine ⟨(heldE E inst).length, strV (heldE E inst), ?_, ?_, ?_, ?_⟩
  · exact fun W h => held_any hE hlen inst (by simp [hO]) hT0 h
  · intro A2 c2 W h
    refine (rheld_any hlen inst h.r3).mono ?_
    rintro e w' ⟨A3, c3, rfl, h2⟩
    exact ⟨A3, c3, rfl, h2.perm (List.Perm.cons _ (((List.Perm.swap _ _ _).trans ((List.Perm.swap _ _ _).cons _))))⟩
  · intro A2 c2 A3 c3 W h
    refine (same_sat (c := c2) (e := c3) h h.r2.rowKs h.rowKs (by omega) (by omega)).mono ?_
    rintro e w' ⟨rfl, h2⟩
    exact ⟨by rw [decide_eq_true rfl], h2.tail⟩
  · intro A2 c2 W h
    exact filled_any h (by omega)
def stepE (D : List Ent) (o : LOp) : List Ent := if o.act = 0 then (takeE D o.inst o.keys).2.2 else if o.act = 1 then dropE D o.inst else D
theorem step_ok {D : List Ent} (h : TabOk D) (o : LOp) : TabOk (stepE D o) := by
  unfold stepE
  split
  · exact take_ok h
  · split
    · exact h.drop _
    · exact h
theorem step_len (D : List Ent) (o : LOp) : (stepE D o).length ≤ D.length + bulkS o.keys := by
  unfold stepE
  have hb := bulkS_len o.keys
  split
  · have := take_len (D := D) (inst := o.inst) (keys := o.keys); omega
  · split
    · have := drop_len D o.inst; omega
    · omega
def stepsE (l : List LOp) : List Ent := l.foldl stepE begD
theorem sfold_ok : ∀ (l : List LOp) (D : List Ent), TabOk D → TabOk (l.foldl stepE D)
  | [], D, h => h
  | o :: l, D, h => sfold_ok l _ (step_ok h o)
theorem sfold_len : ∀ (l : List LOp) (D : List Ent), (l.foldl stepE D).length ≤ D.length + bulkO l
  | [], D => Nat.le_add_right _ _
  | o :: l, D => by
    have h1 := sfold_len l (stepE D o)
    have h2 := step_len D o
    have e : bulkO (o :: l) = bulkS o.keys + 1 + bulkO l := by unfold bulkO; rfl
    rw [List.foldl_cons, e]
    omega
theorem steps_succ {l : List LOp} {j : Nat} {o : LOp} (h : l[j]? = some o) : stepsE (l.take (j + 1)) = stepE (stepsE (l.take j)) o := by
  unfold stepsE
  rw [take_snoc h, List.foldl_append]
  rfl
def ScRel (w0 : World) (F : List HP) (tb xb : Nat) (l : List LOp) (i : Value) (wr : World) : Prop := ∃ j : Nat, j ≤ l.length ∧ i = .int .i64 j ∧ Sat w0 wr (TabP tb (stepsE (l.take j)) :: DocT xb (stepsE (l.take j)) :: F)
def ScMid (w0 : World) (G : List HP) (tb xb : Nat) (E : List Ent) (s : Value) (wr : World) : Prop := Sat w0 wr (TabP tb E :: DocT xb E :: G)
def ScKey (w0 : World) (G : List HP) (tb xb : Nat) (E : List Ent) (n : Nat) (i : Value) (wr : World) : Prop := ∃ k : Nat, k ≤ n ∧ i = .int .i64 k ∧ Sat w0 wr (TabP tb E :: DocT xb E :: G)
section
variable {w w0 : World} {F : List HP} {A : Option Addr} {c : Nat}
set_option maxHeartbeats 6400000 in
theorem scripts_any {l : List LOp} (hT0 : Lib.Utf8Tabs 0 1 w0) (hO : Old w0 ∈ F) (hE : OpsAt w0 A c l) (hb : bulkO l ≤ 1048576) (hS : Sat w0 w F) :
    Calls Tryd.prog 3 #[.slice A l.length c] w fun e w' => e = .returned (.bool true) ∧ Sat w0 w' F := by
  have HB := Lib.hid (begun_any hT0 hO hS)
  have HTW : Hid (∀ tb W, Sat w0 W (TabP tb begD :: F) → Calls Tryd.prog 8 #[] W fun e w' => ∃ xb : Nat, e = .returned (.pointer (some ⟨xb, 0, none⟩)) ∧ Sat w0 w' (DocT xb begD :: TabP tb begD :: F)) := fun tb W h => twin_any h
  have HF := Lib.hid (hE.opsF hO)
  have HE := Lib.hid hE.each
  have HO := Lib.hid hO
  have HT0 := Lib.hid hT0
  have HBK := Lib.hid hb
  obtain ⟨n, hn⟩ : ∃ n, l.length = n := ⟨_, rfl⟩
  have HN := Lib.hid hn
  have hlen := bulkO_len l
  rw [hn] at hlen ⊢
  have hlen2 : n ≤ 1048576 := by omega
  clear hS hn hE hO hb hlen hT0
  go_enter Tryd.func3, Tryd.ntmps3
  go_wp2_with fail
  refine HB.out.mono ?_
  rintro e w1 ⟨tb, rfl, h1⟩
  have H1 := Lib.hid h1
  clear h1 HB
  go_wp2_with fail
  refine (HTW.out _ _ H1.out).mono ?_
  rintro e w2 ⟨xb, rfl, h2⟩
  have H2 := Lib.hid h2.r2
  clear h2 HTW H1
  go_wp2_with fail
  go_loopw [5] (ScRel w0 F tb xb l) (fun i _ => n - (intOf i).toNat)
  case atStart => exact ⟨0, Nat.zero_le _, rfl, H2.out⟩
  case round =>
    obtain ⟨j, hj, rfl, hS⟩ := hrel
    rw [HN.out] at hj
    clear H2
    by_cases hlt : j < n
    · obtain ⟨o, ho⟩ : ∃ x, l[j]? = some x := ⟨_, List.getElem?_eq_getElem (by rw [HN.out]; exact hlt)⟩
      obtain ⟨b, s, rfl, hc⟩ := HF.out.resolve_left (by rintro rfl; simp at ho)
      obtain ⟨x0, x1, x2⟩ := hc wr [_, _] hS j o ho
      have hmem := List.mem_of_getElem? ho
      have HA := Lib.hid (HE.out o hmem)
      have HKO := Lib.hid (bulkS_ok (Nat.le_trans (bulkO_mem hmem) HBK.out))
      have HSU := Lib.hid (steps_succ ho)
      have HOK := Lib.hid (sfold_ok (l.take j) _ begD_ok)
      have h1 := sfold_len (l.take j) begD
      have h2 := bulkO_take l j
      have h3 := HBK.out
      have h4 := Nat.le_trans (bulkO_mem hmem) HBK.out
      have h5 : begD.length = 3 := rfl
      have hDl : (stepsE (l.take j)).length ≤ 3145728 := by unfold stepsE; omega
      have HDL := Lib.hid hDl
      obtain ⟨D, hD⟩ : ∃ D, stepsE (l.take j) = D := ⟨_, rfl⟩
      change Hid (TabOk (stepsE (l.take j))) at HOK
      rw [hD] at hS HSU HOK HDL
      have HEOK : Hid (TabOk (stepE D o)) := step_ok HOK.out o
      have HEL : Hid ((stepE D o).length ≤ 4194304) := by
        show _ ≤ _
        have := step_len D o
        have := HDL.out
        omega
      have HLK : Hid (D.length + o.keys.length ≤ 4194304) := by
        show _ ≤ _
        have hk9 := HKO.out.len
        have := HDL.out
        omega
      have HST : Hid (stepE D o = if o.act = 0 then (takeE D o.inst o.keys).2.2 else if o.act = 1 then dropE D o.inst else D) := rfl
      obtain ⟨E, hEE⟩ : ∃ E, stepE D o = E := ⟨_, rfl⟩
      rw [hEE] at HST HEOK HEL HSU
      obtain ⟨act, inst, keys, kA, kc⟩ := o
      simp only at x0 x1 x2 HA HKO HST HLK
      have HKS := Lib.hid (elems_keys HA.out.keys)
      obtain ⟨kn, hkn⟩ : ∃ v, keys.length = v := ⟨_, rfl⟩
      have HKN := Lib.hid hkn
      rw [hkn] at x2
      obtain ⟨ob, hob⟩ : ∃ ob, wr.heap.size = ob := ⟨_, rfl⟩
      have hU := hS.new #[.int .i64 act, .int .i64 inst, .slice kA kn kc] 29
      rw [hob] at hU
      have HU := Lib.hid hU.b3
      obtain ⟨G, hG⟩ : ∃ G, G = Blk ob 29 [.int .i64 act, .int .i64 inst, .slice kA kn kc] :: F := ⟨_, rfl⟩
      have HG := Lib.hid hG
      change Hid (Sat w0 _ (TabP tb D :: DocT xb D :: Blk ob 29 [.int .i64 act, .int .i64 inst, .slice kA kn kc] :: F)) at HU
      rw [← hG] at HU
      have HOG : Hid (Old w0 ∈ G) := by show _ ∈ _; rw [hG]; exact List.mem_cons_of_mem _ HO.out
      have CELL : Hid (∀ W L, Sat w0 W (L ++ G) → W.cell? ⟨ob, 0, none⟩ = some (.int .i64 act) ∧ W.cell? ⟨ob, 1, none⟩ = some (.int .i64 inst) ∧ W.cell? ⟨ob, 2, none⟩ = some (.slice kA kn kc)) := fun W L h => by
        rw [HG.out] at h
        have h2 : Sat w0 W (Blk ob 29 [.int .i64 act, .int .i64 inst, .slice kA kn kc] :: (F ++ L)) := h.swapA
        exact ⟨h2.blk.cell 0, h2.blk.cell 1, h2.blk.cell 2⟩
      clear hS hc ho hmem hDl hD HE h1 h2 h3 h4 h5 hEE hkn hU hG HA
      go_upto_block 2 with fail
      obtain ⟨W1, hW1⟩ : ∃ x, x = wr.alloc (.cells #[.int .i64 act, .int .i64 inst, .slice kA kn kc] 29) := ⟨_, rfl⟩
      rw [← hW1] at HU ⊢
      try rw [hob]
      clear hW1 x0 x1 x2 hob
      have HK9 : Hid (∀ W L, Sat w0 W (L ++ G) → KsAt W kA keys) := fun W L h => (KsAt.kf HKS.out HOG.out).ks h
      go_cut [7] (ScMid w0 G tb xb E)
      case first =>
        by_cases a0 : act = 0
        · have t1 : (act == 0) = true := by simp [a0]
          have HX : Hid (E = (takeE D inst keys).2.2) := by show _ = _; rw [HST.out, if_pos a0]
          obtain ⟨r, y, E', hT⟩ : ∃ r y E', takeE D inst keys = (r, y, E') := ⟨_, _, _, rfl⟩
          have hee : E = E' := by rw [HX.out, hT]
          subst hee
          have HC9 : Hid (∀ W, Sat w0 W (TabP tb D :: DocT xb D :: G) → Calls Tryd.prog 9 #[.slice kA kn kc] W fun e w' => ∃ A' c', e = .returned (.slice A' kn c') ∧ Sat w0 w' (Row 9 1 A' kn c' (strV keys) :: TabP tb D :: DocT xb D :: G)) := fun W h => by
            have h2 := copied_any (c := kc) (HK9.out W [_, _] h) HKO.out.len h
            rw [HKN.out] at h2
            exact h2
          have HC10 : Hid (∀ A' c' W, Sat w0 W (Row 9 1 A' kn c' (strV keys) :: TabP tb D :: DocT xb D :: G) → Calls Tryd.prog 10 #[.pointer (some ⟨tb, 0, none⟩), .int .i64 inst, .slice A' kn c'] W fun e w' =>
              e = .returned (.tuple #[.string r, .bool y]) ∧ Sat w0 w' (TabP tb E :: Row 9 1 A' kn c' (strV keys) :: DocT xb D :: G)) := fun A' c' W h => by
            have h2 : Sat w0 W (Row 9 1 A' kn c' (strV keys) :: DocT xb D :: G) := h.r2.tail
            have h3 := take_any (c := c') HOK.out inst HKO.out h2.rowKF h.r2
            rw [HKN.out, hT] at h3
            exact h3
          have HC11 : Hid (∀ A' c' W, Sat w0 W (TabP tb E :: Row 9 1 A' kn c' (strV keys) :: DocT xb D :: G) → Calls Tryd.prog 11 #[.pointer (some ⟨xb, 0, none⟩), .int .i64 inst, .slice kA kn kc] W fun e w' =>
              e = .returned (.tuple #[.string r, .bool y]) ∧ Sat w0 w' (Row 9 1 A' kn c' (strV keys) :: TabP tb E :: DocT xb E :: G)) := fun A' c' W h => by
            have h3 := rtake_any (c := kc) HOK.out HLK.out inst HKO.out (KsAt.kf (F := TabP tb E :: Row 9 1 A' kn c' (strV keys) :: G) HKS.out (List.mem_cons_of_mem _ (List.mem_cons_of_mem _ HOG.out))) h.r3
            rw [HKN.out, hT] at h3
            refine h3.mono ?_
            rintro e w' ⟨rfl, h4⟩
            exact ⟨rfl, h4.r3.perm ((List.Perm.swap _ _ _).cons _)⟩
          have HC12 : Hid (∀ A' c' W, Sat w0 W (Row 9 1 A' kn c' (strV keys) :: TabP tb E :: DocT xb E :: G) → Calls Tryd.prog 12 #[.slice A' kn c', .slice kA kn kc] W fun e w' =>
              e = .returned (.bool true) ∧ Sat w0 w' (Row 9 1 A' kn c' (strV keys) :: TabP tb E :: DocT xb E :: G)) := fun A' c' W h => by
            have hk := HKO.out.len
            have h3 := same_sat (c := c') (e := kc) (L := keys) (M := keys) h h.rowKs (HK9.out W [_, _, _] h) (by omega) (by omega)
            rw [HKN.out] at h3
            refine h3.mono ?_
            rintro e w' ⟨rfl, h4⟩
            exact ⟨by rw [decide_eq_true rfl], h4⟩
          have HC13 : Hid (∀ A' c' W, Sat w0 W (Row 9 1 A' kn c' (strV keys) :: TabP tb E :: DocT xb E :: G) → Calls Tryd.prog 13 #[.slice A' kn c'] W fun e w' => e = .returned (.tuple #[]) ∧ Sat w0 w' (TabP tb E :: DocT xb E :: G)) := fun A' c' W h => by
            have hk := HKO.out.len
            have h3 := filled_any (L := keys) (c := c') (A := A') (by rw [HKN.out]; exact h) (by omega)
            rw [HKN.out] at h3
            exact h3
          have q0 : (r.toList != r.toList) = false := by simp
          have q1 : (y != y) = false := by simp
          have z0 : (act == 1) = false := by simp [a0]
          have z2 : (act == 2) = false := by simp [a0]
          clear a0 hT HST HX
          have C1 := CELL.out W1 [_, _] HU.out
          obtain ⟨x0, x1, x2⟩ := C1
          go_wp2_with fail
          refine (HC9.out _ HU.out).mono ?_
          rintro e w3 ⟨A5, c5, rfl, h3⟩
          have H3 := Lib.hid h3
          obtain ⟨x0, x1, x2⟩ := CELL.out w3 [_, _, _] h3
          clear h3 HU
          go_wp2_with fail
          refine (HC10.out _ _ _ H3.out).mono ?_
          rintro e w4 ⟨rfl, h4⟩
          have H4 := Lib.hid h4
          obtain ⟨x0, x1, x2⟩ := CELL.out w4 [_, _, _] h4
          clear h4 H3
          go_wp2_with fail
          refine (HC11.out _ _ _ H4.out).mono ?_
          rintro e w5 ⟨rfl, h5⟩
          have H5 := Lib.hid h5
          obtain ⟨x0, x1, x2⟩ := CELL.out w5 [_, _, _] h5
          clear h5 H4
          go_wp2_with fail
          refine (HC12.out _ _ _ H5.out).mono ?_
          rintro e w6 ⟨rfl, h6⟩
          have H6 := Lib.hid h6
          obtain ⟨x0, x1, x2⟩ := CELL.out w6 [_, _, _] h6
          clear h6 H5
          go_wp2_with fail
          refine (HC13.out _ _ _ H6.out).mono ?_
          rintro e w7 ⟨rfl, h7⟩
          have H7 := Lib.hid h7
          clear h7 H6
          go_wp2_with fail
          go_meet
          exact H7.out
        · by_cases a1 : act = 1
          · have t1 : (act == 0) = false := by simp [a0]
            have t2 : (act == 1) = true := by simp [a1]
            have HX : Hid (E = dropE D inst) := by show _ = _; rw [HST.out, if_neg a0, if_pos a1]
            obtain ⟨m, hm⟩ : ∃ m, (heldE D inst).length = m := ⟨_, rfl⟩
            have HC14 : Hid (∀ Q W, Sat w0 W (TabP tb D :: DocT xb Q :: G) → Calls Tryd.prog 14 #[.pointer (some ⟨tb, 0, none⟩), .int .i64 inst] W fun e w' => e = .returned (.int .i64 m) ∧ Sat w0 w' (TabP tb E :: DocT xb Q :: G)) := fun Q W h => by
              have hl := HDL.out
              have h3 := drop_any HOK.out (by omega) inst h
              rw [hm, ← HX.out] at h3
              exact h3
            have HC15 : Hid (∀ Q W, Sat w0 W (TabP tb Q :: DocT xb D :: G) → Calls Tryd.prog 15 #[.pointer (some ⟨xb, 0, none⟩), .int .i64 inst] W fun e w' => e = .returned (.int .i64 m) ∧ Sat w0 w' (TabP tb Q :: DocT xb E :: G)) := fun Q W h => by
              have hl := HDL.out
              refine (rdrop_any (by omega) inst h.r2).mono ?_
              rintro e w' ⟨rfl, h2⟩
              rw [← HX.out] at h2
              exact ⟨by rw [hm], h2.r2⟩
            have z2 : (act == 2) = false := by simp [a1]
            have q1 : ((m : Int) != (m : Int)) = false := by simp
            clear a0 a1 HST HX hm
            have hS := HU.out
            obtain ⟨x0, x1, x2⟩ := CELL.out W1 [_, _] HU.out
            go_wp2_with fail
            go_region_held3 (fun w' => w'.cell? ⟨ob, 1, none⟩ = some (.int .i64 inst))
              (first | exact x1 | exact y1 | exact v1)
              (first
                | (go_at_call 14; refine (HC14.out _ _ hS.drew).mono ?_; rintro e w5 ⟨rfl, h5⟩; obtain ⟨y0, y1, y2⟩ := CELL.out w5 [_, _] h5)
                | (go_at_call 15; refine (HC15.out _ _ h5).mono ?_; rintro e w6 ⟨rfl, h6⟩; obtain ⟨v0, v1, v2⟩ := CELL.out w6 [_, _] h6)
                | (go_at_call 15; refine (HC15.out _ _ hS.drew).mono ?_; rintro e w5 ⟨rfl, h5⟩; obtain ⟨y0, y1, y2⟩ := CELL.out w5 [_, _] h5)
                | (go_at_call 14; refine (HC14.out _ _ h5).mono ?_; rintro e w6 ⟨rfl, h6⟩; obtain ⟨v0, v1, v2⟩ := CELL.out w6 [_, _] h6))
            all_goals
              have H6 := Lib.hid h6
              clear h5 h6 hS x0 x1 x2 y0 y1 y2
              go_wp2_with fail
              go_meet
              exact H6.out
          · have HX : Hid (E = D) := by show _ = _; rw [HST.out, if_neg a0, if_neg a1]
            have hee : E = D := HX.out
            subst hee
            have t1 : (act == 0) = false := by simp [a0]
            have t2 : (act == 1) = false := by simp [a1]
            by_cases a2 : act = 2
            · have t3 : (act == 2) = true := by simp [a2]
              have HC16 : Hid (∀ x W, Sat w0 W (TabP tb E :: DocT xb E :: G) → Calls Tryd.prog 16 #[.pointer (some ⟨tb, 0, none⟩), .string x] W fun e w' => e = .returned (.int .i64 (valE E x)) ∧ w' = W) := fun x W h => holder_any HOK.out x h
              have HC17 : Hid (∀ x W, Sat w0 W (TabP tb E :: DocT xb E :: G) → Calls Tryd.prog 17 #[.pointer (some ⟨xb, 0, none⟩), .string x] W fun e w' => e = .returned (.int .i64 (valE E x)) ∧ w' = W) := fun x W h => by
                have hl := HDL.out
                exact rholder_any (by omega) x h.r2
              have hknl : kn ≤ 1048576 := by have := HKO.out.len; rw [HKN.out] at this; exact this
              clear a0 a1 a2 HST HX
              obtain ⟨x0, x1, x2⟩ := CELL.out W1 [_, _] HU.out
              go_wp2_with fail
              go_loopw [12] (ScKey w0 G tb xb E kn) (fun i _ => kn - (intOf i).toNat)
              case atStart => exact ⟨0, Nat.zero_le _, rfl, HU.out⟩
              case round =>
                obtain ⟨k, hk, rfl, hS⟩ := hrel
                clear HU x0 x1 x2
                obtain ⟨x0, x1, x2⟩ := CELL.out wr [_, _] hS
                by_cases hkl : k < kn
                · obtain ⟨x, hx⟩ : ∃ x, keys[k]? = some x := ⟨_, List.getElem?_eq_getElem (by rw [HKN.out]; exact hkl)⟩
                  obtain ⟨kb, ks, rfl, hkc⟩ := (HK9.out wr [_, _] hS).resolve_left (by rintro rfl; simp at hx)
                  have k0 := hkc k x hx
                  have HCA := Lib.hid (HC16.out x _ hS.drew)
                  have HCB := Lib.hid (HC17.out x _ hS.drew)
                  obtain ⟨v, hv⟩ : ∃ v, valE E x = v := ⟨_, rfl⟩
                  rw [hv] at HCA HCB
                  have q1 : (v != v) = false := by simp
                  have HS := Lib.hid hS
                  clear hkc hx hv hS
                  go_wp2_with fail
                  go_region_held3 (fun w' => w'.cell? ⟨ob, 2, none⟩ = some (.slice (some ⟨kb, ks, none⟩) kn kc) ∧ w'.cell? ⟨kb, ks + k, none⟩ = some (.string x))
                    (first | exact ⟨x2, k0⟩)
                    (first
                      | (go_at_call 16; refine HCA.out.mono ?_; rintro e w5 ⟨rfl, rfl⟩)
                      | (go_at_call 17; refine HCB.out.mono ?_; rintro e w5 ⟨rfl, rfl⟩))
                  all_goals
                    go_wp2_with fail
                    go_roundw
                    case rel => exact ⟨k + 1, by omega, by go_num, HS.out.drew⟩
                    case measure => simp [intOf]; omega
                · obtain rfl : k = kn := by omega
                  have HS := Lib.hid hS
                  clear hS hkl
                  go_wp2_with fail
                  go_meet
                  exact HS.out
            · have t3 : (act == 2) = false := by simp [a2]
              clear a0 a1 a2 HST HX
              obtain ⟨x0, x1, x2⟩ := CELL.out W1 [_, _] HU.out
              go_wp2_with fail
              go_meet
              exact HU.out
      case rest =>
        have HS0 : Hid (Sat w0 wc (TabP tb E :: DocT xb E :: G)) := by
          have h := hcut
          unfold ScMid at h
          exact h
        obtain ⟨n1, V1, K1⟩ := asks (tb := tb) (xb := xb) HEOK.out HEL.out HT0.out HOG.out inst
        obtain ⟨n2, V2, K2⟩ := asks (tb := tb) (xb := xb) HEOK.out HEL.out HT0.out HOG.out 900001
        obtain ⟨n3, V3, K3⟩ := asks (tb := tb) (xb := xb) HEOK.out HEL.out HT0.out HOG.out 900002
        have K1 := Lib.hid K1
        have K2 := Lib.hid K2
        have K3 := Lib.hid K3
        clear HU HST hcut
        obtain ⟨x0, x1, x2⟩ := CELL.out wc [_, _] HS0.out
        go_wp2_with fail
        refine (K1.out.one _ HS0.out).mono ?_
        rintro e w3 ⟨A3, c3, rfl, h3⟩
        have H3 := Lib.hid h3
        obtain ⟨x0, x1, x2⟩ := CELL.out w3 [_, _, _] h3
        clear h3 HS0
        go_wp2_with fail
        refine (K1.out.two _ _ _ H3.out).mono ?_
        rintro e w4 ⟨A4, c4, rfl, h4⟩
        have H4 := Lib.hid h4
        obtain ⟨x0, x1, x2⟩ := CELL.out w4 [_, _, _, _] h4
        clear h4 H3
        go_wp2_with fail
        refine (K1.out.same _ _ _ _ _ H4.out).mono ?_
        rintro e w5 ⟨rfl, h5⟩
        have H5 := Lib.hid h5
        clear h5 H4 x0 x1 x2
        go_wp2_with fail
        refine (K1.out.fill _ _ _ H5.out).mono ?_
        rintro e w6 ⟨rfl, h6⟩
        have H6 := Lib.hid h6
        clear h6 H5
        go_wp2_with fail
        refine (K2.out.one _ H6.out).mono ?_
        rintro e w7 ⟨A7, c7, rfl, h7⟩
        have H7 := Lib.hid h7
        clear h7 H6
        go_wp2_with fail
        refine (K2.out.two _ _ _ H7.out).mono ?_
        rintro e w8 ⟨A8, c8, rfl, h8⟩
        have H8 := Lib.hid h8
        clear h8 H7
        go_wp2_with fail
        refine (K2.out.same _ _ _ _ _ H8.out).mono ?_
        rintro e w9 ⟨rfl, h9⟩
        have H9 := Lib.hid h9.tail
        clear h9 H8
        go_wp2_with fail
        refine (K3.out.one _ H9.out).mono ?_
        rintro e wa ⟨Aa, ca, rfl, ha⟩
        have Ha := Lib.hid ha
        clear ha H9
        go_wp2_with fail
        refine (K3.out.two _ _ _ Ha.out).mono ?_
        rintro e wb ⟨Ab, cb, rfl, hb⟩
        have Hb := Lib.hid hb
        clear hb Ha
        go_wp2_with fail
        refine (K3.out.same _ _ _ _ _ Hb.out).mono ?_
        rintro e wd ⟨rfl, hc⟩
        have Hc := Lib.hid hc.tail
        clear hc Hb
        go_wp2_with fail
        go_roundw
        case rel =>
          refine ⟨j + 1, by rw [HN.out]; omega, by go_num, ?_⟩
          rw [HSU.out]
          have h := Hc.out
          rw [HG.out] at h
          exact h.r3.tail
        case measure => simp [intOf]; omega
    · obtain rfl : j = n := by omega
      have HS := Lib.hid hS
      clear hS hlt
      go_wp2_with fail
      go_ret
      exact ⟨rfl, HS.out.tail.tail⟩
end
end Go.Proofs.YtbgbpibfmdkndaaDoor
