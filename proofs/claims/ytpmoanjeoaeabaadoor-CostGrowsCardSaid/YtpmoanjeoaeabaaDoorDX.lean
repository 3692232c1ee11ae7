/- The walk of CostTells. -/
import Derived.Test.YtpmoanjeoaeabaaDoorDW
set_option linter.unusedVariables false
set_option linter.unusedSimpArgs false
set_option linter.unnecessarySimpa false
set_option maxRecDepth 100000
namespace Go.Proofs.YtpmoanjeoaeabaaDoor
open Go.RowKit Go.ChangeShapes Go.WideShapes Go.ChangeAt
attribute [local go_sem] eqArr9
theorem same13_yes {w : World} {A B : Option Addr} {c e : Nat} (l : List Int) (h1 : Elems w (.slice A l.length c) 1 (l.map intC)) (h2 : Elems w (.slice B l.length e) 1 (l.map intC)) (hl : l.length ≤ 1000000000000000000) :
    Calls Tryd.prog 20 #[.slice A l.length c, .slice B l.length e] w (Quietly w (.bool true)) := by
  have HE := Lib.hid h1
  have HG := Lib.hid h2
  clear h1 h2
  unfold Quietly
  go_enter Tryd.func20, Tryd.ntmps20
  go_wp2_with fail
  go_loopw [5] (Qt w l.length) (fun x _ => l.length - (intOf x).toNat)
  case atStart => exact ⟨0, Nat.zero_le _, rfl, Below.refl _ _⟩
  case round =>
    obtain ⟨k, hk, rfl, hb⟩ := hrel
    by_cases hlt : k < l.length
    · obtain ⟨b, o, rfl, hc⟩ := need_cells (HE.out.keep hb) (by omega)
      obtain ⟨b2, o2, rfl, hc2⟩ := need_cells (HG.out.keep hb) (by omega)
      have c0 := hc k hlt
      have c1 := hc2 k hlt
      obtain ⟨x, hx⟩ : ∃ x, l[k] = x := ⟨_, rfl⟩
      rw [hx] at c0 c1
      have HB := Lib.hid hb
      clear hc hc2 hx hb
      go_wp2_with fail
      go_quiet (fail)
      go_wp2_with fail
      go_roundw
      case rel => exact ⟨k + 1, by omega, by go_num, below_drewN HB.out _⟩
      case measure => simp [intOf]; omega
    · go_wp2_with fail
      go_ret
      exact ⟨rfl, hb⟩
theorem intV_flat (l : List Int) : intV l = (l.map intC).flatten := by
  unfold intV intC
  induction l with
  | nil => rfl
  | cons k l ih => simp_all
theorem Sat.intElems {w0 w : World} {F : List HP} {A : Option Addr} {c : Nat} {l : List Int} (h : Sat w0 w (Row 3 1 A l.length c (intV l) :: F)) : Elems w (.slice A l.length c) 1 (l.map intC) :=
  elems_row h (l.map intC) (intV_flat l) (by simp) (fun x hx => by obtain ⟨b, _, rfl⟩ := List.mem_map.1 hx; rfl) (by decide)
theorem same13_rows {w0 w : World} {F : List HP} {A B : Option Addr} {c e : Nat} {l : List Int} (h : Sat w0 w (Row 3 1 A l.length c (intV l) :: Row 3 1 B l.length e (intV l) :: F)) (hl : l.length ≤ 4) :
    Calls Tryd.prog 20 #[.slice A l.length c, .slice B l.length e] w (Quietly w (.bool true)) := same13_yes l h.intElems h.r2.intElems (by omega)
theorem Like.cost {a d : Df} (h : Like a d) : costN a = costN d := by
  unfold costN costA
  rw [h.check, h.named, h.len, h.sumOs, h.cpTos, h.cpTos, h.cpTos, h.cpTos]
theorem Like.names {a d : Df} (h : Like a d) : namesN a = namesN d := by
  unfold namesN
  rw [h.check, h.named]
theorem cost_form (d : Df) : ∃ o a0 a1 a2 a3 e : Int, costN d = .tuple #[.agg #[.int .i64 o, .int .i64 a0, .int .i64 a1, .int .i64 a2, .int .i64 a3], .int .i64 e] := by
  unfold costN
  split
  · exact ⟨_, _, _, _, _, _, rfl⟩
  · exact ⟨_, _, _, _, _, _, rfl⟩
theorem namesN_len (d : Df) : (namesN d).length ≤ 4 := by
  unfold namesN
  split
  · exact named_len d
  · exact Nat.zero_le _
section
variable {w : World} {d : Df}
theorem own_of (hD : DefAt w d) (hz : Fits d) (hT : Lib.Utf8Tabs 0 1 w) : ∀ (D : Df) (F : List HP) (w1 : World), Like D d → Sat w w1 (OwnP D :: F) → Old w ∈ F →
    Calls Tryd.prog 16 #[likeV d D] w1 fun e w' => e = .returned (costN d) ∧ Below w1.heap.size w1 w' := fun D F w1 hl hS hm => by
  rw [← like_v hl, ← hl.cost]
  exact of_any D (hS.ownDef hl hD) (hl.fits hz) (tabs_keep hT (hS.old (List.mem_cons_of_mem _ hm)))
theorem own_named (hD : DefAt w d) (hz : Fits d) (hT : Lib.Utf8Tabs 0 1 w) : ∀ (D : Df) (F : List HP) (w1 : World), Like D d → Sat w w1 (OwnP D :: F) → Old w ∈ F →
    Calls Tryd.prog 18 #[likeV d D] w1 fun e w' => ∃ (A : Option Addr) (c : Nat), e = .returned (.slice A (namesN d).length c) ∧ Sat w w' (Row 3 1 A (namesN d).length c (intV (namesN d)) :: OwnP D :: F) := fun D F w1 hl hS hm => by
  rw [← like_v hl, ← hl.names]
  exact named_any D (hS.ownDef hl hD) (hl.fits hz) (tabs_keep hT (hS.old (List.mem_cons_of_mem _ hm))) hS
end
def FiRel (W : World) (L : List HP) (A : Option Addr) (c n : Nat) (x : Value) (wr : World) : Prop :=
  ∃ (k : Nat) (xs : List Value), k ≤ n ∧ x = .int .i64 k ∧ xs.length = n ∧ Sat W wr (Row 3 1 A n c xs :: L)
set_option maxHeartbeats 3200000 in
theorem costTells_any {w : World} (d : Df) (hD : DefAt w d) (hz : Fits d) (hT : Lib.Utf8Tabs 0 1 w) : Calls Tryd.prog 6 #[d.v] w (Quietly w (.bool true)) := by
  have C11 : Hid (∀ w1, Below w.heap.size w w1 → ∀ F, Sat w w1 F → Calls Tryd.prog 11 #[d.v] w1 fun e w' => ∃ D : Df, e = .returned (likeV d D) ∧ Like D d ∧ Sat w w' (OwnP D :: F)) := fun w1 hb F hF => copied_own (hD.keep hb) hz hF
  have C16 := Lib.hid (own_of hD hz hT)
  have C18 := Lib.hid (own_named hD hz hT)
  have C17 : Hid (∀ w1, Below w.heap.size w w1 → Calls Tryd.prog 17 #[d.v] w1 fun e w' => e = .returned (costN d) ∧ Below w1.heap.size w1 w') := fun w1 hb => rof_any d (hD.keep hb) hz
  have C19 : Hid (∀ w1 F, Below w.heap.size w w1 → Sat w w1 F → Calls Tryd.prog 19 #[d.v] w1 fun e w' => ∃ (A : Option Addr) (c : Nat), e = .returned (.slice A (namesN d).length c) ∧ Sat w w' (Row 3 1 A (namesN d).length c (intV (namesN d)) :: F)) := fun w1 F hb hS => rnamed_any d (hD.keep hb) hz hS
  have C14 := Lib.hid (own_same hD hz)
  have C21 : Hid (∀ w1, Below w.heap.size w w1 → Calls Tryd.prog 21 #[] w1 fun e w' => e = .returned (.bool true) ∧ Below w1.heap.size w1 w') := fun w1 hb => live13_any w1 (tabs_keep hT hb)
  have hnl := namesN_len d
  have C20 : Hid (∀ (F : List HP) (A B : Option Addr) (c e : Nat) (w1 : World), Sat w w1 (Row 3 1 A (namesN d).length c (intV (namesN d)) :: Row 3 1 B (namesN d).length e (intV (namesN d)) :: F) → Calls Tryd.prog 20 #[.slice A (namesN d).length c, .slice B (namesN d).length e] w1 fun e w' => e = .returned (.bool true) ∧ Below w1.heap.size w1 w') := fun F A B c e w1 h => same13_rows h hnl
  have hil : (intV (namesN d)).length = (namesN d).length := by unfold intV; rw [List.length_map]
  obtain ⟨o, p0, p1, p2, p3, er, hco⟩ := cost_form d
  rw [hco] at C16 C17
  obtain ⟨xs, hxs⟩ : ∃ l, intV (namesN d) = l := ⟨_, rfl⟩
  obtain ⟨m, hm⟩ : ∃ l, (namesN d).length = l := ⟨_, rfl⟩
  simp only [hxs, hm] at C18 C19 C20 hil hnl
  have h1 := (Sat.start w).new #[.string d.name, .slice d.A d.steps.length d.c] 24
  obtain ⟨b, hb⟩ : ∃ b, w.heap.size = b := ⟨_, rfl⟩
  unfold likeV at C11 C16 C18 C14
  unfold Df.v at C11 C17 C19 C14 ⊢
  unfold Quietly
  obtain ⟨n, hN⟩ : ∃ n, d.steps.length = n := ⟨_, rfl⟩
  simp only [hN] at h1 C11 C16 C17 C18 C19 C14 ⊢
  rw [hb] at h1
  have H1 := Lib.hid h1
  clear h1 hD hz hN hT hco hxs hm
  go_enter Tryd.func6, Tryd.ntmps6
  go_wp2_with fail
  try simp only [hb]
  refine (C11.out _ (H1.out.old (by simp)) _ H1.out).mono ?_
  rintro e w1 ⟨D, rfl, hl, h2⟩
  obtain ⟨q, hq⟩ : ∃ q, w1.heap.size = q := ⟨_, rfl⟩
  have h3 := h2.new #[.string d.name, .slice D.A n D.c] 24
  rw [hq] at h3
  have H3 := Lib.hid h3
  have HL := Lib.hid hl
  clear h2 h3 hl H1
  go_wp2_with fail
  try simp only [hq]
  refine (C16.out D _ _ HL.out H3.out.r2 (by simp)).mono ?_
  rintro e w2 ⟨rfl, hb2⟩
  obtain ⟨q2, hq2⟩ : ∃ q, w2.heap.size = q := ⟨_, rfl⟩
  have h4 := (H3.out.below hb2).new #[.int .i64 o, .int .i64 p0, .int .i64 p1, .int .i64 p2, .int .i64 p3] 40
  rw [hq2] at h4
  have b0 := (H3.out.below hb2).r3.blk.cell 0
  have b1 := (H3.out.below hb2).r3.blk.cell 1
  have z0 := cell_alloc (.cells #[.int .i64 o, .int .i64 p0, .int .i64 p1, .int .i64 p2, .int .i64 p3] 40) b0
  have z1 := cell_alloc (.cells #[.int .i64 o, .int .i64 p0, .int .i64 p1, .int .i64 p2, .int .i64 p3] 40) b1
  have H4 := Lib.hid h4
  clear h4 hb2 H3
  go_wp2_with fail
  try simp only [hq2]
  refine (C17.out _ (H4.out.old (by simp))).mono ?_
  rintro e w3 ⟨rfl, hb3⟩
  obtain ⟨q3, hq3⟩ : ∃ q, w3.heap.size = q := ⟨_, rfl⟩
  have h5 := (H4.out.below hb3).new #[.int .i64 o, .int .i64 p0, .int .i64 p1, .int .i64 p2, .int .i64 p3] 40
  rw [hq3] at h5
  have H5 := Lib.hid h5
  have d0 := cell_alloc (.cells #[.int .i64 o, .int .i64 p0, .int .i64 p1, .int .i64 p2, .int .i64 p3] 40) ((H4.out.below hb3).r2.blk.cell 0)
  have d1 := cell_alloc (.cells #[.int .i64 o, .int .i64 p0, .int .i64 p1, .int .i64 p2, .int .i64 p3] 40) ((H4.out.below hb3).r2.blk.cell 1)
  clear h5 hb3 H4 b0 b1 z0 z1
  go_wp2_with fail
  try simp only [hq3]
  -- pieces: Blk q3, Blk q2, Blk q, OwnP D, Blk b, Old
  refine (C18.out D _ _ HL.out H5.out.r4 (by simp)).mono ?_
  rintro e w4 ⟨A, c, rfl, h6⟩
  have e0 := h6.r6.blk.cell 0
  have e1 := h6.r6.blk.cell 1
  have H6 := Lib.hid h6
  clear h6 H5 d0 d1
  go_wp2_with fail
  refine (C19.out _ _ (H6.out.old (by simp)) H6.out).mono ?_
  rintro e w5 ⟨B, c2, rfl, h7⟩
  have H7 := Lib.hid h7
  have x0 := h7.r5.blk.cell 0
  have x1 := h7.r5.blk.cell 1
  have x2 := h7.r5.blk.cell 2
  have x3 := h7.r5.blk.cell 3
  have x4 := h7.r5.blk.cell 4
  have y0 := h7.r4.blk.cell 0
  have y1 := h7.r4.blk.cell 1
  have y2 := h7.r4.blk.cell 2
  have y3 := h7.r4.blk.cell 3
  have y4 := h7.r4.blk.cell 4
  clear h7 H6 e0 e1
  go_wp2_with fail
  refine (C20.out _ A B c c2 _ H7.out.r2).mono ?_
  rintro e w6 ⟨rfl, hb6⟩
  have H8 := Lib.hid (H7.out.below hb6).r2
  clear hb6 H7 x0 x1 x2 x3 x4 y0 y1 y2 y3 y4
  go_wp2_with fail
  go_loopw [10] (FiRel w (Row 3 1 B m c2 xs :: OwnP D :: [Blk q3 40 [.int .i64 o, .int .i64 p0, .int .i64 p1, .int .i64 p2, .int .i64 p3], Blk q2 40 [.int .i64 o, .int .i64 p0, .int .i64 p1, .int .i64 p2, .int .i64 p3], Blk q 24 [.string d.name, .slice D.A n D.c], Blk b 24 [.string d.name, .slice d.A n d.c], Old w]) A c m) (fun x _ => m - (intOf x).toNat)
  case atStart => exact ⟨0, xs, Nat.zero_le _, rfl, hil, H8.out⟩
  case round =>
    obtain ⟨k, ys, hk, rfl, hyl, hS⟩ := hrel
    clear H8
    by_cases hlt : k < m
    · obtain ⟨g, rfl, hc, hf⟩ := hS.rowCell (by intro e; rw [e] at hyl; simp at hyl; omega)
      have c0 := hc k (by omega)
      rw [List.getElem?_eq_getElem (by omega)] at c0
      have f0 := hf k
      have HX := Lib.hid (hS.rowSet k (.int .i64 (-1)))
      have hyl2 : (ys.set k (.int .i64 (-1))).length = m := by rw [List.length_set]; exact hyl
      have HYL := Lib.hid hyl2
      obtain ⟨v, hv⟩ : ∃ v, ys[k] = v := ⟨_, rfl⟩
      rw [hv] at c0
      clear hS hc hf hv hyl2
      go_wp2_with fail
      go_roundw
      case rel => exact ⟨k + 1, _, by omega, by go_num, HYL.out, HX.out⟩
      case measure => simp [intOf]; omega
    · have HS := Lib.hid hS
      have u0 := hS.r6.blk.cell 0
      have u1 := hS.r6.blk.cell 1
      clear hS
      go_wp2_with fail
      refine (C18.out D _ _ HL.out HS.out.r3 (by simp)).mono ?_
      rintro e w7 ⟨A2, c3, rfl, h9⟩
      have H9 := Lib.hid h9.r4.r2
      clear h9 HS u0 u1
      go_wp2_with fail
      refine (C20.out _ A2 B c3 c2 _ H9.out).mono ?_
      rintro e w8 ⟨rfl, hb8⟩
      have h10 := H9.out.below hb8
      have u0 := h10.tail.tail.tail.tail.r3.blk.cell 0
      have u1 := h10.tail.tail.tail.tail.r3.blk.cell 1
      have v0 := h10.tail.tail.tail.tail.r4.blk.cell 0
      have v1 := h10.tail.tail.tail.tail.r4.blk.cell 1
      have H10 := Lib.hid h10
      clear h10 hb8 H9
      go_wp2_with fail
      refine (C14.out D _ _ HL.out H10.out.r3 (by simp)).mono ?_
      rintro e w9 ⟨rfl, hb9⟩
      have H11 := Lib.hid (H10.out.below hb9)
      clear hb9 H10 u0 u1 v0 v1
      go_wp2_with fail
      refine (C21.out _ (H11.out.old (by simp))).mono ?_
      rintro e w10 ⟨rfl, hb10⟩
      have H12 := Lib.hid ((H11.out.below hb10).old (by simp))
      clear hb10 H11
      go_wp2_with fail
      go_ret
      exact ⟨rfl, by have h9 := H12.out; first | exact h9 | (rw [hb] at h9; exact h9)⟩
theorem costTells_walk (D : Df) (w : World) (hT : Lib.Utf8Tabs 0 1 w) (w0 : DefAt w D) (w1 : Fits D) : Calls Tryd.prog 6 #[D.v] w fun e w' => e = .returned (.bool true) ∧ Below w.heap.size w w' := costTells_any D w0 w1 hT
end Go.Proofs.YtpmoanjeoaeabaaDoor
