/- The document's registry: All. -/
import Derived.Test.YtpmoanjeoaeabaaDoorSA
set_option linter.unusedVariables false
set_option linter.unusedSimpArgs false
set_option linter.unnecessarySimpa false
set_option maxRecDepth 100000
namespace Go.Proofs.YtpmoanjeoaeabaaDoor
open Go.RowKit Go.ChangeShapes Go.WideShapes Go.ChangeAt
/-- the list's cells grow by one definition -/
theorem defsC_snoc (L : List Df) (D : Df) : defsC (L ++ [D]) = defsC L ++ [.string D.name, .slice D.A D.steps.length D.c] := by unfold defsC; rw [List.flatMap_append]; rfl
theorem def_one (D : Df) : ∀ u ∈ (#[.string D.name, .slice D.A D.steps.length D.c] : Array Value).toList, u.oneCell' = true := by
  intro u hu
  simp at hu
  rcases hu with rfl | rfl <;> rfl
def DAllRel (w0 : World) (L : List HP) (R : List Ver) (out i : Value) (wr : World) : Prop :=
  ∃ (k : Nat) (Es : List Df) (A2 : Option Addr) (c2 : Nat), k ≤ R.length ∧ i = .int .i64 k ∧ out = .slice A2 k c2 ∧ Es.length = k ∧ Likes Es R ∧ Sat w0 wr (Row 24 2 A2 k c2 (defsC Es) :: sep (Es.map OwnP) :: L)
set_option maxHeartbeats 3200000 in
theorem docAll_any {w w0 : World} {F : List HP} {xb : Nat} {R : List Ver} (hR : ∀ r ∈ R, Wf r.d) (hlen : R.length ≤ 16) (hS : Sat w0 w (DocP xb R :: F)) :
    Calls Tryd.prog 61 #[.pointer (some ⟨xb, 0, none⟩)] w fun e w' => ∃ (A2 : Option Addr) (c2 : Nat) (Es : List Df), e = .returned (.slice A2 R.length c2) ∧ Es.length = R.length ∧ Likes Es R ∧ Sat w0 w' (Row 24 2 A2 R.length c2 (defsC Es) :: sep (Es.map OwnP) :: DocP xb R :: F) := by
  obtain ⟨A, c, Ds, hl, hk, h0⟩ := hS.docOpen
  obtain ⟨n, hn⟩ : ∃ n, R.length = n := ⟨_, rfl⟩
  obtain ⟨LL, hLL⟩ : ∃ x, x = Blk xb 85 [.slice A n c] :: Row 24 2 A n c (defsC Ds) :: sep (Ds.map OwnP) :: F := ⟨_, rfl⟩
  have HLL := Lib.hid hLL
  have HN := Lib.hid hn
  have HR := Lib.hid hR
  rw [hn] at h0 hl hlen ⊢
  rw [← hLL] at h0
  have HCL : Hid (∀ W L, Sat w0 W (L ++ LL) → Sat w0 W (L ++ (DocP xb R :: F))) := fun W L h => by
    have h1 := h.swapA
    rw [HLL.out, ← HN.out] at h1
    exact (Sat.docClose (by rw [HN.out]; exact hl) hk h1).swapA (L := DocP xb R :: F)
  have H1 := Lib.hid ((Sat.close (M := []) h0).nilRow 24 2)
  clear hS h0 hLL hn hR
  go_enter Tryd.func61, Tryd.ntmps61
  go_wp2_with fail
  go_loopw [3, 4] (DAllRel w0 LL R) (fun _ i _ => n - (intOf i).toNat)
  case atStart => exact ⟨0, [], none, 0, Nat.zero_le _, rfl, rfl, rfl, likes_nil R, H1.out⟩
  case round =>
    obtain ⟨k, Es, A2, c2, hkn, rfl, rfl, hel, hlk, hS⟩ := hrel
    rw [HN.out] at hkn
    clear H1
    have hS5 := hS
    rw [HLL.out] at hS5
    have x0 := hS5.r3.blk.cell 0
    by_cases hlt : k < n
    · obtain ⟨r, hr⟩ : ∃ r, R[k]? = some r := ⟨_, List.getElem?_eq_getElem (by rw [HN.out]; exact hlt)⟩
      obtain ⟨D, hD⟩ : ∃ D, Ds[k]? = some D := ⟨_, List.getElem?_eq_getElem (by omega)⟩
      have hkD := hk k D r hD hr
      have hDw : Wf D := hkD.wf (HR.out r (List.mem_of_getElem? hr))
      have hDm : D ∈ Ds := List.mem_of_getElem? hD
      have g0 := defsC_get Ds k 0 D hD (by decide)
      have g1 := defsC_get Ds k 1 D hD (by decide)
      rw [Nat.add_zero] at g0
      obtain ⟨g, hA, _, _⟩ := hS5.r4.rowCell (by intro e; rw [e] at g0; simp [defC] at g0)
      subst hA
      have c0 := (hS5.r4.rowAt (j := k * 2) (v := .string D.name) g0).1
      have c1 := (hS5.r4.rowAt (j := k * 2 + 1) (v := .slice D.A D.steps.length D.c) g1).1
      have hDA : DefAt wr D := by
        obtain ⟨F', hF⟩ := hS5.r5.pickP (List.mem_map.2 ⟨D, hDm, rfl⟩)
        exact hF.wfDef hDw
      have CC : Hid (Calls Tryd.prog 29 #[.agg #[.string D.name, .slice D.A D.steps.length D.c]] wr fun e w' => ∃ C : Df, e = .returned (.agg #[.string C.name, .slice C.A C.steps.length C.c]) ∧ Like C D ∧ Sat w0 w' (OwnP C :: Row 24 2 A2 k c2 (defsC Es) :: sep (Es.map OwnP) :: LL)) := by
        refine (copy10_own hDA hDw.fits hS).mono ?_
        rintro e w' ⟨C, rfl, hl, hs⟩
        exact ⟨C, by rw [← like_v hl]; rfl, hl, hs⟩
      have HSN : Hid (∀ C, Like C D → Likes (Es ++ [C]) R) := fun C hC => likes_snoc hlk hel (by rw [HN.out]; exact hlt) (by
        obtain ⟨_, e⟩ := List.getElem?_eq_some_iff.1 hr
        rw [e]; exact hC.trans hkD)
      obtain ⟨i24, hi24, hz24, hs24, hb24⟩ := info_parts infoD
      have HI24 := Lib.hid hi24
      have hbk : k + 1 ≤ maxLen ∧ (k + 1) * 40 ≤ 140737488355328 := by unfold maxLen; omega
      have HZC : Hid ((Value.agg #[.string ⟨#[]⟩, .slice none 0 0]).cells.size = 2) := rfl
      clear hS hS5 hr hD hkD hDw hDm g0 g1 hDA hlk hi24
      go_wp2_with fail
      refine CC.out.mono ?_
      rintro e w5 ⟨C, rfl, hC, h5⟩
      have HB := Lib.hid (h5.r2.new #[.string C.name, .slice C.A C.steps.length C.c] 24)
      have HLEN : Hid ((#[.string C.name, .slice C.A C.steps.length C.c] : Array Value).toList.length = 2) := rfl
      have HONE := Lib.hid (def_one C)
      have HSC := Lib.hid (HSN.out C hC)
      clear h5 hC x0 c0 c1 CC HSN
      go_wp2_with (first
        | (refine wpList_bs47 rfl 22 rfl (.string C.name) (.slice C.A C.steps.length C.c) rfl ?_)
        | (at_builtin; refine wpList_app1 rfl (.tmp 14) (.tmp 23) 47 rfl 24 i24 _ 2 40 Tryd.underlying47 HI24.out hz24 hs24 hb24 HZC.out (by decide) rfl HB.out rfl HLEN.out HONE.out hbk.1 hbk.2 ?_; intro A3 c3 W10 hS10; have H10 := Lib.hid hS10; clear hS10))
      go_roundw
      case rel =>
        refine ⟨k + 1, Es ++ [C], A3, c3, by rw [HN.out]; omega, by go_num, rfl, by simp [hel], HSC.out, ?_⟩
        rw [defsC_snoc, List.map_append]
        exact H10.out.r3.r3.r2.snocP.r2
      case measure => simp [intOf]; omega
    · obtain rfl : k = n := by omega
      have HS := Lib.hid hS
      have HLK := Lib.hid hlk
      clear hS hS5 hlk
      go_wp2_with fail
      go_ret
      exact ⟨A2, c2, Es, rfl, hel, HLK.out, HCL.out _ [_, _] HS.out⟩
end Go.Proofs.YtpmoanjeoaeabaaDoor
