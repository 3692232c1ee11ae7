/- The program's Drop. -/
import Derived.Test.YtbgbpibfmdkndaaDoorLK
set_option linter.unusedVariables false
set_option linter.unusedSimpArgs false
set_option linter.unnecessarySimpa false
set_option maxRecDepth 100000
namespace Go.Proofs.YtbgbpibfmdkndaaDoor
open Go.RowKit Go.ChangeShapes Go.WideShapes Go.ChangeAt
theorem dropE_snoc (done : List Ent) (x : ByteArray) (v inst : Int) : dropE (done ++ [(x, v)]) inst = if v = inst then dropE done inst else dropE done inst ++ [(x, v)] := by
  unfold dropE
  by_cases h : v = inst
  · simp [h]
  · simp [h]
theorem del_perm {M A T T' : List Ent} {x : ByteArray} {v : Int} (h : M.Perm (A ++ T)) (ht : T.Perm ((x, v) :: T')) (hn : (M.map Prod.fst).Nodup) : (M.filter fun m => decide (m.1 ≠ x)).Perm (A ++ T') ∧ x ∉ T'.map Prod.fst := by
  have h1 : M.Perm ((x, v) :: (A ++ T')) := h.trans ((List.Perm.append_left A ht).trans List.perm_middle)
  have hn1 : (((x, v) :: (A ++ T')).map Prod.fst).Nodup := ((h1.map Prod.fst).nodup_iff).1 hn
  rw [List.map_cons, List.nodup_cons] at hn1
  refine ⟨(h1.filter _).trans ?_, fun hx => hn1.1 (by rw [List.map_append]; exact List.mem_append_right _ hx)⟩
  rw [List.filter_cons_of_neg (by simp), filter_other hn1.1]
section
variable {w w0 : World} {F : List HP} {tb : Nat} {D : List Ent}
def DrRel (w0 : World) (F : List HP) (tb mb r : Nat) (M : List Ent) (inst : Int) (cnt : Value) (wr : World) : Prop :=
  ∃ (done T M2 : List Ent) (n : Nat), (done ++ T).Perm M ∧ M2.Perm (dropE done inst ++ T) ∧ cnt = .int .i64 n ∧ (heldE done inst).length = n ∧ Sat w0 wr (ItP r mb M2 T :: Blk tb 50 [.map (some mb)] :: F)
set_option maxHeartbeats 3200000 in
theorem drop_any (hD : TabOk D) (hlen : D.length ≤ 4194304) (inst : Int) (hS : Sat w0 w (TabP tb D :: F)) :
    Calls Tryd.prog 14 #[.pointer (some ⟨tb, 0, none⟩), .int .i64 inst] w fun e w' => e = .returned (.int .i64 (heldE D inst).length) ∧ Sat w0 w' (TabP tb (dropE D inst) :: F) := by
  obtain ⟨mb, M, hp, h1⟩ := hS.tabOpen
  have c0 := h1.blk.cell 0
  have HD := Lib.hid hD
  have HP := Lib.hid hp
  have H1 := Lib.hid h1.r2
  have hml : M.length ≤ 4194304 := by rw [hp.length_eq]; exact hlen
  clear hS hp h1 hD
  go_enter Tryd.func14, Tryd.ntmps14
  go_wp2_with (at_range; refine wpList_mpRange rfl _ rfl rfl H1.out ?_; intro w2 h2; have H2 := Lib.hid h2; clear h2)
  go_frame
  obtain ⟨r, hr⟩ : ∃ r, w.heap.size = r := ⟨_, rfl⟩
  rw [hr] at H2 ⊢
  clear hr H1 c0
  go_loopw [5] (DrRel w0 F tb mb r M inst) (fun _ wr => leftN wr r)
  case atStart => exact ⟨[], M, M, 0, .refl _, .refl _, rfl, rfl, H2.out⟩
  case round =>
    obtain ⟨done, T, M2, n, hdt, hM2, rfl, hn, hS⟩ := hrel
    clear H2
    have hle := done_len (inst := inst) hdt
    have HL := Lib.hid hS.leftN
    have HDT := Lib.hid hdt
    have HM2 := Lib.hid hM2
    have HN := Lib.hid hn
    have HS := Lib.hid hS
    rw [hn] at hle
    clear hdt hn hS hM2
    go_wp2_with (at_next; refine wpList_mpNext rfl _ rfl rfl HS.out ?_ ?_)
    · intro h0
      subst h0
      have HDD : Hid (done.Perm D) := by
        have h := HDT.out
        rw [List.append_nil] at h
        exact h.trans HP.out
      have HMD : Hid (M2.Perm (dropE D inst)) := by
        have h := HM2.out
        rw [List.append_nil] at h
        exact h.trans (HDD.out.filter _)
      have HNN : Hid ((heldE D inst).length = n) := by
        show _ = _
        rw [← HN.out]
        exact (((HDD.out.filter _).map Prod.fst).length_eq).symm
      have HSR := Lib.hid HS.out.itDone.r2
      clear HL HDT HS HM2 HN HDD
      go_wp2_with fail
      go_ret
      exact ⟨by rw [HNN.out]; rfl, Sat.tabClose HMD.out HSR.out⟩
    · intro x v T' w3 hperm hen h3
      have H3 := Lib.hid h3
      have hlt : T'.length < T.length := by rw [hperm.length_eq]; simp
      have HD2 : Hid ((done ++ [(x, v)] ++ T').Perm M) := by
        show List.Perm _ _
        rw [List.append_assoc]
        exact (List.Perm.append_left done hperm.symm).trans HDT.out
      have HL2 := Lib.hid h3.leftN
      have HSN := Lib.hid (heldE_snoc done x v inst)
      have HDN := Lib.hid (dropE_snoc done x v inst)
      have hn1 : (M2.map Prod.fst).Nodup := by
        have hs : (dropE done inst ++ T).Sublist (done ++ T) := List.Sublist.append List.filter_sublist (List.Sublist.refl _)
        have h1 : ((done ++ T).map Prod.fst).Nodup := ((HDT.out.trans HP.out).map Prod.fst).nodup_iff.2 HD.out.nodup
        exact ((HM2.out.map Prod.fst).nodup_iff).2 ((hs.map Prod.fst).nodup h1)
      by_cases hv : v = inst
      · have HSN2 : Hid (heldE (done ++ [(x, v)]) inst = heldE done inst ++ [x]) := by
          show _ = _
          rw [HSN.out, if_pos hv]
        have HX := Lib.hid (del_perm HM2.out hperm hn1)
        have HDN2 : Hid (dropE (done ++ [(x, v)]) inst = dropE done inst) := by
          show _ = _
          rw [HDN.out, if_pos hv]
        have HN1 := Lib.hid hn1
        have c0 := h3.r2.blk.cell 0
        clear HSN HDN hn1 hperm h3 HS HDT HM2
        go_wp2_with (at_delete; refine wpList_mpDel rfl _ _ rfl rfl rfl H3.out HN1.out HX.out.2 ?_; intro w5 h5; have H5 := Lib.hid h5; clear h5)
        go_roundw
        case rel => exact ⟨done ++ [(x, v)], T', _, n + 1, HD2.out, by rw [HDN2.out]; exact HX.out.1, by go_num, by rw [HSN2.out, List.length_append, HN.out]; rfl, H5.out⟩
        case measure => rw [HL.out, H5.out.leftN]; exact hlt
      · have HSN2 : Hid (heldE (done ++ [(x, v)]) inst = heldE done inst) := by
          show _ = _
          rw [HSN.out, if_neg hv]
        have HM3 : Hid (M2.Perm (dropE (done ++ [(x, v)]) inst ++ T')) := by
          show List.Perm _ _
          rw [HDN.out, if_neg hv, List.append_assoc]
          exact HM2.out.trans (List.Perm.append_left _ hperm)
        clear HSN HDN hn1 hperm h3 HS HDT HM2
        go_wp2_with fail
        go_roundw
        case rel => exact ⟨done ++ [(x, v)], T', M2, n, HD2.out, HM3.out, rfl, by rw [HSN2.out, HN.out], H3.out⟩
        case measure => rw [HL.out, HL2.out]; exact hlt
end
end Go.Proofs.YtbgbpibfmdkndaaDoor
