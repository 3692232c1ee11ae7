/- The program's Take. -/
import Derived.Test.YtbgbpibfmdkndaaDoorLI
import Derived.Maps.OwnOps
set_option linter.unusedVariables false
set_option linter.unusedSimpArgs false
set_option linter.unnecessarySimpa false
set_option maxRecDepth 100000
namespace Go.Proofs.YtbgbpibfmdkndaaDoor
open Go.RowKit Go.ChangeShapes Go.WideShapes Go.ChangeAt
/-- a store into the map, in a walk -/
theorem wpList_mpPut {w0 w : World} {L : List HP} {b : Nat} {M : List Ent} {ops : Array Oper} {rest : List Oper} {o : Oper} {a : Act} {Q : Exit → Act → World → Prop}
    (hg : o.guard = none) (m x v : Operand) (hop : o.op = Op.mapUpdate 48 m x v) (hm : a.eval m = .map (some b)) (hS : Sat w0 w (MapS b M :: L)) (hn : (M.map Prod.fst).Nodup) {s : ByteArray} {k : Int} (hx : a.eval x = .string s) (hv : a.eval v = .int .i64 k)
    (hK : ∀ w', Sat w0 w' (MapS b (putE M s k) :: L) → wpList Tryd.prog ops Q rest (a.put o.dst undef) w') :
    wpList Tryd.prog ops Q (o :: rest) a w := by
  refine wpList_plain hg fun K' hK' => ?_
  obtain ⟨w', hrun, r1⟩ := mpPut hS hn s k
  unfold Oper.wp
  simp [execOp, hop, hm, hx, hv, hrun, Result.andThen]
  exact hK' _ _ (hK w' r1)
section
variable {w w0 : World} {F : List HP} {tb : Nat} {D : List Ent} {A : Option Addr} {c : Nat} {keys : List ByteArray}
def TkRel (w0 : World) (F : List HP) (D : List Ent) (inst : Int) (keys : List ByteArray) (i : Value) (wr : World) : Prop :=
  ∃ k : Nat, k ≤ keys.length ∧ i = .int .i64 k ∧ Sat w0 wr F ∧ ∀ j x, j < k → keys[j]? = some x → othE D inst x = false
def TkRel2 (w0 : World) (F : List HP) (tb mb : Nat) (D : List Ent) (inst : Int) (keys : List ByteArray) (i : Value) (wr : World) : Prop :=
  ∃ (k : Nat) (M : List Ent), k ≤ keys.length ∧ i = .int .i64 k ∧ M.Perm (takenE D inst (keys.take k)) ∧ Sat w0 wr (MapS mb M :: Blk tb 50 [.map (some mb)] :: F)
theorem take_not {inst : Int} (h : askE inst keys = false) : takeE D inst keys = (⟨#[]⟩, false, D) := by unfold takeE; rw [h]; rfl
theorem find_at {α : Type} {p : α → Bool} : ∀ {l : List α} {j : Nat} {x : α}, l[j]? = some x → p x = true → (∀ i y, i < j → l[i]? = some y → p y = false) → l.find? p = some x
  | [], j, x, h, _, _ => by simp at h
  | a :: l, 0, x, h, hp, _ => by
    obtain rfl : a = x := by simpa using h
    rw [List.find?_cons_of_pos hp]
  | a :: l, j + 1, x, h, hp, hl => by
    rw [List.find?_cons_of_neg (by rw [hl 0 a (by omega) rfl]; simp)]
    exact find_at (l := l) (j := j) (by simpa using h) hp fun i y hi hy => hl (i + 1) y (by omega) (by simpa using hy)
theorem find_no {α : Type} {p : α → Bool} {l : List α} (h : ∀ i y, i < l.length → l[i]? = some y → p y = false) : l.find? p = none := by
  rw [List.find?_eq_none]
  intro x hx
  obtain ⟨i, hi, rfl⟩ := List.getElem_of_mem hx
  rw [h i _ hi (List.getElem?_eq_getElem hi)]
  simp
set_option maxHeartbeats 3200000 in
theorem take_any (hD : TabOk D) (inst : Int) (hm : KeysOk keys) (hK : KeysF w0 F A keys) (hS : Sat w0 w (TabP tb D :: F)) :
    Calls Tryd.prog 10 #[.pointer (some ⟨tb, 0, none⟩), .int .i64 inst, .slice A keys.length c] w fun e w' =>
      e = .returned (.tuple #[.string (takeE D inst keys).1, .bool (takeE D inst keys).2.1]) ∧ Sat w0 w' (TabP tb (takeE D inst keys).2.2 :: F) := by
  have HS0 := Lib.hid hS
  have HK := Lib.hid hK
  have HM := Lib.hid hm
  have HD := Lib.hid hD
  have hlen := hm.len
  have HC := Lib.hid (contains26 (c := c) hm (hK.more (G := [TabP tb D])) hS)
  obtain ⟨n, hn⟩ : ∃ n, keys.length = n := ⟨_, rfl⟩
  have HN := Lib.hid hn
  rw [hn] at hlen HC ⊢
  by_cases hi : inst < 1
  · have ha : askE inst keys = false := by unfold askE; rw [decide_eq_false (by omega)]; rfl
    rw [take_not ha]
    clear hS hn hm hK hD ha HC
    go_enter Tryd.func10, Tryd.ntmps10
    go_wp2_with fail
    go_ret2
    exact ⟨rfl, HS0.out⟩
  · cases hall : keys.all isN with
    | false =>
      have ha : askE inst keys = false := by unfold askE; rw [hall, Bool.and_false]
      rw [take_not ha]
      rw [hall] at HC
      clear hS hn hm hK hD ha hall
      go_enter Tryd.func10, Tryd.ntmps10
      go_wp2_with fail
      refine HC.out.mono ?_
      rintro e w1 ⟨rfl, h⟩
      have H := Lib.hid h
      clear h HC
      go_wp2_with fail
      go_ret2
      exact ⟨rfl, H.out⟩
    | true =>
      have ha : askE inst keys = true := by unfold askE; rw [hall, Bool.and_true]; exact decide_eq_true (by omega)
      have HI : Hid (1 ≤ inst) := by show _ ≤ _; omega
      have HNM : Hid (∀ k ∈ keys, isN k = true) := by
        show ∀ k ∈ _, _
        exact List.all_eq_true.1 hall
      have HT : Hid ((∀ k, keys.find? (othE D inst) = some k → takeE D inst keys = (k, false, D)) ∧ (keys.find? (othE D inst) = none → takeE D inst keys = (⟨#[]⟩, true, takenE D inst keys))) := by
        refine ⟨fun k h => ?_, fun h => ?_⟩ <;> (unfold takeE; rw [ha, if_pos rfl, h])
      rw [hall] at HC
      obtain ⟨R, hR⟩ : ∃ R, takeE D inst keys = R := ⟨_, rfl⟩
      rw [hR] at HT ⊢
      clear hS hn hm hK hD ha hall hR HS0
      go_enter Tryd.func10, Tryd.ntmps10
      go_wp2_with fail
      refine HC.out.mono ?_
      rintro e w1 ⟨rfl, h⟩
      obtain ⟨mb, M, hp, h1⟩ := h.tabOpen
      have H1 := Lib.hid h1
      have HP := Lib.hid hp
      clear h h1 hp HC
      go_wp2_with fail
      go_loopw [22] (TkRel w0 (Blk tb 50 [.map (some mb)] :: MapS mb M :: F) D inst keys) (fun i _ => n - (intOf i).toNat)
      case atStart => exact ⟨0, Nat.zero_le _, rfl, H1.out, fun j x hj => absurd hj (Nat.not_lt_zero _)⟩
      case round =>
        obtain ⟨j, hj, rfl, hS, hfree⟩ := hrel
        rw [HN.out] at hj
        clear H1
        have HFR := Lib.hid hfree
        have HS := Lib.hid hS
        clear hfree
        have c0 := hS.blk.cell 0
        by_cases hlt : j < n
        · obtain ⟨x, hx⟩ : ∃ x, keys[j]? = some x := ⟨_, List.getElem?_eq_getElem (by rw [HN.out]; exact hlt)⟩
          obtain ⟨b, o, rfl, hK⟩ := HK.out.resolve_left (by rintro rfl; simp at hx)
          have k0 := hK wr [_, _] hS j x hx
          have hl := hS.r2.mpLook x true
          rw [val_perm HD.out HP.out, has_perm HD.out HP.out] at hl
          have HX := Lib.hid hx
          obtain ⟨v, hv⟩ : ∃ v, valE D x = v := ⟨_, rfl⟩
          have HV := Lib.hid hv
          rw [hv] at hl
          clear hK hx hv hS
          by_cases hv0 : v = 0
          · have t1 : decide (v ≠ 0) = false := by simp [hv0]
            rw [t1, if_pos rfl] at hl
            have HO : Hid (othE D inst x = false) := by show _ = _; unfold othE; rw [HV.out]; simp [hv0]
            clear t1 hv0
            go_wp2_with fail
            go_roundw
            case rel =>
              refine ⟨j + 1, by rw [HN.out]; omega, by go_num, HS.out, fun i y hi hy => ?_⟩
              by_cases hij : i < j
              · exact HFR.out i y hij hy
              · obtain rfl : i = j := by omega
                rw [HX.out] at hy
                injection hy with hy
                subst hy
                exact HO.out
            case measure => simp [intOf]; omega
          · have t1 : decide (v ≠ 0) = true := by simp [hv0]
            rw [t1, if_pos rfl] at hl
            clear t1
            by_cases hvi : v = inst
            · have HO : Hid (othE D inst x = false) := by show _ = _; unfold othE; rw [HV.out]; simp [hvi]
              clear hv0
              go_wp2_with fail
              go_roundw
              case rel =>
                refine ⟨j + 1, by rw [HN.out]; omega, by go_num, HS.out, fun i y hi hy => ?_⟩
                by_cases hij : i < j
                · exact HFR.out i y hij hy
                · obtain rfl : i = j := by omega
                  rw [HX.out] at hy
                  injection hy with hy
                  subst hy
                  exact HO.out
              case measure => simp [intOf]; omega
            · have HO : Hid (othE D inst x = true) := by show _ = _; unfold othE; rw [HV.out]; simp [hvi, hv0]
              clear hv0
              go_wp2_with fail
              go_ret2
              rw [HT.out.1 _ (find_at HX.out HO.out HFR.out)]
              exact ⟨rfl, Sat.tabClose HP.out HS.out⟩
        · obtain rfl : j = n := by omega
          have HFN : Hid (keys.find? (othE D inst) = none) := find_no fun i y hi hy => HFR.out i y (by rw [← HN.out]; exact hi) hy
          have HR : Hid (R = (⟨#[]⟩, true, takenE D inst keys)) := by
            show _ = _
            exact HT.out.2 HFN.out
          clear hlt hS HFR HT c0
          go_wp2_with fail
          go_loopw [45] (TkRel2 w0 F tb mb D inst keys) (fun i _ => j - (intOf i).toNat)
          case atStart => exact ⟨0, M, Nat.zero_le _, rfl, by simpa [takenE] using HP.out, HS.out.r2⟩
          case round =>
            obtain ⟨q, M2, hq, rfl, hp2, hS⟩ := hrel
            rw [HN.out] at hq
            clear HS HP
            have c0 := hS.r2.blk.cell 0
            by_cases hlt : q < j
            · obtain ⟨x, hx⟩ : ∃ x, keys[q]? = some x := ⟨_, List.getElem?_eq_getElem (by rw [HN.out]; exact hlt)⟩
              obtain ⟨b, o, rfl, hK⟩ := HK.out.resolve_left (by rintro rfl; simp at hx)
              have k0 := hK wr [_, _] hS q x hx
              have hOk := taken_ok HI.out (keys.take q) HD.out fun y hy => HNM.out y (List.mem_of_mem_take hy)
              have hnd := Lib.hid (((hp2.map Prod.fst).nodup_iff).2 hOk.nodup)
              have HPP : Hid ((putE M2 x inst).Perm (takenE D inst (keys.take (q + 1)))) := by
                show List.Perm _ _
                rw [taken_succ _ _ _ _ _ hx]
                exact put_perm hOk hp2 (taken_free HI.out keys HD.out HNM.out HFN.out q x (List.mem_of_getElem? hx))
              have HS := Lib.hid hS
              clear hK hx hp2 hOk hS
              go_wp2_with (at_mapUpdate; refine wpList_mpPut rfl _ _ _ rfl rfl HS.out hnd.out rfl rfl ?_; intro w5 h5; have H5 := Lib.hid h5; clear h5)
              go_roundw
              case rel => exact ⟨q + 1, _, by rw [HN.out]; omega, by go_num, HPP.out, H5.out⟩
              case measure => simp [intOf]; omega
            · obtain rfl : q = j := by omega
              have HPP : Hid (M2.Perm (takenE D inst keys)) := by
                show List.Perm _ _
                rw [List.take_of_length_le (by rw [HN.out]; exact Nat.le_refl _)] at hp2
                exact hp2
              have HS := Lib.hid hS
              clear hS hp2 hlt
              go_wp2_with fail
              go_ret2
              rw [HR.out]
              exact ⟨rfl, Sat.tabClose HPP.out HS.out.r2⟩
end
end Go.Proofs.YtbgbpibfmdkndaaDoor
