/- The program's Retry, told by the document's waits: Begin, Moved, Stop, Due. -/
import Derived.Test.YtbgbpibfmdkndaaRR
import Derived.Test.YtbgbpibfmdkndaaRJ
set_option linter.unusedVariables false
set_option linter.unusedSimpArgs false
set_option linter.unnecessarySimpa false
set_option maxRecDepth 100000
namespace Go.Proofs.Ytbgbpibfmdkndaa
open Go.RowKit Go.ChangeShapes Go.WideShapes Go.ChangeAt
def PRet (r : Nat) (t : List Int) (dl : Int) (W : List Wt) : HP := ex fun y : List Tm × List Tm × List Ent => wth (Cpl W y.1 y.2.1 y.2.2) (RetP r t dl y.1 y.2.1 y.2.2)
section
variable {w w0 : World} {F : List HP} {t : List Int} {dl : Int} {r : Nat} {W : List Wt} {L K : List Tm} {M : List Ent}
theorem Sat.prOpen (h : Sat w0 w (PRet r t dl W :: F)) : ∃ L K M, Cpl W L K M ∧ Sat w0 w (RetP r t dl L K M :: F) := by
  obtain ⟨⟨L, K, M⟩, h⟩ := h.open_ex
  obtain ⟨h1, h2⟩ := h.open_wth
  exact ⟨L, K, M, h1, h2⟩
theorem Sat.prClose (hc : Cpl W L K M) (h : Sat w0 w (RetP r t dl L K M :: F)) : Sat w0 w (PRet r t dl W :: F) := Sat.close_ex (α := List Tm × List Tm × List Ent) (L, K, M) (Sat.close_wth hc h)
theorem delay_zero (t : List Int) : delayV t 0 = t.getD 0 0 := by unfold delayV; simp
theorem waits_is {i : Nat} (h : waitsB W (i : Int) = true) : 1 ≤ i ∧ i ≤ 60 ∧ (atW W i).is = true := by
  unfold waitsB at h
  rw [Bool.and_eq_true, decide_eq_true_eq, Int.toNat_natCast] at h
  exact ⟨by omega, by omega, h.2⟩
theorem pbegin_any (id now : Int) (hm : mayB t = true) (hdl : 1 ≤ dl ∧ dl ≤ 1073741824) (hS : Sat w0 w (PRet r t dl W :: F)) :
    Calls Try.prog 15 #[.pointer (some ⟨r, 0, none⟩), .int .i64 id, .int .i64 now] w fun e w' => e = .returned (.int .i64 (beginE t dl W id now).1) ∧ Sat w0 w' (PRet r t dl (beginE t dl W id now).2 :: F) := by
  obtain ⟨L, K, M, hC, h⟩ := hS.prOpen
  have q1 := hC.shortL
  have q2 := hC.shortK
  by_cases hg : (1 ≤ id ∧ id ≤ 60) ∧ (0 ≤ now ∧ now ≤ 1073741824) ∧ (atW W id.toNat).is = false
  · have he : beginE t dl W id now = (0, W.set id.toNat ⟨true, 0, laterV now (t.getD 0 0), laterV now dl, false⟩) := by unfold beginE; rw [if_pos hg]
    rw [he]
    obtain ⟨hid, ht, hi⟩ := hg
    have hh : hasE M id = false := by rw [hC.has]; unfold waitsB; rw [hi, Bool.and_false]
    obtain ⟨i, rfl⟩ : ∃ i : Nat, id = (i : Int) := ⟨id.toNat, by omega⟩
    have hd := delay_in hm 0
    have hz := delay_zero t
    refine (begin_ok hh hid ht hm hdl (by omega) (by omega) hC.nM h).mono ?_
    rintro e w' ⟨rfl, h2⟩
    refine ⟨rfl, Sat.prClose ?_ h2⟩
    rw [Int.toNat_natCast, hz]
    exact hC.begin (by omega) (by omega) (later_in ht (by omega)) (later_in ht (by omega))
  · have he : beginE t dl W id now = (1, W) := by unfold beginE; rw [if_neg hg]
    rw [he]
    refine (begin_bad (fun g => hg ⟨g.2.1, of_decide_eq_true g.2.2, ?_⟩) h).mono ?_
    · obtain ⟨g1, g2, g3⟩ := g
      rw [hC.has] at g1
      unfold waitsB at g1
      rw [decide_eq_true g2, Bool.true_and] at g1
      exact g1
    · rintro e w' ⟨rfl, h2⟩
      exact ⟨rfl, Sat.prClose hC h2⟩
theorem pmoved_any (id now : Int) (hm : mayB t = true) (hS : Sat w0 w (PRet r t dl W :: F)) :
    Calls Try.prog 18 #[.pointer (some ⟨r, 0, none⟩), .int .i64 id, .int .i64 now] w fun e w' => e = .returned (.int .i64 (movedE t W id now).1) ∧ Sat w0 w' (PRet r t dl (movedE t W id now).2 :: F) := by
  obtain ⟨L, K, M, hC, h⟩ := hS.prOpen
  have q1 := hC.shortL
  by_cases hg : waitsB W id = true ∧ tickB now = true
  · have he : movedE t W id now = (0, W.set id.toNat { atW W id.toNat with tries := 0, again := laterV now (t.getD 0 0) }) := by unfold movedE; rw [if_pos hg]
    rw [he]
    obtain ⟨hw, htk⟩ := hg
    have ht : 0 ≤ now ∧ now ≤ 1073741824 := of_decide_eq_true htk
    have hr : 1 ≤ id ∧ id ≤ 60 := by
      have h := hw
      unfold waitsB at h
      rw [Bool.and_eq_true] at h
      exact of_decide_eq_true h.1
    obtain ⟨i, rfl⟩ : ∃ i : Nat, id = (i : Int) := ⟨id.toNat, by omega⟩
    obtain ⟨h1, h6, hi⟩ := waits_is hw
    have hd := delay_in hm 0
    have hz := delay_zero t
    refine (moved_ok (by rw [hC.has]; exact hw) ht hm (by omega) hC.nM h).mono ?_
    rintro e w' ⟨rfl, h2⟩
    refine ⟨rfl, Sat.prClose ?_ h2⟩
    rw [Int.toNat_natCast, hz]
    exact hC.moved h1 h6 hi (later_in ht (by omega))
  · have he : movedE t W id now = (1, W) := by unfold movedE; rw [if_neg hg]
    rw [he]
    refine (moved_bad (fun g => hg ⟨by rw [← hC.has]; exact g.1, g.2⟩) h).mono ?_
    rintro e w' ⟨rfl, h2⟩
    exact ⟨rfl, Sat.prClose hC h2⟩
theorem pstop_any (id : Int) (hS : Sat w0 w (PRet r t dl W :: F)) :
    Calls Try.prog 19 #[.pointer (some ⟨r, 0, none⟩), .int .i64 id] w fun e w' => e = .returned (.int .i64 (stopE W id).1) ∧ Sat w0 w' (PRet r t dl (stopE W id).2 :: F) := by
  obtain ⟨L, K, M, hC, h⟩ := hS.prOpen
  have q1 := hC.shortL
  have q2 := hC.shortK
  cases hw : waitsB W id with
  | true =>
    have he : stopE W id = (0, W.set id.toNat zW) := by unfold stopE; rw [if_pos hw]
    rw [he]
    have hr : 1 ≤ id ∧ id ≤ 60 := by
      have h := hw
      unfold waitsB at h
      rw [Bool.and_eq_true] at h
      exact of_decide_eq_true h.1
    obtain ⟨i, rfl⟩ : ∃ i : Nat, id = (i : Int) := ⟨id.toNat, by omega⟩
    obtain ⟨h1, h6, hi⟩ := waits_is hw
    refine (stop_ok (by rw [hC.has]; exact hw) (by omega) (by omega) hC.nM h).mono ?_
    rintro e w' ⟨rfl, h2⟩
    refine ⟨rfl, Sat.prClose ?_ h2⟩
    rw [Int.toNat_natCast]
    exact hC.stop h1 h6
  | false =>
    have he : stopE W id = (1, W) := by unfold stopE; rw [hw]; rfl
    rw [he]
    refine (stop_bad (by rw [hC.has]; exact hw) h).mono ?_
    rintro e w' ⟨rfl, h2⟩
    exact ⟨rfl, Sat.prClose hC h2⟩
theorem pdue_any {now N : Int} (ht : 0 ≤ now ∧ now ≤ 1073741824) (hm : mayB t = true) (hW : WOk W N) (hN : 0 ≤ N ∧ N ≤ 4611686018427387904) (hS : Sat w0 w (PRet r t dl W :: F)) :
    Calls Try.prog 16 #[.pointer (some ⟨r, 0, none⟩), .int .i64 now] w fun e w' => ∃ A1 c1 A2 c2, e = .returned (.tuple #[.slice A1 (agK W now 60).length c1, .slice A2 (ltK W now 60).length c2]) ∧
      Sat w0 w' (Row 3 1 A1 (agK W now 60).length c1 (nums (agK W now 60)) :: Row 3 1 A2 (ltK W now 60).length c2 (nums (ltK W now 60)) :: PRet r t dl (dueK t now W 60) :: F) := by
  obtain ⟨L, K, M, hC, h⟩ := hS.prOpen
  have q1 := hC.shortL
  have q2 := hC.shortK
  have hM : InE M N := fun m hm2 => by
    obtain ⟨n, e, hn, hf⟩ := (hC.inM m.1 m.2).1 hm2
    have hmem : atW W n ∈ W := by unfold atW; rw [← List.getElem_eq_getD (h := by rw [hC.len]; exact hn) zW]; exact List.getElem_mem _
    have := hW.tries _ hmem
    unfold fM at hf
    split at hf
    · injection hf with hf; omega
    · cases hf
  have e1 : dueN L now = (agK W now 60).length := by rw [hC.ag now, sortI_len, due_len]
  have e2 : dueN K now = (ltK W now 60).length := by rw [hC.lt now, sortI_len, due_len]
  refine (due_ok ht hm (by omega) (by omega) hC.nM hN hM h).mono ?_
  rintro e w' ⟨A1, c1, A2, c2, rfl, h2⟩
  have hC2 := hC.due ht hm
  rw [← hC.ag now, ← hC.lt now, e1, e2] at h2
  rw [e1, e2]
  rw [← hC.ag now, e1, e2] at hC2
  exact ⟨A1, c1, A2, c2, rfl, (Sat.prClose hC2 h2.r3).b3⟩
theorem pnew_ok {A : Option Addr} {c : Nat} (hT : NsAt w A t) (hm : mayB t = true) (hd : 1 ≤ dl ∧ dl ≤ 1073741824) (hS : Sat w0 w F) :
    Calls Try.prog 8 #[.slice A t.length c, .int .i64 dl] w fun e w' => ∃ r, e = .returned (.tuple #[.pointer (some ⟨r, 0, none⟩), .int .i64 0]) ∧ Sat w0 w' (PRet r t dl noneW :: F) := by
  refine (new_ok (c := c) hT hm hd hS).mono ?_
  rintro e w' ⟨r, rfl, h⟩
  exact ⟨r, rfl, Sat.prClose Cpl.start h⟩
end
/-! what stands of the waits -/
theorem WOk.start : WOk noneW 0 := by
  refine ⟨List.length_replicate, fun x hx => ?_, fun x hx => ?_⟩
  · have := List.eq_of_mem_replicate hx
    subst this
    exact ⟨Int.le_refl _, Int.le_refl _⟩
  · have := List.eq_of_mem_replicate hx
    subst this
    exact ⟨Int.le_refl _, by decide, Int.le_refl _, by decide⟩
theorem WOk.set {W : List Wt} {N : Int} (h : WOk W N) {i : Nat} {y : Wt} (h1 : 0 ≤ y.tries ∧ y.tries ≤ N) (h2 : 0 ≤ y.again ∧ y.again ≤ 1073741824 ∧ 0 ≤ y.late ∧ y.late ≤ 1073741824) : WOk (W.set i y) N := by
  refine ⟨by rw [List.length_set]; exact h.len, fun x hx => ?_, fun x hx => ?_⟩
  · rcases List.mem_or_eq_of_mem_set hx with hx | rfl
    · exact h.tries x hx
    · exact h1
  · rcases List.mem_or_eq_of_mem_set hx with hx | rfl
    · exact h.times x hx
    · exact h2
theorem WOk.up {W : List Wt} {N N' : Int} (h : WOk W N) (hn : N ≤ N') : WOk W N' := ⟨h.len, fun x hx => by have := h.tries x hx; omega, h.times⟩
theorem WOk.at_ {W : List Wt} {N : Int} (h : WOk W N) {i : Nat} (hi : i < 61) : atW W i ∈ W := by unfold atW; rw [← List.getElem_eq_getD (h := by rw [h.len]; exact hi) zW]; exact List.getElem_mem _
theorem WOk.begin {W : List Wt} {N : Int} (h : WOk W N) (hN : 0 ≤ N) {t : List Int} {dl id now : Int} (hm : mayB t = true) (hdl : 1 ≤ dl) : WOk (beginE t dl W id now).2 N := by
  unfold beginE
  split
  · rename_i hg
    have hd := delay_in hm 0
    have hz := delay_zero t
    have a := later_in hg.2.1 (d := t.getD 0 0) (by omega)
    have b := later_in hg.2.1 (d := dl) (by omega)
    exact h.set ⟨Int.le_refl _, hN⟩ ⟨a.1, a.2, b.1, b.2⟩
  · exact h
theorem WOk.moved {W : List Wt} {N : Int} (h : WOk W N) (hN : 0 ≤ N) {t : List Int} {id now : Int} (hm : mayB t = true) : WOk (movedE t W id now).2 N := by
  unfold movedE
  split
  · rename_i hg
    have hd := delay_in hm 0
    have hz := delay_zero t
    have a := later_in (of_decide_eq_true hg.2) (d := t.getD 0 0) (by omega)
    have hr : 1 ≤ id ∧ id ≤ 60 := by
      have h := hg.1
      unfold waitsB at h
      rw [Bool.and_eq_true] at h
      exact of_decide_eq_true h.1
    have b := h.times _ (h.at_ (i := id.toNat) (by omega))
    exact h.set ⟨Int.le_refl _, hN⟩ ⟨a.1, a.2, b.2.2.1, b.2.2.2⟩
  · exact h
theorem WOk.stop {W : List Wt} {N : Int} (h : WOk W N) (hN : 0 ≤ N) {id : Int} : WOk (stopE W id).2 N := by
  unfold stopE
  split
  · exact h.set ⟨Int.le_refl _, hN⟩ ⟨Int.le_refl _, by decide, Int.le_refl _, by decide⟩
  · exact h
theorem WOk.due {W : List Wt} {N : Int} (h : WOk W N) (hN : 0 ≤ N) {t : List Int} {now : Int} (ht : 0 ≤ now ∧ now ≤ 1073741824) (hm : mayB t = true) : ∀ k, k ≤ 60 → WOk (dueK t now W k) (N + 1)
  | 0, _ => h.up (by omega)
  | k + 1, hk => by
    have ih := WOk.due h hN ht hm k (by omega)
    have hy1 := h.tries _ (h.at_ (i := k + 1) (by omega))
    have hy2 := h.times _ (h.at_ (i := k + 1) (by omega))
    show WOk ((dueK t now W k).set (k + 1) (due1 t now (atW W (k + 1)))) (N + 1)
    obtain ⟨y, hy⟩ : ∃ y, atW W (k + 1) = y := ⟨_, rfl⟩
    rw [hy] at hy1 hy2 ⊢
    have hd := delay_in hm (y.tries + 1)
    have hl := later_in ht (d := delayV t (y.tries + 1)) (by omega)
    have h1 : (0 ≤ (agW t now y).tries ∧ (agW t now y).tries ≤ N + 1) ∧ 0 ≤ (agW t now y).again ∧ (agW t now y).again ≤ 1073741824 ∧ 0 ≤ (agW t now y).late ∧ (agW t now y).late ≤ 1073741824 := by
      unfold agW
      split
      · exact ⟨⟨by show 0 ≤ y.tries + 1; omega, by show y.tries + 1 ≤ _; omega⟩, hl.1, hl.2, hy2.2.2.1, hy2.2.2.2⟩
      · exact ⟨⟨hy1.1, by omega⟩, hy2⟩
    refine ih.set ?_ ?_
    · unfold due1
      split
      · exact h1.1
      · exact h1.1
    · unfold due1
      split
      · exact h1.2
      · exact h1.2
end Go.Proofs.Ytbgbpibfmdkndaa
