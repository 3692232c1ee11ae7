/- has; one wait beside the others (plain). -/
import Derived.Test.YtbgbpibfmdkndaaRT
set_option linter.unusedVariables false
set_option linter.unusedSimpArgs false
set_option linter.unnecessarySimpa false
set_option maxRecDepth 100000
namespace Go.Proofs.Ytbgbpibfmdkndaa
open Go.RowKit Go.ChangeShapes Go.WideShapes Go.ChangeAt
def hasI (L : List Int) (x : Int) : Bool := decide (x ∈ L)
def HsR (w : World) (n : Nat) (L : List Int) (x : Int) (i : Value) (wr : World) : Prop := ∃ k : Nat, k ≤ n ∧ i = .int .i64 k ∧ (∀ j, j < k → L.getD j 0 ≠ x) ∧ wr = w
set_option maxHeartbeats 1600000 in
theorem has_any {w : World} {A : Option Addr} {c : Nat} {L : List Int} {x : Int} (h : NsAt w A L) (hl : L.length ≤ 1000000) :
    Calls Try.prog 17 #[.slice A L.length c, .int .i64 x] w fun en w' => en = .returned (.bool (hasI L x)) ∧ w' = w := by
  obtain ⟨n, hn⟩ : ∃ n, L.length = n := ⟨_, rfl⟩
  have HN := Lib.hid hn
  have H := Lib.hid h
  rw [hn] at hl ⊢
  clear hn h
  go_enter Try.func17, Try.ntmps17
  go_wp2_with fail
  go_loopw [5] (HsR w n L x) (fun i _ => n - (intOf i).toNat)
  case atStart => exact ⟨0, Nat.zero_le _, rfl, fun j hj => absurd hj (Nat.not_lt_zero _), rfl⟩
  case round =>
    obtain ⟨k, hk, rfl, ht, rfl⟩ := hrel
    have HT := Lib.hid ht
    clear ht
    by_cases hlt : k < n
    · obtain ⟨b1, o1, rfl, c1⟩ := H.out.resolve_left (by rintro rfl; have := HN.out; simp at this; omega)
      have e1 := c1 k (by rw [HN.out]; exact hlt)
      obtain ⟨y, hy⟩ : ∃ y, L.getD k 0 = y := ⟨_, rfl⟩
      rw [hy] at e1
      have HY := Lib.hid hy
      clear c1 hy
      by_cases hxy : y = x
      · have t1 : (y == x) = true := by simp [hxy]
        have HE : Hid (hasI L x = true) := decide_eq_true (by rw [← hxy, ← HY.out, ← List.getElem_eq_getD (h := by rw [HN.out]; exact hlt)]; exact List.getElem_mem _)
        clear hxy
        go_wp2_with fail
        go_ret
        exact ⟨by rw [HE.out]; rfl, rfl⟩
      · have t1 : (y == x) = false := by simp [hxy]
        have HT2 : Hid (∀ j, j < k + 1 → L.getD j 0 ≠ x) := fun j hj => by
          by_cases hjk : j < k
          · exact HT.out j hjk
          · obtain rfl : j = k := by omega
            rw [HY.out]; exact hxy
        clear hxy
        go_wp2_with fail
        go_roundw
        case rel => exact ⟨k + 1, by omega, by go_num, HT2.out, rfl⟩
        case measure => simp [intOf]; omega
    · have HE : Hid (hasI L x = false) := decide_eq_false fun hm => by
        obtain ⟨j, hj, e⟩ := List.getElem_of_mem hm
        have := HN.out
        refine HT.out j (by omega) ?_
        rw [← List.getElem_eq_getD (h := hj)]; exact e
      go_wp2_with fail
      go_ret
      exact ⟨by rw [HE.out]; rfl, rfl⟩
/-! plain: one wait beside the others -/
structure Alone (i : Nat) (W V : List Wt) : Prop where
  lw : W.length = 61
  lv : V.length = 61
  at_ : atW V i = atW W i
  off : ∀ j, j ≠ i → (atW V j).is = false
variable {W V : List Wt} {i : Nat} {t : List Int} {dl : Int}
theorem Alone.start : Alone i noneW noneW := by
  refine ⟨List.length_replicate, List.length_replicate, rfl, fun j _ => ?_⟩
  by_cases hj : j < 61
  · unfold atW noneW
    rw [← List.getElem_eq_getD (h := by rw [List.length_replicate]; exact hj) zW, List.getElem_replicate]
    rfl
  · unfold atW noneW
    rw [List.getD, List.getElem?_eq_none (by rw [List.length_replicate]; omega)]
    rfl
theorem Alone.both (h : Alone i W V) (hi : i < 61) (y : Wt) : Alone i (W.set i y) (V.set i y) := by
  refine ⟨by rw [List.length_set]; exact h.lw, by rw [List.length_set]; exact h.lv, ?_, fun j hj => ?_⟩
  · rw [atW_set (by rw [h.lv]; exact hi), atW_set (by rw [h.lw]; exact hi), if_pos rfl, if_pos rfl]
  · rw [atW_set (by rw [h.lv]; exact hi), if_neg hj]; exact h.off j hj
theorem Alone.other (h : Alone i W V) {m : Nat} (hm : m < 61) (hne : m ≠ i) (y : Wt) : Alone i (W.set m y) V := by
  refine ⟨by rw [List.length_set]; exact h.lw, h.lv, ?_, h.off⟩
  rw [atW_set (by rw [h.lw]; exact hm), if_neg (Ne.symm hne)]; exact h.at_
theorem Alone.begin (h : Alone i W V) (h1 : 1 ≤ i) (h6 : i ≤ 60) (now : Int) : (beginE t dl V (i : Int) now).1 = (beginE t dl W (i : Int) now).1 ∧ Alone i (beginE t dl W (i : Int) now).2 (beginE t dl V (i : Int) now).2 := by
  unfold beginE
  rw [Int.toNat_natCast, h.at_]
  split
  · exact ⟨rfl, h.both (by omega) _⟩
  · exact ⟨rfl, h⟩
theorem Alone.begin2 (h : Alone i W V) {k : Int} (hk : k ≠ (i : Int)) (now : Int) : Alone i (beginE t dl W k now).2 V := by
  unfold beginE
  split
  · rename_i hg; exact h.other (by omega) (by omega) _
  · exact h
theorem Alone.waits (h : Alone i W V) : waitsB V (i : Int) = waitsB W (i : Int) := by unfold waitsB; rw [Int.toNat_natCast, h.at_]
theorem waits_in {k : Int} (h : waitsB W k = true) : 1 ≤ k ∧ k ≤ 60 := by
  unfold waitsB at h
  rw [Bool.and_eq_true] at h
  exact of_decide_eq_true h.1
theorem Alone.moved (h : Alone i W V) (h1 : 1 ≤ i) (h6 : i ≤ 60) (now : Int) : (movedE t V (i : Int) now).1 = (movedE t W (i : Int) now).1 ∧ Alone i (movedE t W (i : Int) now).2 (movedE t V (i : Int) now).2 := by
  unfold movedE
  rw [h.waits, Int.toNat_natCast, h.at_]
  split
  · exact ⟨rfl, h.both (by omega) _⟩
  · exact ⟨rfl, h⟩
theorem Alone.moved2 (h : Alone i W V) {k : Int} (hk : k ≠ (i : Int)) (now : Int) : Alone i (movedE t W k now).2 V := by
  unfold movedE
  split
  · rename_i hg
    have := waits_in hg.1
    exact h.other (by omega) (by omega) _
  · exact h
theorem Alone.stop (h : Alone i W V) (h1 : 1 ≤ i) (h6 : i ≤ 60) : (stopE V (i : Int)).1 = (stopE W (i : Int)).1 ∧ Alone i (stopE W (i : Int)).2 (stopE V (i : Int)).2 := by
  unfold stopE
  rw [h.waits, Int.toNat_natCast]
  split
  · exact ⟨rfl, h.both (by omega) _⟩
  · exact ⟨rfl, h⟩
theorem Alone.stop2 (h : Alone i W V) {k : Int} (hk : k ≠ (i : Int)) : Alone i (stopE W k).2 V := by
  unfold stopE
  split
  · rename_i hg
    have := waits_in hg
    exact h.other (by omega) (by omega) _
  · exact h
theorem due1_is (now : Int) (y : Wt) : (due1 t now y).is = y.is := by
  unfold due1 agW
  split <;> split <;> rfl
theorem atW_out (hl : V.length = 61) {j : Nat} (hj : ¬ j < 61) : (atW V j).is = false := by
  unfold atW
  rw [List.getD, List.getElem?_eq_none (by omega)]
  rfl
theorem Alone.due (h : Alone i W V) (h1 : 1 ≤ i) (h6 : i ≤ 60) (now : Int) : Alone i (dueT t now W) (dueT t now V) := by
  unfold dueT
  split
  · refine ⟨by rw [dueK_len]; exact h.lw, by rw [dueK_len]; exact h.lv, ?_, fun j hj => ?_⟩
    · rw [dueK_all h.lv 60 (Nat.le_refl _) i h1 h6, dueK_all h.lw 60 (Nat.le_refl _) i h1 h6, h.at_]
    · by_cases hj6 : j < 61
      · by_cases hj0 : j = 0
        · subst hj0
          rw [dueK_zero h.lv 60 (Nat.le_refl _)]
          exact h.off 0 hj
        · rw [dueK_all h.lv 60 (Nat.le_refl _) j (by omega) (by omega), due1_is]
          exact h.off j hj
      · exact atW_out (by rw [dueK_len]; exact h.lv) hj6
  · exact h
theorem one_of {L : List Int} {x : Int} (hu : L.Pairwise (· < ·)) (h : ∀ y ∈ L, y = x) : L.length ≤ 1 := by
  match L, hu, h with
  | [], _, _ => simp
  | [a], _, _ => simp
  | a :: b :: l, hu, h =>
    have e1 := h a (by simp)
    have e2 := h b (by simp)
    have := (List.pairwise_cons.1 hu).1 b (by simp)
    omega
theorem Alone.ag (h : Alone i W V) (h1 : 1 ≤ i) (h6 : i ≤ 60) (now : Int) : hasI (agT V now) (i : Int) = hasI (agT W now) (i : Int) ∧ (agT V now).length ≤ 1 := by
  unfold agT
  split
  · refine ⟨?_, ?_⟩
    · unfold hasI
      rw [decide_eq_decide, agK_mem, agK_mem]
      constructor
      · rintro ⟨n, e, n1, n6, ha⟩
        obtain rfl : i = n := by omega
        exact ⟨i, rfl, n1, n6, by rw [← h.at_]; exact ha⟩
      · rintro ⟨n, e, n1, n6, ha⟩
        obtain rfl : i = n := by omega
        exact ⟨i, rfl, n1, n6, by rw [h.at_]; exact ha⟩
    · refine one_of (x := (i : Int)) (agK_up 60) fun y hy => ?_
      obtain ⟨n, rfl, n1, n6, ha⟩ := agK_mem.1 hy
      by_cases hn : n = i
      · rw [hn]
      · have := h.off n hn
        unfold isAg at ha
        rw [this] at ha
        simp at ha
  · exact ⟨rfl, by simp⟩
theorem Alone.lt (h : Alone i W V) (h1 : 1 ≤ i) (h6 : i ≤ 60) (now : Int) : hasI (ltT V now) (i : Int) = hasI (ltT W now) (i : Int) ∧ (ltT V now).length ≤ 1 := by
  unfold ltT
  split
  · refine ⟨?_, ?_⟩
    · unfold hasI
      rw [decide_eq_decide, ltK_mem, ltK_mem]
      constructor
      · rintro ⟨n, e, n1, n6, ha⟩
        obtain rfl : i = n := by omega
        exact ⟨i, rfl, n1, n6, by rw [← h.at_]; exact ha⟩
      · rintro ⟨n, e, n1, n6, ha⟩
        obtain rfl : i = n := by omega
        exact ⟨i, rfl, n1, n6, by rw [h.at_]; exact ha⟩
    · refine one_of (x := (i : Int)) (ltK_up 60) fun y hy => ?_
      obtain ⟨n, rfl, n1, n6, ha⟩ := ltK_mem.1 hy
      by_cases hn : n = i
      · rw [hn]
      · have := h.off n hn
        unfold isLt at ha
        rw [this] at ha
        simp at ha
  · exact ⟨rfl, by simp⟩
end Go.Proofs.Ytbgbpibfmdkndaa
