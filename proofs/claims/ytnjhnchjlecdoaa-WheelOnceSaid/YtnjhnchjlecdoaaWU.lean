/- The law WheelOnce: the plain law. -/
import Derived.Test.YtnjhnchjlecdoaaWS
set_option linter.unusedVariables false
set_option linter.unusedSimpArgs false
set_option linter.unnecessarySimpa false
set_option maxRecDepth 100000
namespace Go.Proofs.Ytnjhnchjlecdoaa
open Go.RowKit Go.ChangeShapes Go.WideShapes Go.ChangeAt
/-- the time of an id; -1: none -/
def timeOf (T : List Int) (j : Nat) : Int := T.getD j (-1)
theorem time_set (T : List Int) (i : Nat) (v : Int) (hi : i < T.length) (j : Nat) : timeOf (T.set i v) j = if i = j then v else timeOf T j := by
  unfold timeOf
  rw [List.getD_eq_getElem?_getD, List.getD_eq_getElem?_getD, List.getElem?_set]
  by_cases h : i = j
  · rw [if_pos h, if_pos h, if_pos (by omega)]
    rfl
  · rw [if_neg h, if_neg h]
/-- the array tells the wheel's timers -/
structure Once (L : List Tm) (T : List Int) : Prop where
  small : Small L
  srt : Srt L
  len : T.length = 20
  wf : ∀ j, -1 ≤ timeOf T j ∧ timeOf T j < 1000
  ones : ∀ j : Nat, j < 20 → ∀ t : Int, ((j : Int), t) ∈ L ↔ timeOf T j = t ∧ 0 ≤ t
  others : ∀ x ∈ L, (∃ j : Nat, j < 20 ∧ x.1 = j) ∨ x.2 = 1073741824
  ends : ((900000, 1073741824) : Tm) ∈ L
def noneT : List Int := List.replicate 20 (-1)
theorem once_beg : Once begL noneT := by
  have ht : ∀ j, timeOf noneT j = -1 := by
    intro j
    unfold timeOf noneT
    rw [List.getD_eq_getElem?_getD, List.getElem?_replicate]
    split <;> rfl
  refine ⟨beg_small, by decide, by decide, fun j => by rw [ht]; omega, fun j hj t => ?_, ?_, by unfold begL; simp⟩
  · rw [ht]
    unfold begL
    constructor
    · intro h
      simp only [List.mem_cons, List.not_mem_nil, or_false, Prod.mk.injEq] at h
      omega
    · rintro ⟨h1, h2⟩
      omega
  · intro x hx
    unfold begL at hx
    simp only [List.mem_cons, List.not_mem_nil, or_false] at hx
    rcases hx with rfl | rfl <;> exact .inr rfl
section
variable {L : List Tm} {T : List Int}
theorem Once.id_iff (h : Once L T) {j : Nat} (hj : j < 20) : (∃ x ∈ L, x.1 = (j : Int)) ↔ 0 ≤ timeOf T j := by
  constructor
  · rintro ⟨⟨a, b⟩, hx, rfl⟩
    obtain ⟨e1, e2⟩ := (h.ones j hj b).1 hx
    omega
  · intro h0
    exact ⟨_, (h.ones j hj _).2 ⟨rfl, h0⟩, rfl⟩
theorem Small.sub {K : List Tm} (h : Small L) (hs : K.Sublist L) : Small K := ⟨h.fine.sub hs, fun x hx => h.low x (hs.subset hx)⟩
theorem time_wf (h : ∀ j, -1 ≤ timeOf T j ∧ timeOf T j < 1000) (hl : T.length = 20) {i : Nat} (hi : i < 20) {v : Int} (hv : -1 ≤ v ∧ v < 1000) : ∀ j, -1 ≤ timeOf (T.set i v) j ∧ timeOf (T.set i v) j < 1000 := by
  intro j
  rw [time_set T i v (by omega)]
  split
  · exact hv
  · exact h j
theorem Once.stop (h : Once L T) {j : Nat} (hj : j < 20) : stopB L j = decide (0 ≤ timeOf T j) ∧ Once (stopL L j) (T.set j (-1)) := by
  have hl := h.len
  have hg : ∀ y ∈ stopL L (j : Int), y.1 ≠ (j : Int) := h.small.fine.gone j
  have hsub : (stopL L (j : Int)).Sublist L := List.eraseIdx_sublist _ _
  refine ⟨?_, h.small.sub hsub, List.Pairwise.sublist hsub h.srt, by rw [List.length_set]; exact hl, time_wf h.wf hl hj (by omega), ?_, fun x hx => h.others x (hsub.subset hx), ?_⟩
  · rw [Bool.eq_iff_iff, stopB_iff, decide_eq_true_iff]
    exact h.id_iff hj
  · intro i hi t
    rw [time_set T j (-1) (by omega)]
    by_cases e : j = i
    · subst e
      rw [if_pos rfl]
      constructor
      · intro hm
        exact absurd rfl (hg _ hm)
      · rintro ⟨e1, e2⟩
        omega
    · rw [if_neg e, stop_mem (by simp only; omega)]
      exact h.ones i hi t
  · rw [stop_mem (by simp only; omega)]
    exact h.ends
theorem Once.put (h : Once L T) {j t : Nat} (hj : j < 20) (ht : t < 1000) : setC L (j : Int) (t : Int) = 0 ∧ Once (setL L (j : Int) (t : Int)) (T.set j (t : Int)) := by
  have hl := h.len
  obtain ⟨_, hS⟩ := h.stop hj
  have hg : ∀ y ∈ stopL L (j : Int), y.1 ≠ (j : Int) := h.small.fine.gone j
  have hsm := h.small.set j t (by omega) ht
  rw [h.small.putL_eq j t ht] at hsm ⊢
  refine ⟨h.small.code j t ht, hsm, put_sorted _ _ hS.srt (by intro y hy; exact hg y hy), by rw [List.length_set]; exact hl, time_wf h.wf hl hj (by omega), ?_, ?_, ?_⟩
  · intro i hi u
    rw [put_mem, time_set T j t (by omega)]
    by_cases e : j = i
    · subst e
      rw [if_pos rfl]
      constructor
      · rintro (hm | hm)
        · injection hm with _ e2
          omega
        · exact absurd rfl (hg _ hm)
      · rintro ⟨e1, e2⟩
        left
        rw [e1]
    · rw [if_neg e, stop_mem (by simp only; omega)]
      constructor
      · rintro (hm | hm)
        · injection hm with e1 _
          omega
        · exact (h.ones i hi u).1 hm
      · intro hm
        exact .inr ((h.ones i hi u).2 hm)
  · intro x hx
    rcases (put_mem _ _ _).1 hx with rfl | hx
    · exact .inl ⟨j, hj, rfl⟩
    · exact hS.others x hx
  · rw [put_mem]
    exact .inr hS.ends
theorem Once.pop {x : Tm} (h : Once (x :: L) T) (hx : x.2 < 1000) : ∃ j : Nat, j < 20 ∧ x.1 = (j : Int) ∧ timeOf T j = x.2 ∧ 0 ≤ x.2 ∧ Once L (T.set j (-1)) := by
  have hl := h.len
  rcases h.others x List.mem_cons_self with ⟨j, hj, e⟩ | e
  · obtain ⟨a, b⟩ := x
    simp only at e hx
    subst e
    obtain ⟨e1, e2⟩ := (h.ones j hj b).1 List.mem_cons_self
    have hnd := h.small.fine.nodup
    rw [List.map_cons, List.nodup_cons] at hnd
    have hno : ∀ u : Int, ((j : Int), u) ∉ L := fun u hm => hnd.1 (List.mem_map.2 ⟨_, hm, rfl⟩)
    have hends : ((900000, 1073741824) : Tm) ∈ L := by
      rcases List.mem_cons.1 h.ends with e | hm
      · injection e with e3 _
        omega
      · exact hm
    refine ⟨j, hj, rfl, e1, e2, h.small.sub (List.sublist_cons_self _ _), (List.pairwise_cons.1 h.srt).2, by rw [List.length_set]; exact hl, time_wf h.wf hl hj (by omega), ?_, fun x hx => h.others x (List.mem_cons_of_mem _ hx), hends⟩
    intro i hi t
    rw [time_set T j (-1) (by omega)]
    by_cases e : j = i
    · subst e
      rw [if_pos rfl]
      constructor
      · intro hm
        exact absurd hm (hno t)
      · rintro ⟨e3, e4⟩
        omega
    · rw [if_neg e, ← h.ones i hi t, List.mem_cons]
      constructor
      · exact .inr
      · rintro (hm | hm)
        · injection hm with e3 _
          omega
        · exact hm
  · omega
theorem due_early (L : List Tm) (now : Int) (k : Nat) (hk : k < dueN L now) (hl : k < L.length) : L[k].2 ≤ now := by
  unfold dueN firstN at hk
  have := List.not_of_lt_findIdx hk
  unfold isLate at this
  simpa using this
theorem due_late {now : Int} (hs : Srt L) : ∀ x ∈ L.drop (dueN L now), now < x.2 := by
  unfold dueN firstN
  induction L with
  | nil => simp
  | cons y l ih =>
    rw [List.findIdx_cons]
    have hs' := List.pairwise_cons.1 hs
    by_cases hy : isLate now y = true
    · rw [hy]
      intro x hx
      have hx : x ∈ y :: l := hx
      unfold isLate at hy
      have hy := of_decide_eq_true hy
      rcases List.mem_cons.1 hx with rfl | hx
      · exact hy
      · have := (bef_iff _ _).1 (hs'.1 x hx)
        omega
    · have hy' : isLate now y = false := by simpa using hy
      rw [hy']
      exact ih hs'.2
theorem Once.next (h : Once L T) {now : Int} (hl : ∀ x ∈ L, now < x.2) : nextB L = true ∧ now < nextN L := by
  cases L with
  | nil => exact absurd h.ends (by simp)
  | cons x l => exact ⟨rfl, hl x List.mem_cons_self⟩
theorem Once.over (h : Once L T) {now : Int} (hl : ∀ x ∈ L, now < x.2) {j : Nat} (hj : j < 20) (h0 : 0 ≤ timeOf T j) : now < timeOf T j := hl _ ((h.ones j hj _).2 ⟨rfl, h0⟩)
end
/-- within Due's answer: the first k ids are marked -/
structure Mid (L : List Tm) (now : Int) (k : Nat) (T : List Int) (last : Int) : Prop where
  once : Once (L.drop k) T
  low : -1 ≤ last ∧ last < 1000
  late : ∀ x ∈ L.drop k, last ≤ x.2
theorem mid_beg {L : List Tm} {T : List Int} (h : Once L T) (now : Int) : Mid L now 0 T (-1) := by
  refine ⟨h, by omega, fun x hx => ?_⟩
  rcases h.others x hx with ⟨j, hj, e⟩ | e
  · obtain ⟨a, b⟩ := x
    simp only at e
    subst e
    have := ((h.ones j hj b).1 hx).2
    simp only
    omega
  · omega
theorem Mid.step {L : List Tm} {T : List Int} {now last : Int} {k : Nat} (h : Mid L now k T last) (hn : now < 1000) (hk : k < dueN L now) (hl : k < L.length) :
    ∃ j : Nat, j < 20 ∧ L[k].1 = (j : Int) ∧ 0 ≤ timeOf T j ∧ timeOf T j ≤ now ∧ last ≤ timeOf T j ∧ Mid L now (k + 1) (T.set j (-1)) (timeOf T j) := by
  have he := due_early L now k hk hl
  have hd := h.once
  rw [List.drop_eq_getElem_cons hl] at hd
  obtain ⟨j, hj, e1, e2, e3, h2⟩ := hd.pop (by omega)
  have hla := h.late
  rw [List.drop_eq_getElem_cons hl] at hla
  refine ⟨j, hj, e1, by omega, by omega, ?_, h2, by omega, fun x hx => ?_⟩
  · rw [e2]
    exact hla _ List.mem_cons_self
  · have hb := (List.pairwise_cons.1 hd.srt).1 x hx
    rw [bef_iff] at hb
    rw [e2]
    omega
end Go.Proofs.Ytnjhnchjlecdoaa
