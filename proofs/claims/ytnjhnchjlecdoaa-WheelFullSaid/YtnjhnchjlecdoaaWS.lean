/- The law WheelFull: the plain law. -/
import Derived.Test.YtnjhnchjlecdoaaWQ
set_option linter.unusedVariables false
set_option linter.unusedSimpArgs false
set_option linter.unnecessarySimpa false
set_option maxRecDepth 100000
namespace Go.Proofs.Ytnjhnchjlecdoaa
open Go.RowKit Go.ChangeShapes Go.WideShapes Go.ChangeAt
/-- the ids ahead of the n-th -/
def InSet (f s n : Nat) (id : Int) : Prop := id = 900000 ∨ id = 900001 ∨ ∃ j : Nat, 2 ≤ j ∧ j < n ∧ id = ((f + j * s : Nat) : Int)
structure Fill (f s n : Nat) (L : List Tm) : Prop where
  fine : Fine L
  len : L.length = n
  ids_ : ∀ id, (∃ x ∈ L, x.1 = id) ↔ InSet f s n id
theorem stopB_iff (L : List Tm) (id : Int) : stopB L id = true ↔ ∃ x ∈ L, x.1 = id := by
  unfold stopB firstN
  rw [decide_eq_true_iff, List.findIdx_lt_length]
  constructor
  · rintro ⟨x, hx, h⟩
    exact ⟨x, hx, by unfold isId at h; simpa using h⟩
  · rintro ⟨x, hx, h⟩
    exact ⟨x, hx, by unfold isId; simpa using h⟩
theorem stop_mem {L : List Tm} {id : Int} {x : Tm} (h : x.1 ≠ id) : x ∈ stopL L id ↔ x ∈ L := by
  rw [stop_eraseP]
  exact List.mem_eraseP_of_neg (by unfold isId; simpa using h)
section
variable {f s n : Nat} {L : List Tm}
theorem fill_beg : Fill f s 2 begL := by
  refine ⟨beg_fine, rfl, fun id => ?_⟩
  unfold InSet begL
  constructor
  · rintro ⟨x, hx, rfl⟩
    simp only [List.mem_cons, List.not_mem_nil, or_false] at hx
    rcases hx with rfl | rfl
    · exact .inl rfl
    · exact .inr (.inl rfl)
  · rintro (rfl | rfl | ⟨j, h1, h2, _⟩)
    · exact ⟨(900000, 1073741824), by simp, rfl⟩
    · exact ⟨(900001, 1073741824), by simp, rfl⟩
    · omega
theorem fill_new (hf : f < 1000) (hs : 1 ≤ s) (hs2 : s ≤ 1000) (hn : n < 200) (hn2 : 2 ≤ n) : ¬ InSet f s n ((f + n * s : Nat) : Int) := by
  have hb : n * s ≤ 200 * 1000 := Nat.mul_le_mul (by omega) hs2
  rintro (h | h | ⟨j, h1, h2, h3⟩)
  · omega
  · omega
  · have : j * s < n * s := Nat.mul_lt_mul_of_pos_right h2 hs
    omega
theorem Fill.step (h : Fill f s n L) (hf : f < 1000) (hs : 1 ≤ s) (hs2 : s ≤ 1000) (hn : n < 200) (hn2 : 2 ≤ n) :
    setC L ((f + n * s : Nat) : Int) (n : Int) = 0 ∧ Fill f s (n + 1) (setL L ((f + n * s : Nat) : Int) (n : Int)) := by
  have hnew := fill_new hf hs hs2 hn hn2
  have hno : ∀ y ∈ L, y.1 ≠ ((f + n * s : Nat) : Int) := fun y hy e => hnew ((h.ids_ _).1 ⟨y, hy, e⟩)
  have hl := h.len
  have e1 : setL L ((f + n * s : Nat) : Int) (n : Int) = putL L (((f + n * s : Nat) : Int), (n : Int)) := by
    unfold setL
    rw [if_pos ⟨by omega, by omega, by omega⟩, if_neg (by rintro ⟨_, e⟩; omega), stop_none hno]
  refine ⟨?_, h.fine.set _ _, ?_, fun id => ?_⟩
  · unfold setC
    rw [if_pos ⟨by omega, by omega, by omega⟩, if_neg (by rintro ⟨_, e⟩; omega)]
  · rw [e1, (putL_perm _ _).length_eq, List.length_cons, hl]
  · rw [e1]
    constructor
    · rintro ⟨x, hx, rfl⟩
      rcases (put_mem _ _ _).1 hx with rfl | hx
      · exact .inr (.inr ⟨n, hn2, by omega, rfl⟩)
      · rcases (h.ids_ x.1).1 ⟨x, hx, rfl⟩ with h | h | ⟨j, h1, h2, h3⟩
        · exact .inl h
        · exact .inr (.inl h)
        · exact .inr (.inr ⟨j, h1, by omega, h3⟩)
    · intro hi
      have hold : InSet f s n id → ∃ x ∈ putL L (((f + n * s : Nat) : Int), (n : Int)), x.1 = id := fun h' => by
        obtain ⟨x, hx, e⟩ := (h.ids_ id).2 h'
        exact ⟨x, (put_mem _ _ _).2 (.inr hx), e⟩
      rcases hi with hi | hi | ⟨j, h1, h2, h3⟩
      · exact hold (.inl hi)
      · exact hold (.inr (.inl hi))
      · by_cases hj : j = n
        · subst hj
          exact ⟨_, (put_mem _ _ _).2 (.inl rfl), h3.symm⟩
        · exact hold (.inr (.inr ⟨j, h1, by omega, h3⟩))
theorem Fill.more (h : Fill f s 200 L) (id at_ : Int) : Fill f s 200 (setL L id at_) := by
  by_cases hv : 0 ≤ id ∧ 0 ≤ at_ ∧ at_ ≤ 1073741824
  · by_cases hb : stopB L id = true
    · have e1 : setL L id at_ = putL (stopL L id) (id, at_) := by
        unfold setL
        rw [if_pos hv, if_neg (by rintro ⟨e, _⟩; rw [hb] at e; cases e)]
      have hl := stop_len L id
      rw [if_pos hb, h.len] at hl
      refine ⟨h.fine.set _ _, by rw [e1, (putL_perm _ _).length_eq, List.length_cons, hl], fun id' => ?_⟩
      rw [← h.ids_ id', e1]
      constructor
      · rintro ⟨x, hx, rfl⟩
        rcases (put_mem _ _ _).1 hx with rfl | hx
        · exact (stopB_iff L id).1 hb
        · exact ⟨x, (List.eraseIdx_sublist _ _).subset hx, rfl⟩
      · rintro ⟨x, hx, rfl⟩
        by_cases he : x.1 = id
        · exact ⟨(id, at_), (put_mem _ _ _).2 (.inl rfl), he.symm⟩
        · exact ⟨x, (put_mem _ _ _).2 (.inr ((stop_mem he).2 hx)), rfl⟩
    · have : setL L id at_ = L := by
        unfold setL
        rw [if_pos hv, if_pos ⟨by simpa using hb, h.len⟩]
      rw [this]
      exact h
  · have : setL L id at_ = L := by unfold setL; rw [if_neg hv]
    rw [this]
    exact h
theorem Fill.bad (h : Fill f s 200 L) {id at_ : Int} (hv : ¬ (0 ≤ id ∧ 0 ≤ at_ ∧ at_ ≤ 1073741824)) : setC L id at_ = 1 := by
  unfold setC; rw [if_neg hv]
theorem Fill.yes (h : Fill f s 200 L) {id at_ : Int} (hv : 0 ≤ id ∧ 0 ≤ at_ ∧ at_ ≤ 1073741824) (hi : InSet f s 200 id) : setC L id at_ = 0 := by
  have hb := (stopB_iff L id).2 ((h.ids_ id).2 hi)
  unfold setC
  rw [if_pos hv, if_neg (by rintro ⟨e, _⟩; rw [hb] at e; cases e)]
theorem Fill.no (h : Fill f s 200 L) {id at_ : Int} (hv : 0 ≤ id ∧ 0 ≤ at_ ∧ at_ ≤ 1073741824) (hi : ¬ InSet f s 200 id) : setC L id at_ = 2 := by
  have hb : stopB L id = false := by
    cases hb : stopB L id
    · rfl
    · exact absurd ((h.ids_ id).1 ((stopB_iff L id).1 hb)) hi
  unfold setC
  rw [if_pos hv, if_pos ⟨hb, h.len⟩]
theorem in_range (hs : 1 ≤ s) {id : Int} (h1 : (f : Int) + 2 * s ≤ id) (h2 : id < (f : Int) + 200 * s) (h3 : (id - f).tmod s = 0) : InSet f s 200 id := by
  obtain ⟨m, hm⟩ : ∃ m : Nat, id - f = (m : Int) := ⟨(id - f).toNat, by omega⟩
  rw [hm, Int.tmod_eq_emod_of_nonneg (by omega), ← Int.natCast_emod] at h3
  have h3' : m % s = 0 := by omega
  obtain ⟨j, rfl⟩ := Nat.dvd_of_mod_eq_zero h3'
  refine .inr (.inr ⟨j, ?_, ?_, ?_⟩)
  · have : 2 * s ≤ s * j := by omega
    rw [Nat.mul_comm s j] at this
    exact Nat.le_of_mul_le_mul_right this hs
  · have : s * j < 200 * s := by omega
    rw [Nat.mul_comm s j] at this
    exact Nat.lt_of_mul_lt_mul_right this
  · rw [Nat.mul_comm j s]
    omega
theorem out_range (hf : f < 1000) (hs : 1 ≤ s) (hs2 : s ≤ 1000) {id : Int} (h0 : id ≠ 900000) (h1 : id ≠ 900001) (h : ¬ ((f : Int) + 2 * s ≤ id ∧ id < (f : Int) + 200 * s ∧ (id - f).tmod s = 0)) : ¬ InSet f s 200 id := by
  rintro (e | e | ⟨j, a, b, e⟩)
  · exact h0 e
  · exact h1 e
  · refine h ⟨?_, ?_, ?_⟩
    · have : 2 * s ≤ j * s := Nat.mul_le_mul_right _ a
      omega
    · have : j * s < 200 * s := Nat.mul_lt_mul_of_pos_right b hs
      omega
    · have : id - f = ((j * s : Nat) : Int) := by omega
      rw [this, Int.natCast_mul]
      exact Int.mul_tmod_left _ _
end
end Go.Proofs.Ytnjhnchjlecdoaa
