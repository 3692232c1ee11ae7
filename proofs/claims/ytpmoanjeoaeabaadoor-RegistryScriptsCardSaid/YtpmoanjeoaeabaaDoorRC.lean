/- Off the shelf: lists held against each other; lists cloned. -/
import Derived.Test.YtpmoanjeoaeabaaDoorRA
set_option linter.unusedVariables false
set_option linter.unusedSimpArgs false
set_option linter.unnecessarySimpa false
set_option maxRecDepth 100000
namespace Go.Proofs.YtpmoanjeoaeabaaDoor
open Go.RowKit Go.ChangeShapes Go.WideShapes Go.ChangeAt
section
variable {w : World} {A B : Option Addr} {c e : Nat}
theorem ones_getD {α : Type} {f : α → Value} {z : α} {l : List α} {A : Option Addr} {c : Nat} (h : Elems w (.slice A l.length c) 1 (l.map fun x => [f x])) (h0 : 0 < l.length) :
    ∃ b o, A = some ⟨b, o, none⟩ ∧ ∀ j, j < l.length → w.cell? ⟨b, o + j, none⟩ = some (f (l.getD j z)) := by
  obtain ⟨b, o, e, hc⟩ := ones_cells (f := f) h h0
  exact ⟨b, o, e, fun j hj => by rw [hc j hj, ← List.getElem_eq_getD (h := hj)]⟩
theorem eqS_any (l m : List ByteArray) (h1 : Elems w (.slice A l.length c) 1 (l.map strC)) (h2 : Elems w (.slice B m.length e) 1 (m.map strC)) :
    Calls Tryd.prog 83 #[.slice A l.length c, .slice B m.length e] w (Quietly w (.bool (decide (l = m)))) := by
  by_cases hl : l.length = m.length
  · by_cases h0 : l.length = 0
    · obtain rfl := List.eq_nil_of_length_eq_zero h0
      obtain rfl := List.eq_nil_of_length_eq_zero (hl.symm.trans h0)
      refine (Tryd.slices_Equal_string_empty A B c 0 e w (by decide)).mono ?_
      rintro e w' ⟨rfl, rfl⟩
      exact ⟨rfl, Below.refl _ _⟩
    · obtain ⟨b1, o1, rfl, hc1⟩ := ones_getD (f := fun n => .string n) (z := ByteArray.empty) h1 (by omega)
      obtain ⟨b2, o2, rfl, hc2⟩ := ones_getD (f := fun n => .string n) (z := ByteArray.empty) h2 (by omega)
      have hm := h1.at_.2.1
      have hm2 := h2.at_.2.1
      rw [List.length_map] at hm hm2
      unfold maxLen at hm hm2
      refine (Tryd.slices_Equal_string b1 o1 l.length c b2 o2 m.length e l m w (Nat.le_refl _) (Nat.le_refl _) (by omega) (by omega) hc1 hc2).mono ?_
      rintro e w' ⟨rfl, q, rfl⟩
      rw [List.take_length, List.take_length]
      exact ⟨rfl, below_drewN (Below.refl _ _) q⟩
  · refine (Tryd.slices_Equal_string_lens A B l.length c m.length e w hl).mono ?_
    rintro e w' ⟨rfl, rfl⟩
    rw [decide_eq_false (by rintro rfl; exact hl rfl)]
    exact ⟨rfl, Below.refl _ _⟩
theorem eqI_any (l m : List Int) (h1 : Elems w (.slice A l.length c) 1 (l.map intC)) (h2 : Elems w (.slice B m.length e) 1 (m.map intC)) :
    Calls Tryd.prog 84 #[.slice A l.length c, .slice B m.length e] w (Quietly w (.bool (decide (l = m)))) := by
  by_cases hl : l.length = m.length
  · by_cases h0 : l.length = 0
    · obtain rfl := List.eq_nil_of_length_eq_zero h0
      obtain rfl := List.eq_nil_of_length_eq_zero (hl.symm.trans h0)
      refine (Tryd.slices_Equal_int_empty A B c 0 e w (by decide)).mono ?_
      rintro e w' ⟨rfl, rfl⟩
      exact ⟨rfl, Below.refl _ _⟩
    · obtain ⟨b1, o1, rfl, hc1⟩ := ones_getD (f := fun n => .int .i64 n) (z := 0) h1 (by omega)
      obtain ⟨b2, o2, rfl, hc2⟩ := ones_getD (f := fun n => .int .i64 n) (z := 0) h2 (by omega)
      have hm := h1.at_.2.1
      have hm2 := h2.at_.2.1
      rw [List.length_map] at hm hm2
      unfold maxLen at hm hm2
      refine (Tryd.slices_Equal_int b1 o1 l.length c b2 o2 m.length e l m w (Nat.le_refl _) (Nat.le_refl _) (by omega) (by omega) hc1 hc2).mono ?_
      rintro e w' ⟨rfl, q, rfl⟩
      rw [List.take_length, List.take_length]
      refine ⟨?_, below_drewN (Below.refl _ _) q⟩
      by_cases hx : l = m
      · rw [decide_eq_true hx, beq_iff_eq.2 hx]
      · rw [decide_eq_false hx, beq_eq_false_iff_ne.2 hx]
  · refine (Tryd.slices_Equal_int_lens A B l.length c m.length e w hl).mono ?_
    rintro e w' ⟨rfl, rfl⟩
    rw [decide_eq_false (by rintro rfl; exact hl rfl)]
    exact ⟨rfl, Below.refl _ _⟩
theorem own_form {w w' : World} {E sz n : Nat} {v : Value} {xs : List Value} (h : w'.ownsRow w.heap.size E sz v n xs) : ∃ A c, v = .slice A n c := by
  rcases h.2 with ⟨rfl, rfl⟩ | ⟨g, cap, cur, rfl, _⟩
  · exact ⟨none, 0, rfl⟩
  · exact ⟨_, _, rfl⟩
theorem cloneS_any {w0 : World} {F : List HP} (l : List ByteArray) (h : Elems w (.slice A l.length c) 1 (l.map strC)) (hb : l.length * 16 ≤ 140737488355328) (hS : Sat w0 w F) :
    Calls Tryd.prog 86 #[.slice A l.length c] w fun e w' => ∃ (B : Option Addr) (d : Nat), e = .returned (.slice B l.length d) ∧ Sat w0 w' (Row 9 1 B l.length d (strV l) :: F) := by
  cases A with
  | none =>
    have h0 : l = [] := by
      obtain ⟨A', c', e, _, _, _, hx⟩ := h
      injection e with e1 e2 e3
      rcases hx with hx | ⟨b, o, e4, _⟩
      · exact List.map_eq_nil_iff.1 hx
      · rw [e4] at e1; cases e1
    subst h0
    refine (Tryd.slices_Clone_string_nil 0 c w).mono ?_
    rintro e w' ⟨rfl, rfl⟩
    exact ⟨none, 0, rfl, hS.nilRow 9 1⟩
  | some a =>
    by_cases h0 : l.length = 0
    · obtain rfl := List.eq_nil_of_length_eq_zero h0
      refine (Tryd.slices_Clone_string_zero a c w).mono ?_
      rintro e w' ⟨v, rfl, ho, _, hbw⟩
      obtain ⟨B, d, rfl⟩ := own_form ho
      exact ⟨B, d, rfl, hS.rowNew hbw ho⟩
    · obtain ⟨b1, o1, hab, hc1⟩ := ones_getD (f := fun n => .string n) (z := ByteArray.empty) h (by omega)
      rw [hab]
      refine (Tryd.slices_Clone_string b1 o1 l.length c l w (Nat.le_refl _) hb hc1).mono ?_
      rintro e w' ⟨v, rfl, ho, _, hbw⟩
      rw [List.take_length] at ho
      obtain ⟨B, d, rfl⟩ := own_form ho
      exact ⟨B, d, rfl, hS.rowNew hbw ho⟩
theorem cloneI_any {w0 : World} {F : List HP} (l : List Int) (h : Elems w (.slice A l.length c) 1 (l.map intC)) (hb : l.length * 8 ≤ 140737488355328) (hS : Sat w0 w F) :
    Calls Tryd.prog 87 #[.slice A l.length c] w fun e w' => ∃ (B : Option Addr) (d : Nat), e = .returned (.slice B l.length d) ∧ Sat w0 w' (Row 3 1 B l.length d (intV l) :: F) := by
  cases A with
  | none =>
    have h0 : l = [] := by
      obtain ⟨A', c', e, _, _, _, hx⟩ := h
      injection e with e1 e2 e3
      rcases hx with hx | ⟨b, o, e4, _⟩
      · exact List.map_eq_nil_iff.1 hx
      · rw [e4] at e1; cases e1
    subst h0
    refine (Tryd.slices_Clone_int_nil 0 c w).mono ?_
    rintro e w' ⟨rfl, rfl⟩
    exact ⟨none, 0, rfl, hS.nilRow 3 1⟩
  | some a =>
    by_cases h0 : l.length = 0
    · obtain rfl := List.eq_nil_of_length_eq_zero h0
      refine (Tryd.slices_Clone_int_zero a c w).mono ?_
      rintro e w' ⟨v, rfl, ho, _, hbw⟩
      obtain ⟨B, d, rfl⟩ := own_form ho
      exact ⟨B, d, rfl, hS.rowNew hbw ho⟩
    · obtain ⟨b1, o1, hab, hc1⟩ := ones_getD (f := fun n => .int .i64 n) (z := 0) h (by omega)
      rw [hab]
      refine (Tryd.slices_Clone_int b1 o1 l.length c l w (Nat.le_refl _) hb hc1).mono ?_
      rintro e w' ⟨v, rfl, ho, _, hbw⟩
      rw [List.take_length] at ho
      obtain ⟨B, d, rfl⟩ := own_form ho
      exact ⟨B, d, rfl, hS.rowNew hbw ho⟩
end
end Go.Proofs.YtpmoanjeoaeabaaDoor
