/- The program's Check: what the walk needs; rings; which keys are held. -/
import Derived.Test.YtpmoanjeoaeabaaDoorCX
import Derived.Test.YtpmoanjeoaeabaaDoorCS
set_option linter.unusedVariables false
set_option linter.unusedSimpArgs false
set_option linter.unnecessarySimpa false
set_option maxRecDepth 100000
namespace Go.Proofs.YtpmoanjeoaeabaaDoor
open Go.RowKit Go.ChangeShapes Go.WideShapes Go.ChangeAt
theorem ok_len {l : List Int} {i n : Nat} (h : needsB l i n = true) : l.length ≤ n := by
  have hk := of_decide_eq_true h
  have key : ∀ j, j < l.length → (j : Int) ≤ l.getD j 0 := by
    intro j
    induction j with
    | zero => intro hj; exact (hk 0 hj).1
    | succ j ih =>
      intro hj
      have h1 := ih (by omega)
      have h2 := (hk (j + 1) hj).2.2.2 (by omega)
      rw [Nat.add_sub_cancel] at h2
      omega
  by_cases h0 : l.length = 0
  · omega
  · have h1 := key (l.length - 1) (by omega)
    have h2 := (hk (l.length - 1) (by omega)).2.1
    omega
section
variable {d : Df} {n : Nat} {p q : Nat → Bool}
theorem ret_congr (h : ∀ k, k < n → p k = q k) : retI n p = retI n q := by
  have : fstI n p = fstI n q := by
    rcases Nat.lt_or_ge (fstI n q) n with hlt | hge
    · exact fst_hit hlt (by rw [h _ hlt]; exact fst_is hlt) fun j hj => by rw [h j (by omega)]; exact fst_no hj
    · have e : fstI n q = n := by have := fst_le n q; omega
      rw [e]
      exact fst_none fun j hj => by rw [h j hj]; exact fst_no (n := n) (by omega)
  unfold retI
  rw [this]
theorem ret_fst : (0 ≤ retI n p ↔ fstI n p < n) ∧ (fstI n p < n → retI n p = fstI n p) := by
  unfold retI
  by_cases h : fstI n p < n
  · rw [if_pos h]
    exact ⟨⟨fun _ => h, fun _ => by omega⟩, fun _ => rfl⟩
  · rw [if_neg h]
    exact ⟨⟨fun g => by omega, fun g => absurd g h⟩, fun g => absurd g h⟩
theorem tog_ret : togetherN d = if 0 ≤ retI d.steps.length (pivB d) then (retI d.steps.length (pivB d), 117) else if 0 ≤ retI d.steps.length (orderB d) then (retI d.steps.length (orderB d), 118)
    else if 0 ≤ retI d.steps.length (ringB d) then (retI d.steps.length (ringB d), 119) else if 0 ≤ retI d.steps.length (looseB d) then (retI d.steps.length (looseB d), 115) else (-1, 0) := by
  unfold togetherN
  have h1 := ret_fst (n := d.steps.length) (p := pivB d)
  have h2 := ret_fst (n := d.steps.length) (p := orderB d)
  have h3 := ret_fst (n := d.steps.length) (p := ringB d)
  have h4 := ret_fst (n := d.steps.length) (p := looseB d)
  by_cases c1 : fstI d.steps.length (pivB d) < d.steps.length
  · rw [if_pos c1, if_pos (h1.1.2 c1), h1.2 c1]
  rw [if_neg c1, if_neg (fun g => c1 (h1.1.1 g))]
  by_cases c2 : fstI d.steps.length (orderB d) < d.steps.length
  · rw [if_pos c2, if_pos (h2.1.2 c2), h2.2 c2]
  rw [if_neg c2, if_neg (fun g => c2 (h2.1.1 g))]
  by_cases c3 : fstI d.steps.length (ringB d) < d.steps.length
  · rw [if_pos c3, if_pos (h3.1.2 c3), h3.2 c3]
  rw [if_neg c3, if_neg (fun g => c3 (h3.1.1 g))]
  by_cases c4 : fstI d.steps.length (looseB d) < d.steps.length
  · rw [if_pos c4, if_pos (h4.1.2 c4), h4.2 c4]
  rw [if_neg c4, if_neg (fun g => c4 (h4.1.1 g))]
theorem piv_top (d : Df) : ∀ k, pivTo d k ≤ k
  | 0 => Nat.le_refl _
  | k + 1 => by
    have ih := piv_top d k
    unfold pivTo
    split <;> omega
theorem key_mem {l : List ByteArray} {j : Nat} (h : j < l.length) : keyAt l j ∈ l := by
  unfold keyAt
  rw [← List.getElem_eq_getD (h := h)]
  exact List.getElem_mem h
/- where the map tells which keys are held, its zeros tell the loose keys -/
open Classical in
theorem keyNo_loose {f : ByteArray → Int} (h0 : ∀ s, 0 ≤ f s) (hf : ∀ s, decide (0 < f s) = heldB d s) {k : Nat} (hk : k < d.steps.length) : keyNo d f k = looseB d k := by
  have hz : ∀ s, f s = 0 ↔ heldB d s = false := fun s => by
    have h1 := h0 s
    have h2 := hf s
    constructor
    · intro h
      rw [← h2]
      exact decide_eq_false (by omega)
    · intro h
      rw [h] at h2
      have := of_decide_eq_false h2
      omega
  unfold keyNo looseB
  by_cases h3 : kindAt d k = 3
  · apply decide_eq_decide.2
    constructor
    · rintro ⟨j, hj, e⟩
      exact ⟨h3, _, key_mem hj, (hz _).1 (of_decide_eq_true e)⟩
    · rintro ⟨_, key, hm, hh⟩
      obtain ⟨j, hj, rfl⟩ := List.getElem_of_mem hm
      refine ⟨j, hj, decide_eq_true ((hz _).2 ?_)⟩
      unfold keyAt
      rwa [← List.getElem_eq_getD (h := hj)]
  · apply decide_eq_decide.2
    constructor
    · rintro ⟨j, hj, e⟩
      have h4 := (hz _).1 (of_decide_eq_true e)
      have h5 : heldB d (keyAt (keysAt d k) j) = true := decide_eq_true ⟨k, hk, h3, key_mem hj⟩
      rw [h4] at h5
      cases h5
    · rintro ⟨h, _⟩
      exact absurd h h3
end
/-- rings: a definition is boxed, and the function value comes back -/
theorem rings_any {w : World} (d : Df) : Calls Tryd.prog 43 #[d.v] w fun e w' => e = .returned (.func (.func 70) #[] #[.pointer (some ⟨w.heap.size, 0, none⟩)]) ∧ w' = w.alloc (.cells #[.string d.name, .slice d.A d.steps.length d.c] 24) := by
  unfold Df.v
  go_enter Tryd.func43, Tryd.ntmps43
  go_wp2_with fail
  go_ret
  exact ⟨rfl, rfl⟩
def HdRel (W : World) (L : List HP) (mb : Nat) (d : Df) (n : Nat) (x : Value) (wr : World) : Prop :=
  ∃ (k q : Nat) (f : ByteArray → Int), k ≤ n ∧ x = .int .i64 k ∧ q ≤ 2 * k ∧ (∀ s, 0 ≤ f s ∧ f s ≤ q) ∧ (∀ s, decide (0 < f s) = foundTo d s k) ∧ Sat W wr (MapC mb q f :: L)
def HeRel (W : World) (L : List HP) (mb : Nat) (d : Df) (k : Nat) (x : Value) (wr : World) : Prop :=
  ∃ (m q : Nat) (f : ByteArray → Int), m ≤ (keysAt d k).length ∧ x = .int .i64 m ∧ q ≤ 2 * k + m ∧ (∀ s, 0 ≤ f s ∧ f s ≤ q) ∧ (∀ s, decide (0 < f s) = foundIn d s k m) ∧ Sat W wr (MapC mb q f :: L)
theorem held_next {d : Df} {k m q : Nat} {f : ByteArray → Int} (h3 : kindAt d k ≠ 3) (hm : m < (keysAt d k).length) (h0 : ∀ s, 0 ≤ f s ∧ f s ≤ q) (hf : ∀ s, decide (0 < f s) = foundIn d s k m) :
    (∀ s, 0 ≤ (if s = keyAt (keysAt d k) m then f (keyAt (keysAt d k) m) + 1 else f s) ∧ (if s = keyAt (keysAt d k) m then f (keyAt (keysAt d k) m) + 1 else f s) ≤ (q + 1 : Nat)) ∧
    ∀ s, decide (0 < (if s = keyAt (keysAt d k) m then f (keyAt (keysAt d k) m) + 1 else f s)) = foundIn d s k (m + 1) := by
  refine ⟨fun s => ?_, fun s => ?_⟩
  · have h1 := h0 s
    have h2 := h0 (keyAt (keysAt d k) m)
    split <;> omega
  · rw [foundIn_next h3 hm, ← hf s]
    have h2 := h0 (keyAt (keysAt d k) m)
    by_cases e : s = keyAt (keysAt d k) m
    · rw [if_pos e, decide_eq_true e.symm, Bool.or_true]
      exact decide_eq_true (by omega)
    · have e2 : decide (keyAt (keysAt d k) m = s) = false := decide_eq_false fun g => e g.symm
      rw [if_neg e, e2, Bool.or_false]
end Go.Proofs.YtpmoanjeoaeabaaDoor
