/- What holds of a definition in which nothing is wrong; words for the walk of CheckSound. -/
import Derived.Test.YtpmoanjeoaeabaaDoorDB
import Derived.Test.YtpmoanjeoaeabaaDoorDC
set_option linter.unusedVariables false
set_option linter.unusedSimpArgs false
set_option linter.unnecessarySimpa false
set_option maxRecDepth 100000
namespace Go.Proofs.YtpmoanjeoaeabaaDoor
open Go.RowKit Go.ChangeShapes Go.WideShapes Go.ChangeAt
structure Clean (d : Df) : Prop where
  pos : 1 ≤ d.steps.length
  most : d.steps.length ≤ 8
  alone : ∀ j, j < d.steps.length → badB d j = false
  piv : ∀ j, j < d.steps.length → pivB d j = false
  order : ∀ j, j < d.steps.length → orderB d j = false
  ring : ∀ j, j < d.steps.length → ringB d j = false
  loose : ∀ j, j < d.steps.length → looseB d j = false
theorem fst_all {n : Nat} {p : Nat → Bool} (h : ¬ fstI n p < n) : ∀ j, j < n → p j = false := fun j hj => fst_no (n := n) (by omega)
theorem clean_of {d : Df} (h : (checkN d).2 = 0) : Clean d ∧ checkN d = (-1, 0) := by
  unfold checkN at h ⊢
  by_cases h1 : isN d.name = false
  · rw [if_pos h1] at h; exact absurd h (by decide)
  rw [if_neg h1] at h ⊢
  by_cases h2 : d.steps.length < 1 ∨ 8 < d.steps.length
  · rw [if_pos h2] at h; exact absurd h (by decide)
  rw [if_neg h2] at h ⊢
  by_cases h3 : fstI d.steps.length (badB d) < d.steps.length
  · rw [if_pos h3] at h
    have := of_decide_eq_true (fst_is h3)
    exact absurd h this
  rw [if_neg h3] at h ⊢
  unfold togetherN at h ⊢
  by_cases h4 : fstI d.steps.length (pivB d) < d.steps.length
  · rw [if_pos h4] at h; exact absurd h (by show ¬ (117 : Int) = 0; decide)
  rw [if_neg h4] at h ⊢
  by_cases h5 : fstI d.steps.length (orderB d) < d.steps.length
  · rw [if_pos h5] at h; exact absurd h (by show ¬ (118 : Int) = 0; decide)
  rw [if_neg h5] at h ⊢
  by_cases h6 : fstI d.steps.length (ringB d) < d.steps.length
  · rw [if_pos h6] at h; exact absurd h (by show ¬ (119 : Int) = 0; decide)
  rw [if_neg h6] at h ⊢
  by_cases h7 : fstI d.steps.length (looseB d) < d.steps.length
  · rw [if_pos h7] at h; exact absurd h (by show ¬ (115 : Int) = 0; decide)
  rw [if_neg h7]
  exact ⟨⟨by omega, by omega, fst_all h3, fst_all h4, fst_all h5, fst_all h6, fst_all h7⟩, rfl⟩
section
variable {d : Df}
theorem Clean.need (h : Clean d) : NeedIn d := needIn_of h.alone
theorem Clean.names (h : Clean d) {k i : Nat} (hi : i < d.steps.length) (hk : k < i) : nameAt d k ≠ nameAt d i := fun e => by
  have := (bad_no (h.alone i hi)).2.1
  exact of_decide_eq_false this ⟨k, hk, e⟩
theorem Clean.pivs (h : Clean d) : ∀ k, k ≤ d.steps.length → pivTo d k ≤ 1 := fun k hk => piv_le fun j hj => h.piv j (by omega)
theorem Clean.kinds (h : Clean d) {i : Nat} (hi : i < d.steps.length) {m : Int} (hm : m ∈ needsAt d i) (h3 : kindAt d i ≠ 3) : kindAt d m.toNat = 1 := by
  have := of_decide_eq_false (h.order i hi)
  by_cases e : kindAt d m.toNat = 1
  · exact e
  · exact absurd ⟨h3, m, hm, e⟩ this
theorem Clean.gone (h : Clean d) : ∀ x, x < d.steps.length → metB (goRounds (needN d) d.steps.length (List.replicate d.steps.length false) d.steps.length) x = true :=
  all_gone (within_of h.need) fun x hx hr => by
    have := h.ring x hx
    rw [(ringB_iff h.need x).2 hr] at this
    cases this
end
theorem goneB_take (M : List Bool) (l : List Nat) (k : Nat) (h : k < l.length) : goneB M (l.take (k + 1)) = (goneB M (l.take k) && metB M (l.getD k 0)) := by
  unfold goneB
  rw [List.take_succ_eq_append_getElem h, ← List.getElem_eq_getD (h := h), List.all_append]
  simp
theorem bv_setB (M : List Bool) (x : Nat) (v : Bool) : (bv M).set x (.bool v) = bv (M.set x v) := by unfold bv; rw [List.map_set]
def So1 (W : World) (b : Nat) (d : Df) (p x : Value) (wr : World) : Prop := ∃ i : Nat, i ≤ d.steps.length ∧ x = .int .i64 i ∧ p = .int .i64 (pivTo d i : Nat) ∧ Sat W wr [Blk b 24 (boxV d), Old W]
def So2 (W : World) (L : List HP) (n : Nat) (x : Value) (wr : World) : Prop := ∃ k : Nat, k ≤ n ∧ x = .int .i64 k ∧ Sat W wr L
def So4 (W : World) (L : List HP) (mb : Nat) (N : Nat → List Nat) (n : Nat) (x : Value) (wr : World) : Prop := ∃ r : Nat, r ≤ n ∧ x = .int .i64 r ∧ Sat W wr (Blk mb 4 (bv (goRounds N n (List.replicate n false) r)) :: L)
def So5 (W : World) (L : List HP) (mb : Nat) (N : Nat → List Nat) (n : Nat) (S : List Bool) (x : Value) (wr : World) : Prop := ∃ k : Nat, k ≤ n ∧ x = .int .i64 k ∧ Sat W wr (Blk mb 4 (bv (goTo N S k)) :: L)
def So6 (W : World) (L : List HP) (mb : Nat) (M : List Bool) (l : List Nat) (f x : Value) (wr : World) : Prop := ∃ j : Nat, j ≤ l.length ∧ x = .int .i64 j ∧ f = .bool (goneB M (l.take j)) ∧ Sat W wr (Blk mb 4 (bv M) :: L)
end Go.Proofs.YtpmoanjeoaeabaaDoor
