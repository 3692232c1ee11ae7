/- Needs that go in no ring come to an end: the plain law of CheckSound's rounds. Plain Lean. -/
import Derived.Test.YtpmoanjeoaeabaaDoorCP
set_option linter.unusedVariables false
set_option linter.unusedSimpArgs false
set_option linter.unnecessarySimpa false
namespace Go.Proofs.YtpmoanjeoaeabaaDoor
open Classical in /-- of how many of the first n something holds -/ noncomputable def cn (p : Nat → Prop) : Nat → Nat
  | 0 => 0
  | k + 1 => cn p k + if p k then 1 else 0
theorem cn_le {p q : Nat → Prop} (h : ∀ x, p x → q x) : ∀ k, cn p k ≤ cn q k
  | 0 => Nat.le_refl _
  | k + 1 => by
    have ih := cn_le h k
    unfold cn
    by_cases h1 : p k
    · rw [if_pos h1, if_pos (h k h1)]; omega
    · rw [if_neg h1]; omega
theorem cn_lt {p q : Nat → Prop} (h : ∀ x, p x → q x) {n : Nat} (h0 : ¬ p n) (h1 : q n) : ∀ k, n < k → cn p k < cn q k
  | 0, hk => absurd hk (Nat.not_lt_zero _)
  | k + 1, hk => by
    have hle := cn_le h k
    unfold cn
    by_cases e : n = k
    · subst e
      rw [if_neg h0, if_pos h1]; omega
    · have ih := cn_lt h h0 h1 k (by omega)
      by_cases h2 : p k
      · rw [if_pos h2, if_pos (h k h2)]; omega
      · rw [if_neg h2]; omega
theorem cn_top (p : Nat → Prop) : ∀ k, cn p k ≤ k
  | 0 => Nat.le_refl _
  | k + 1 => by
    have ih := cn_top p k
    unfold cn
    split <;> omega
theorem cn_miss {p : Nat → Prop} {n : Nat} (h : ¬ p n) (k : Nat) (hk : n < k) : cn p k < k := by
  have h1 := cn_lt (p := p) (q := fun _ => True) (fun _ _ => trivial) h trivial k hk
  have h2 := cn_top (fun _ => True) k
  omega
def goneB (m : List Bool) (l : List Nat) : Bool := l.all fun x => metB m x
/-- one round, up to step k: what has all its needs gone, goes -/
def goTo (N : Nat → List Nat) (m : List Bool) : Nat → List Bool
  | 0 => m
  | k + 1 => (goTo N m k).set k (metB (goTo N m k) k || goneB (goTo N m k) (N k))
def goRounds (N : Nat → List Nat) (n : Nat) (m : List Bool) : Nat → List Bool
  | 0 => m
  | r + 1 => goTo N (goRounds N n m r) n
theorem met_setB (m : List Bool) (y x : Nat) (v : Bool) (hy : y < m.length) : metB (m.set y v) x = if y = x then v else metB m x := by
  unfold metB
  rw [List.getD_eq_getElem?_getD, List.getD_eq_getElem?_getD, List.getElem?_set]
  by_cases h : y = x
  · subst h
    rw [if_pos rfl, if_pos hy, if_pos rfl]
    rfl
  · rw [if_neg h, if_neg h]
section
variable {N : Nat → List Nat} {n : Nat}
theorem goTo_len (m : List Bool) : ∀ k, (goTo N m k).length = m.length
  | 0 => rfl
  | k + 1 => by
    show ((goTo N m k).set k _).length = _
    rw [List.length_set, goTo_len m k]
theorem goRounds_len (m : List Bool) : ∀ r, (goRounds N n m r).length = m.length
  | 0 => rfl
  | r + 1 => by
    show (goTo N (goRounds N n m r) n).length = _
    rw [goTo_len, goRounds_len m r]
theorem goTo_le {m : List Bool} (hl : m.length = n) : ∀ k, k ≤ n → ∀ x, metB m x = true → metB (goTo N m k) x = true
  | 0, _, x, h => h
  | k + 1, hk, x, h => by
    have ih := goTo_le hl k (by omega) x h
    show metB ((goTo N m k).set k _) x = true
    rw [met_setB _ _ _ _ (by rw [goTo_len, hl]; omega)]
    by_cases e : k = x
    · subst e
      rw [if_pos rfl, ih]
      rfl
    · rw [if_neg e]
      exact ih
theorem goTo_hit {m : List Bool} (hl : m.length = n) {x : Nat} (hx : ∀ z ∈ N x, metB m z = true) : ∀ k, k ≤ n → x < k → metB (goTo N m k) x = true
  | 0, _, h => absurd h (Nat.not_lt_zero _)
  | k + 1, hk, h => by
    show metB ((goTo N m k).set k _) x = true
    rw [met_setB _ _ _ _ (by rw [goTo_len, hl]; omega)]
    by_cases e : k = x
    · subst e
      rw [if_pos rfl]
      have hg : goneB (goTo N m k) (N k) = true := by
        unfold goneB
        rw [List.all_eq_true]
        exact fun z hz => goTo_le hl k (by omega) z (hx z hz)
      rw [hg, Bool.or_true]
    · rw [if_neg e]
      exact goTo_hit hl hx k (by omega) (by omega)
/-- where no step needs itself, all go within as many rounds as there are steps -/
theorem all_gone (hN : Within N n) (hr : ∀ x, x < n → ¬ Reach N x x) : ∀ x, x < n → metB (goRounds N n (List.replicate n false) n) x = true := by
  have hl : ∀ r, (goRounds N n (List.replicate n false) r).length = n := fun r => by rw [goRounds_len, List.length_replicate]
  have key : ∀ r x, r ≤ n → x < n → cn (fun y => Reach N x y) n < r → metB (goRounds N n (List.replicate n false) r) x = true := by
    intro r
    induction r with
    | zero => intro x _ _ h; omega
    | succ r ih =>
      intro x hrn hx hc
      refine goTo_hit (hl r) (fun z hz => ?_) n (Nat.le_refl n) hx
      have hzn := hN x z hz
      refine ih z (by omega) hzn ?_
      have := cn_lt (p := fun y => Reach N z y) (q := fun y => Reach N x y) (fun y hy => Reach.trans (.one hz) hy) (hr z hzn) (Reach.one hz) n hzn
      omega
  intro x hx
  exact key n x (Nat.le_refl n) hx (cn_miss (hr x hx) n hx)
end
end Go.Proofs.YtpmoanjeoaeabaaDoor
