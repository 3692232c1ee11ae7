/- Needs that go in a ring: the document's rounds, and what a search along the needs must come to. Plain Lean. -/
set_option linter.unusedVariables false
set_option linter.unusedSimpArgs false
set_option linter.unnecessarySimpa false
namespace Go.Proofs.YtpmoanjeoaeabaaDoor
/-- x is needed, through others or at once -/
inductive Reach (N : Nat → List Nat) (i : Nat) : Nat → Prop where
  | one {x : Nat} : x ∈ N i → Reach N i x
  | step {k x : Nat} : Reach N i k → x ∈ N k → Reach N i x
theorem Reach.trans {N : Nat → List Nat} {i k x : Nat} (h : Reach N i k) (g : Reach N k x) : Reach N i x := by
  induction g with
  | one hx => exact .step h hx
  | step _ hx ih => exact .step ih hx
def metB (m : List Bool) (x : Nat) : Bool := m.getD x false
theorem met_set (m : List Bool) (y x : Nat) (hy : y < m.length) : metB (m.set y true) x = (metB m x || y == x) := by
  unfold metB
  rw [List.getD_eq_getElem?_getD, List.getD_eq_getElem?_getD, List.getElem?_set]
  by_cases h : y = x
  · subst h
    rw [if_pos rfl, if_pos hy]
    simp
  · rw [if_neg h, beq_eq_false_iff_ne.2 h, Bool.or_false]
def markAll (m : List Bool) (l : List Nat) : List Bool := l.foldl (fun m x => m.set x true) m
theorem mark_len (l : List Nat) : ∀ m : List Bool, (markAll m l).length = m.length := by
  induction l with
  | nil => intro m; rfl
  | cons y l ih =>
    intro m
    show (markAll (m.set y true) l).length = _
    rw [ih, List.length_set]
theorem mark_iff (l : List Nat) (x : Nat) : ∀ m : List Bool, (∀ y ∈ l, y < m.length) → (metB (markAll m l) x = true ↔ metB m x = true ∨ x ∈ l) := by
  induction l with
  | nil => intro m _; simp [markAll]
  | cons y l ih =>
    intro m h
    show metB (markAll (m.set y true) l) x = true ↔ _
    rw [ih _ (by intro z hz; rw [List.length_set]; exact h z (by simp [hz])), met_set m y x (h y (by simp)), Bool.or_eq_true, beq_iff_eq, List.mem_cons]
    constructor
    · rintro ((h1 | h1) | h1)
      · exact .inl h1
      · exact .inr (.inl h1.symm)
      · exact .inr (.inr h1)
    · rintro (h1 | h1 | h1)
      · exact .inl (.inl h1)
      · exact .inl (.inr h1.symm)
      · exact .inr h1
def sweep1 (N : Nat → List Nat) (m : List Bool) (k : Nat) : List Bool := if metB m k = true then markAll m (N k) else m
def sweepTo (N : Nat → List Nat) (m : List Bool) : Nat → List Bool
  | 0 => m
  | k + 1 => sweep1 N (sweepTo N m k) k
def rounds (N : Nat → List Nat) (n : Nat) (m : List Bool) : Nat → List Bool
  | 0 => m
  | r + 1 => sweepTo N (rounds N n m r) n
section
variable {N : Nat → List Nat} {n : Nat}
/-- the needs are steps -/
def Within (N : Nat → List Nat) (n : Nat) : Prop := ∀ k, ∀ x ∈ N k, x < n
def Le (m m' : List Bool) : Prop := ∀ x, metB m x = true → metB m' x = true
theorem sweep1_len (m : List Bool) (k : Nat) : (sweep1 N m k).length = m.length := by
  unfold sweep1
  split
  · exact mark_len _ _
  · rfl
theorem sweepTo_len (m : List Bool) : ∀ k, (sweepTo N m k).length = m.length
  | 0 => rfl
  | k + 1 => by
    show (sweep1 N (sweepTo N m k) k).length = _
    rw [sweep1_len, sweepTo_len m k]
theorem rounds_len (m : List Bool) : ∀ r, (rounds N n m r).length = m.length
  | 0 => rfl
  | r + 1 => by
    show (sweepTo N (rounds N n m r) n).length = _
    rw [sweepTo_len, rounds_len m r]
theorem sweep1_iff (hN : Within N n) {m : List Bool} (hl : m.length = n) (k x : Nat) : metB (sweep1 N m k) x = true ↔ metB m x = true ∨ (metB m k = true ∧ x ∈ N k) := by
  unfold sweep1
  split
  · rename_i h
    rw [mark_iff _ _ _ (by rw [hl]; exact hN k)]
    simp [h]
  · rename_i h
    simp [h]
theorem sweepTo_le (hN : Within N n) {m : List Bool} (hl : m.length = n) : ∀ j k, j ≤ k → Le (sweepTo N m j) (sweepTo N m k) := by
  intro j k hjk
  induction k with
  | zero =>
    obtain rfl : j = 0 := by omega
    exact fun _ h => h
  | succ k ih =>
    by_cases e : j = k + 1
    · subst e
      exact fun _ h => h
    · intro x hx
      exact (sweep1_iff hN (by rw [sweepTo_len, hl]) k x).2 (.inl (ih (by omega) x hx))
/-- what is met needs only what is met -/
def Closed (N : Nat → List Nat) (n : Nat) (m : List Bool) : Prop := ∀ k, k < n → metB m k = true → ∀ x ∈ N k, metB m x = true
theorem closed_of (hN : Within N n) {m : List Bool} (hl : m.length = n) (h : Le (sweepTo N m n) m) : Closed N n m := by
  intro k hk hm x hx
  refine h x (sweepTo_le hN hl (k + 1) n (by omega) x ?_)
  refine (sweep1_iff hN (by rw [sweepTo_len, hl]) k x).2 (.inr ⟨sweepTo_le hN hl 0 k (by omega) k hm, hx⟩)
def cnt (m : List Bool) : Nat := m.countP id
theorem cnt_le : ∀ (m m' : List Bool), m.length = m'.length → Le m m' → cnt m ≤ cnt m' ∧ (cnt m' ≤ cnt m → m = m')
  | [], [], _, _ => ⟨Nat.le_refl _, fun _ => rfl⟩
  | [], _ :: _, h, _ => by simp at h
  | _ :: _, [], h, _ => by simp at h
  | a :: m, b :: m', h, hle => by
    have ht : Le m m' := fun x hx => by
      have := hle (x + 1) (by unfold metB at hx ⊢; simpa using hx)
      unfold metB at this ⊢
      simpa using this
    have h0 : a = true → b = true := fun ha => by
      have := hle 0 (by unfold metB; simpa using ha)
      unfold metB at this
      simpa using this
    obtain ⟨h1, h2⟩ := cnt_le m m' (by simpa using h) ht
    unfold cnt at h1 h2 ⊢
    rw [List.countP_cons, List.countP_cons]
    cases a <;> cases b
    · simp only [id, Bool.false_eq_true, if_false, Nat.add_zero]
      exact ⟨h1, fun hc => by rw [h2 hc]⟩
    · simp only [id, Bool.false_eq_true, if_false, if_true, Nat.add_zero]
      exact ⟨by omega, fun hc => by omega⟩
    · exact absurd (h0 rfl) (by decide)
    · simp only [id, if_true]
      exact ⟨by omega, fun hc => by rw [h2 (by omega)]⟩
theorem cnt_len (m : List Bool) : cnt m ≤ m.length := List.countP_le_length
theorem rounds_grow (hN : Within N n) {m : List Bool} (hl : m.length = n) : ∀ r, sweepTo N (rounds N n m r) n = rounds N n m r ∨ r ≤ cnt (rounds N n m r)
  | 0 => .inr (Nat.zero_le _)
  | r + 1 => by
    have hlr : (rounds N n m r).length = n := by rw [rounds_len, hl]
    have hle : Le (rounds N n m r) (sweepTo N (rounds N n m r) n) := sweepTo_le hN hlr 0 n (Nat.zero_le _)
    obtain ⟨h1, h2⟩ := cnt_le _ _ (by rw [sweepTo_len]) hle
    by_cases e : sweepTo N (rounds N n m r) n = rounds N n m r
    · left
      show sweepTo N (sweepTo N (rounds N n m r) n) n = sweepTo N (rounds N n m r) n
      rw [e, e]
    · right
      rcases rounds_grow hN hl r with h | h
      · exact absurd h e
      · show r + 1 ≤ cnt (sweepTo N (rounds N n m r) n)
        by_cases hc : cnt (sweepTo N (rounds N n m r) n) ≤ cnt (rounds N n m r)
        · exact absurd (h2 hc).symm e
        · omega
theorem rounds_closed (hN : Within N n) {m : List Bool} (hl : m.length = n) : Closed N n (rounds N n m n) := by
  have hlr : (rounds N n m n).length = n := by rw [rounds_len, hl]
  rcases rounds_grow hN hl n with h | h
  · exact closed_of hN hlr (by rw [h]; exact fun _ h => h)
  · refine closed_of hN hlr ?_
    have hle : Le (rounds N n m n) (sweepTo N (rounds N n m n) n) := sweepTo_le hN hlr 0 n (Nat.zero_le _)
    obtain ⟨_, h2⟩ := cnt_le _ _ (by rw [sweepTo_len]) hle
    rw [← h2 (by have := cnt_len (sweepTo N (rounds N n m n) n); rw [sweepTo_len, hlr] at this; omega)]
    exact fun _ h => h
theorem rounds_le (hN : Within N n) {m : List Bool} (hl : m.length = n) : ∀ r, Le m (rounds N n m r)
  | 0 => fun _ h => h
  | r + 1 => fun x hx => sweepTo_le hN (by rw [rounds_len, hl]) 0 n (Nat.zero_le _) x (rounds_le hN hl r x hx)
theorem sweepTo_sound (hN : Within N n) {m : List Bool} (hl : m.length = n) {P : Nat → Prop} (hP : ∀ k x, P k → x ∈ N k → P x) (h : ∀ x, metB m x = true → P x) : ∀ k x, metB (sweepTo N m k) x = true → P x
  | 0, x, hx => h x hx
  | k + 1, x, hx => by
    rcases (sweep1_iff hN (by rw [sweepTo_len, hl]) k x).1 hx with h1 | ⟨h1, h2⟩
    · exact sweepTo_sound hN hl hP h k x h1
    · exact hP k x (sweepTo_sound hN hl hP h k k h1) h2
theorem rounds_sound (hN : Within N n) {m : List Bool} (hl : m.length = n) {P : Nat → Prop} (hP : ∀ k x, P k → x ∈ N k → P x) (h : ∀ x, metB m x = true → P x) : ∀ r x, metB (rounds N n m r) x = true → P x
  | 0, x, hx => h x hx
  | r + 1, x, hx => sweepTo_sound hN (by rw [rounds_len, hl]) hP (rounds_sound hN hl hP h r) n x hx
/-- the document's way: is a step needed by itself through others? -/
theorem ring_iff (hN : Within N n) (i x : Nat) : metB (rounds N n (markAll (List.replicate n false) (N i)) n) x = true ↔ Reach N i x := by
  have hl0 : (List.replicate n false).length = n := List.length_replicate
  have hl : (markAll (List.replicate n false) (N i)).length = n := by rw [mark_len, hl0]
  have h0 : ∀ y, metB (List.replicate n false) y = false := by
    intro y
    unfold metB
    rw [List.getD_eq_getElem?_getD, List.getElem?_replicate]
    split <;> rfl
  have hm : ∀ y, metB (markAll (List.replicate n false) (N i)) y = true ↔ y ∈ N i := by
    intro y
    rw [mark_iff _ _ _ (by rw [hl0]; exact hN i), h0]
    simp
  constructor
  · exact rounds_sound hN hl (fun k x hk hx => Reach.step hk hx) (fun y hy => .one ((hm y).1 hy)) n x
  · intro h
    induction h with
    | one hx => exact rounds_le hN hl n _ ((hm _).2 hx)
    | @step k y hk hx ih =>
      have hkn : k < n := by
        cases hk with
        | one h => exact hN _ _ h
        | step _ h => exact hN _ _ h
      exact rounds_closed hN hl k hkn ih y hx
end
/- THE SEARCH: M tells how often each step was met. -/
/-- what a search from k makes of M -/
structure Along (N : Nat → List Nat) (M M' : Nat → Int) (done : List Nat) (k : Nat) : Prop where
  more : ∀ x, M x ≤ M' x
  met : ∀ x ∈ done, 0 < M' x
  new : ∀ x, M x ≤ 0 → 0 < M' x → x ∈ done ∨ ∃ y ∈ done, Reach N y x
  clos : ∀ x, M x ≤ 0 → 0 < M' x → ∀ y ∈ N x, 0 < M' y
theorem Along.nil (N : Nat → List Nat) (M : Nat → Int) (k : Nat) : Along N M M [] k := ⟨fun _ => Int.le_refl _, by simp, fun x h1 h2 => by omega, fun x h1 h2 => by omega⟩
/-- a step that was met already -/
theorem Along.old {N : Nat → List Nat} {M M1 : Nat → Int} {done : List Nat} {k n : Nat} (h : Along N M M1 done k) (hn : 0 < M1 n) : Along N M (fun x => if x = n then M1 x + 1 else M1 x) (done ++ [n]) k := by
  have he : ∀ x, (0 : Int) < (if x = n then M1 x + 1 else M1 x) ↔ 0 < M1 x := by
    intro x
    split
    · rename_i e; subst e; omega
    · exact Iff.rfl
  refine ⟨fun x => ?_, fun x hx => ?_, fun x h1 h2 => ?_, fun x h1 h2 y hy => ?_⟩
  · have := h.more x
    split <;> omega
  · rw [he]
    rcases List.mem_append.1 hx with hx | hx
    · exact h.met x hx
    · simp at hx; subst hx; exact hn
  · rw [he] at h2
    rcases h.new x h1 h2 with h3 | ⟨y, hy, h3⟩
    · exact .inl (List.mem_append_left _ h3)
    · exact .inr ⟨y, List.mem_append_left _ hy, h3⟩
  · rw [he] at h2
    rw [he]
    exact h.clos x h1 h2 y hy
/-- a new step, and the search from it -/
theorem Along.fresh {N : Nat → List Nat} {M M1 M2 : Nat → Int} {done : List Nat} {k n : Nat} (h : Along N M M1 done k) (hn : M1 n = 0) (hM : M n ≤ 0)
    (g : Along N (fun x => if x = n then M1 x + 1 else M1 x) M2 (N n) n) : Along N M M2 (done ++ [n]) k := by
  have hmore : ∀ x, M1 x ≤ M2 x := by
    intro x
    have := g.more x
    split at this <;> omega
  have hn2 : 0 < M2 n := by
    have := g.more n
    rw [if_pos rfl] at this
    omega
  refine ⟨fun x => Int.le_trans (h.more x) (hmore x), fun x hx => ?_, fun x h1 h2 => ?_, fun x h1 h2 y hy => ?_⟩
  · rcases List.mem_append.1 hx with hx | hx
    · exact Int.lt_of_lt_of_le (h.met x hx) (hmore x)
    · simp at hx; subst hx; exact hn2
  · by_cases e : x = n
    · exact .inl (by simp [e])
    · by_cases h3 : 0 < M1 x
      · rcases h.new x h1 h3 with h4 | ⟨y, hy, h4⟩
        · exact .inl (List.mem_append_left _ h4)
        · exact .inr ⟨y, List.mem_append_left _ hy, h4⟩
      · refine .inr ⟨n, by simp, ?_⟩
        rcases g.new x (by rw [if_neg e]; omega) h2 with h4 | ⟨y, hy, h4⟩
        · exact .one h4
        · exact Reach.trans (.one hy) h4
  · by_cases e : x = n
    · subst e
      exact g.met y hy
    · by_cases h3 : 0 < M1 x
      · exact Int.lt_of_lt_of_le (h.clos x h1 h3 y hy) (hmore y)
      · exact g.clos x (by rw [if_neg e]; omega) h2 y hy
/-- from nothing met: what the search from i meets is what i needs -/
theorem Along.whole {N : Nat → List Nat} {M M' : Nat → Int} {i : Nat} (h : Along N M M' (N i) i) (h0 : ∀ x, M x ≤ 0) (x : Nat) : 0 < M' x ↔ Reach N i x := by
  constructor
  · intro h1
    rcases h.new x (h0 x) h1 with h2 | ⟨y, hy, h2⟩
    · exact .one h2
    · exact Reach.trans (.one hy) h2
  · intro hr
    induction hr with
    | one hx => exact h.met _ hx
    | step _ hx ih => exact h.clos _ (h0 _) ih _ hx
end Go.Proofs.YtpmoanjeoaeabaaDoor
