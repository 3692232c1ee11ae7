import Derived.Test.YtpmoanjeoaeabaaDoorA4
section
/- Needs that go in a ring: the document's rounds, and what a search along the needs must come to. Plain Lean. -/
set_option linter.unusedVariables false
set_option linter.unusedSimpArgs false
set_option linter.unnecessarySimpa false
namespace Go.Proofs.YtpmoanjeoaeabaaDoor
/-- x is needed, through others or at once -/
inductive Reach (N : Nat → List Nat) (i : Nat) : Nat → Prop where
  | one {x : Nat} : x ∈ N i → Reach N i x
  | step {k x : Nat} : Reach N i k → x ∈ N k → Reach N i x
theorem Reach.trans {N : Nat → List Nat} {i k x : Nat} (h : Reach N i k) (g : Reach N k x) : Reach N i x := by
  induction g with
  | one hx => exact .step h hx
  | step _ hx ih => exact .step ih hx
def metB (m : List Bool) (x : Nat) : Bool := m.getD x false
theorem met_set (m : List Bool) (y x : Nat) (hy : y < m.length) : metB (m.set y true) x = (metB m x || y == x) := by
  unfold metB
  rw [List.getD_eq_getElem?_getD, List.getD_eq_getElem?_getD, List.getElem?_set]
  by_cases h : y = x
  · subst h
    rw [if_pos rfl, if_pos hy]
    simp
  · rw [if_neg h, beq_eq_false_iff_ne.2 h, Bool.or_false]
def markAll (m : List Bool) (l : List Nat) : List Bool := l.foldl (fun m x => m.set x true) m
theorem mark_len (l : List Nat) : ∀ m : List Bool, (markAll m l).length = m.length := by
  induction l with
  | nil => intro m; rfl
  | cons y l ih =>
    intro m
    show (markAll (m.set y true) l).length = _
    rw [ih, List.length_set]
theorem mark_iff (l : List Nat) (x : Nat) : ∀ m : List Bool, (∀ y ∈ l, y < m.length) → (metB (markAll m l) x = true ↔ metB m x = true ∨ x ∈ l) := by
  induction l with
  | nil => intro m _; simp [markAll]
  | cons y l ih =>
    intro m h
    show metB (markAll (m.set y true) l) x = true ↔ _
    rw [ih _ (by intro z hz; rw [List.length_set]; exact h z (by simp [hz])), met_set m y x (h y (by simp)), Bool.or_eq_true, beq_iff_eq, List.mem_cons]
    constructor
    · rintro ((h1 | h1) | h1)
      · exact .inl h1
      · exact .inr (.inl h1.symm)
      · exact .inr (.inr h1)
    · rintro (h1 | h1 | h1)
      · exact .inl (.inl h1)
      · exact .inl (.inr h1.symm)
      · exact .inr h1
def sweep1 (N : Nat → List Nat) (m : List Bool) (k : Nat) : List Bool := if metB m k = true then markAll m (N k) else m
def sweepTo (N : Nat → List Nat) (m : List Bool) : Nat → List Bool
  | 0 => m
  | k + 1 => sweep1 N (sweepTo N m k) k
def rounds (N : Nat → List Nat) (n : Nat) (m : List Bool) : Nat → List Bool
  | 0 => m
  | r + 1 => sweepTo N (rounds N n m r) n
section
variable {N : Nat → List Nat} {n : Nat}
/-- the needs are steps -/
def Within (N : Nat → List Nat) (n : Nat) : Prop := ∀ k, ∀ x ∈ N k, x < n
def Le (m m' : List Bool) : Prop := ∀ x, metB m x = true → metB m' x = true
theorem sweep1_len (m : List Bool) (k : Nat) : (sweep1 N m k).length = m.length := by
  unfold sweep1
  split
  · exact mark_len _ _
  · rfl
theorem sweepTo_len (m : List Bool) : ∀ k, (sweepTo N m k).length = m.length
  | 0 => rfl
  | k + 1 => by
    show (sweep1 N (sweepTo N m k) k).length = _
    rw [sweep1_len, sweepTo_len m k]
theorem rounds_len (m : List Bool) : ∀ r, (rounds N n m r).length = m.length
  | 0 => rfl
  | r + 1 => by
    show (sweepTo N (rounds N n m r) n).length = _
    rw [sweepTo_len, rounds_len m r]
theorem sweep1_iff (hN : Within N n) {m : List Bool} (hl : m.length = n) (k x : Nat) : metB (sweep1 N m k) x = true ↔ metB m x = true ∨ (metB m k = true ∧ x ∈ N k) := by
  unfold sweep1
  split
  · rename_i h
    rw [mark_iff _ _ _ (by rw [hl]; exact hN k)]
    simp [h]
  · rename_i h
    simp [h]
theorem sweepTo_le (hN : Within N n) {m : List Bool} (hl : m.length = n) : ∀ j k, j ≤ k → Le (sweepTo N m j) (sweepTo N m k) := by
  intro j k hjk
  induction k with
  | zero =>
    obtain rfl : j = 0 := by omega
    exact fun _ h => h
  | succ k ih =>
    by_cases e : j = k + 1
    · subst e
      exact fun _ h => h
    · intro x hx
      exact (sweep1_iff hN (by rw [sweepTo_len, hl]) k x).2 (.inl (ih (by omega) x hx))
/-- what is met needs only what is met -/
def Closed (N : Nat → List Nat) (n : Nat) (m : List Bool) : Prop := ∀ k, k < n → metB m k = true → ∀ x ∈ N k, metB m x = true
theorem closed_of (hN : Within N n) {m : List Bool} (hl : m.length = n) (h : Le (sweepTo N m n) m) : Closed N n m := by
  intro k hk hm x hx
  refine h x (sweepTo_le hN hl (k + 1) n (by omega) x ?_)
  refine (sweep1_iff hN (by rw [sweepTo_len, hl]) k x).2 (.inr ⟨sweepTo_le hN hl 0 k (by omega) k hm, hx⟩)
def cnt (m : List Bool) : Nat := m.countP id
theorem cnt_le : ∀ (m m' : List Bool), m.length = m'.length → Le m m' → cnt m ≤ cnt m' ∧ (cnt m' ≤ cnt m → m = m')
  | [], [], _, _ => ⟨Nat.le_refl _, fun _ => rfl⟩
  | [], _ :: _, h, _ => by simp at h
  | _ :: _, [], h, _ => by simp at h
  | a :: m, b :: m', h, hle => by
    have ht : Le m m' := fun x hx => by
      have := hle (x + 1) (by unfold metB at hx ⊢; simpa using hx)
      unfold metB at this ⊢
      simpa using this
    have h0 : a = true → b = true := fun ha => by
      have := hle 0 (by unfold metB; simpa using ha)
      unfold metB at this
      simpa using this
    obtain ⟨h1, h2⟩ := cnt_le m m' (by simpa using h) ht
    unfold cnt at h1 h2 ⊢
    rw [List.countP_cons, List.countP_cons]
    cases a <;> cases b
    · simp only [id, Bool.false_eq_true, if_false, Nat.add_zero]
      exact ⟨h1, fun hc => by rw [h2 hc]⟩
    · simp only [id, Bool.false_eq_true, if_false, if_true, Nat.add_zero]
      exact ⟨by omega, fun hc => by omega⟩
    · exact absurd (h0 rfl) (by decide)
    · simp only [id, if_true]
      exact ⟨by omega, fun hc => by rw [h2 (by omega)]⟩
theorem cnt_len (m : List Bool) : cnt m ≤ m.length := List.countP_le_length
theorem rounds_grow (hN : Within N n) {m : List Bool} (hl : m.length = n) : ∀ r, sweepTo N (rounds N n m r) n = rounds N n m r ∨ r ≤ cnt (rounds N n m r)
  | 0 => .inr (Nat.zero_le _)
  | r + 1 => by
    have hlr : (rounds N n m r).length = n := by rw [rounds_len, hl]
    have hle : Le (rounds N n m r) (sweepTo N (rounds N n m r) n) := sweepTo_le hN hlr 0 n (Nat.zero_le _)
    obtain ⟨h1, h2⟩ := cnt_le _ _ (by rw [sweepTo_len]) hle
    by_cases e : sweepTo N (rounds N n m r) n = rounds N n m r
    · left
      show sweepTo N (sweepTo N (rounds N n m r) n) n = sweepTo N (rounds N n m r) n
      rw [e, e]
    · right
      rcases rounds_grow hN hl r with h | h
      · exact absurd h e
      · show r + 1 ≤ cnt (sweepTo N (rounds N n m r) n)
        by_cases hc : cnt (sweepTo N (rounds N n m r) n) ≤ cnt (rounds N n m r)
        · exact absurd (h2 hc).symm e
        · omega
theorem rounds_closed (hN : Within N n) {m : List Bool} (hl : m.length = n) : Closed N n (rounds N n m n) := by
  have hlr : (rounds N n m n).length = n := by rw [rounds_len, hl]
  rcases rounds_grow hN hl n with h | h
  · exact closed_of hN hlr (by rw [h]; exact fun _ h => h)
  · refine closed_of hN hlr ?_
    have hle : Le (rounds N n m n) (sweepTo N (rounds N n m n) n) := sweepTo_le hN hlr 0 n (Nat.zero_le _)
    obtain ⟨_, h2⟩ := cnt_le _ _ (by rw [sweepTo_len]) hle
    rw [← h2 (by have := cnt_len (sweepTo N (rounds N n m n) n); rw [sweepTo_len, hlr] at this; omega)]
    exact fun _ h => h
theorem rounds_le (hN : Within N n) {m : List Bool} (hl : m.length = n) : ∀ r, Le m (rounds N n m r)
  | 0 => fun _ h => h
  | r + 1 => fun x hx => sweepTo_le hN (by rw [rounds_len, hl]) 0 n (Nat.zero_le _) x (rounds_le hN hl r x hx)
theorem sweepTo_sound (hN : Within N n) {m : List Bool} (hl : m.length = n) {P : Nat → Prop} (hP : ∀ k x, P k → x ∈ N k → P x) (h : ∀ x, metB m x = true → P x) : ∀ k x, metB (sweepTo N m k) x = true → P x
  | 0, x, hx => h x hx
  | k + 1, x, hx => by
    rcases (sweep1_iff hN (by rw [sweepTo_len, hl]) k x).1 hx with h1 | ⟨h1, h2⟩
    · exact sweepTo_sound hN hl hP h k x h1
    · exact hP k x (sweepTo_sound hN hl hP h k k h1) h2
theorem rounds_sound (hN : Within N n) {m : List Bool} (hl : m.length = n) {P : Nat → Prop} (hP : ∀ k x, P k → x ∈ N k → P x) (h : ∀ x, metB m x = true → P x) : ∀ r x, metB (rounds N n m r) x = true → P x
  | 0, x, hx => h x hx
  | r + 1, x, hx => sweepTo_sound hN (by rw [rounds_len, hl]) hP (rounds_sound hN hl hP h r) n x hx
/-- the document's way: is a step needed by itself through others? -/
theorem ring_iff (hN : Within N n) (i x : Nat) : metB (rounds N n (markAll (List.replicate n false) (N i)) n) x = true ↔ Reach N i x := by
  have hl0 : (List.replicate n false).length = n := List.length_replicate
  have hl : (markAll (List.replicate n false) (N i)).length = n := by rw [mark_len, hl0]
  have h0 : ∀ y, metB (List.replicate n false) y = false := by
    intro y
    unfold metB
    rw [List.getD_eq_getElem?_getD, List.getElem?_replicate]
    split <;> rfl
  have hm : ∀ y, metB (markAll (List.replicate n false) (N i)) y = true ↔ y ∈ N i := by
    intro y
    rw [mark_iff _ _ _ (by rw [hl0]; exact hN i), h0]
    simp
  constructor
  · exact rounds_sound hN hl (fun k x hk hx => Reach.step hk hx) (fun y hy => .one ((hm y).1 hy)) n x
  · intro h
    induction h with
    | one hx => exact rounds_le hN hl n _ ((hm _).2 hx)
    | @step k y hk hx ih =>
      have hkn : k < n := by
        cases hk with
        | one h => exact hN _ _ h
        | step _ h => exact hN _ _ h
      exact rounds_closed hN hl k hkn ih y hx
end
/- THE SEARCH: M tells how often each step was met. -/
/-- what a search from k makes of M -/
structure Along (N : Nat → List Nat) (M M' : Nat → Int) (done : List Nat) (k : Nat) : Prop where
  more : ∀ x, M x ≤ M' x
  met : ∀ x ∈ done, 0 < M' x
  new : ∀ x, M x ≤ 0 → 0 < M' x → x ∈ done ∨ ∃ y ∈ done, Reach N y x
  clos : ∀ x, M x ≤ 0 → 0 < M' x → ∀ y ∈ N x, 0 < M' y
theorem Along.nil (N : Nat → List Nat) (M : Nat → Int) (k : Nat) : Along N M M [] k := ⟨fun _ => Int.le_refl _, by simp, fun x h1 h2 => by omega, fun x h1 h2 => by omega⟩
/-- a step that was met already -/
theorem Along.old {N : Nat → List Nat} {M M1 : Nat → Int} {done : List Nat} {k n : Nat} (h : Along N M M1 done k) (hn : 0 < M1 n) : Along N M (fun x => if x = n then M1 x + 1 else M1 x) (done ++ [n]) k := by
  have he : ∀ x, (0 : Int) < (if x = n then M1 x + 1 else M1 x) ↔ 0 < M1 x := by
    intro x
    split
    · rename_i e; subst e; omega
    · exact Iff.rfl
  refine ⟨fun x => ?_, fun x hx => ?_, fun x h1 h2 => ?_, fun x h1 h2 y hy => ?_⟩
  · have := h.more x
    split <;> omega
  · rw [he]
    rcases List.mem_append.1 hx with hx | hx
    · exact h.met x hx
    · simp at hx; subst hx; exact hn
  · rw [he] at h2
    rcases h.new x h1 h2 with h3 | ⟨y, hy, h3⟩
    · exact .inl (List.mem_append_left _ h3)
    · exact .inr ⟨y, List.mem_append_left _ hy, h3⟩
  · rw [he] at h2
    rw [he]
    exact h.clos x h1 h2 y hy
/-- a new step, and the search from it -/
theorem Along.fresh {N : Nat → List Nat} {M M1 M2 : Nat → Int} {done : List Nat} {k n : Nat} (h : Along N M M1 done k) (hn : M1 n = 0) (hM : M n ≤ 0)
    (g : Along N (fun x => if x = n then M1 x + 1 else M1 x) M2 (N n) n) : Along N M M2 (done ++ [n]) k := by
  have hmore : ∀ x, M1 x ≤ M2 x := by
    intro x
    have := g.more x
    split at this <;> omega
  have hn2 : 0 < M2 n := by
    have := g.more n
    rw [if_pos rfl] at this
    omega
  refine ⟨fun x => Int.le_trans (h.more x) (hmore x), fun x hx => ?_, fun x h1 h2 => ?_, fun x h1 h2 y hy => ?_⟩
  · rcases List.mem_append.1 hx with hx | hx
    · exact Int.lt_of_lt_of_le (h.met x hx) (hmore x)
    · simp at hx; subst hx; exact hn2
  · by_cases e : x = n
    · exact .inl (by simp [e])
    · by_cases h3 : 0 < M1 x
      · rcases h.new x h1 h3 with h4 | ⟨y, hy, h4⟩
        · exact .inl (List.mem_append_left _ h4)
        · exact .inr ⟨y, List.mem_append_left _ hy, h4⟩
      · refine .inr ⟨n, by simp, ?_⟩
        rcases g.new x (by rw [if_neg e]; omega) h2 with h4 | ⟨y, hy, h4⟩
        · exact .one h4
        · exact Reach.trans (.one hy) h4
  · by_cases e : x = n
    · subst e
      exact g.met y hy
    · by_cases h3 : 0 < M1 x
      · exact Int.lt_of_lt_of_le (h.clos x h1 h3 y hy) (hmore y)
      · exact g.clos x (by rw [if_neg e]; omega) h2 y hy
/-- from nothing met: what the search from i meets is what i needs -/
theorem Along.whole {N : Nat → List Nat} {M M' : Nat → Int} {i : Nat} (h : Along N M M' (N i) i) (h0 : ∀ x, M x ≤ 0) (x : Nat) : 0 < M' x ↔ Reach N i x := by
  constructor
  · intro h1
    rcases h.new x (h0 x) h1 with h2 | ⟨y, hy, h2⟩
    · exact .one h2
    · exact Reach.trans (.one hy) h2
  · intro hr
    induction hr with
    | one hx => exact h.met _ hx
    | step _ hx ih => exact h.clos _ (h0 _) ih _ hx
end Go.Proofs.YtpmoanjeoaeabaaDoor
end

section
/- The document's ring. -/
set_option linter.unusedVariables false
set_option linter.unusedSimpArgs false
set_option linter.unnecessarySimpa false
set_option maxRecDepth 100000
namespace Go.Proofs.YtpmoanjeoaeabaaDoor
open Go.RowKit Go.ChangeShapes Go.WideShapes Go.ChangeAt
theorem info4 : (Tryd.prog.info? 4).map (fun i => (i.zero, i.size, i.bytes)) = some (some (.bool false), 1, 1) := by kernel_rfl
theorem make4 (n : Nat) (hn : n ≤ 1000000) (W : World) : (Instr.makeSlice 37 (.int .i64 (n : Int)) (.int .i64 (n : Int))).run Tryd.prog W = .ok (.slice (some ⟨W.heap.size, 0, none⟩) n n) (W.alloc (.cells (madeCells #[.bool false] n) 4)) := by
  obtain ⟨i0, hi, hz0, hz1, hz2⟩ := info_parts info4
  have := run_make (P := Tryd.prog) W 37 4 i0 (.bool false) Tryd.underlying37 hi hz0 .i64 .i64 n n (by omega) (by omega) (by rw [hz2]; omega) (by omega)
  rw [hz1, show (n : Int).toNat * 1 = n by omega] at this
  exact this
def bv (M : List Bool) : List Value := M.map Value.bool
theorem made_bv (n : Nat) : (madeCells #[.bool false] n).toList = bv (List.replicate n false) := by
  apply List.ext_getElem?
  intro i
  simp [madeCells, bv, Nat.mod_one, List.getElem?_replicate, List.getElem?_map, List.getElem?_range]
  split <;> simp_all
theorem bv_get (M : List Bool) (x : Nat) (h : x < M.length) : (bv M)[x]? = some (.bool (metB M x)) := by
  unfold bv metB
  rw [List.getElem?_map, List.getElem?_eq_getElem h, List.getD_eq_getElem?_getD, List.getElem?_eq_getElem h]
  rfl
theorem bv_set (M : List Bool) (x : Nat) : (bv M).set x (.bool true) = bv (M.set x true) := by unfold bv; rw [List.map_set]
/-- what a step needs, as places -/
def needN (d : Df) (k : Nat) : List Nat := (needsAt d k).map Int.toNat
def ringM (d : Df) (i : Nat) : List Bool := rounds (needN d) d.steps.length (markAll (List.replicate d.steps.length false) (needN d i)) d.steps.length
/-- does a step need itself through others? -/
def ringB (d : Df) (i : Nat) : Bool := metB (ringM d i) i
theorem mark_take (S : List Bool) (l : List Nat) (j : Nat) (h : j < l.length) : markAll S (l.take (j + 1)) = (markAll S (l.take j)).set (l.getD j 0) true := by
  rw [List.take_succ_eq_append_getElem h, ← List.getElem_eq_getD (h := h)]
  unfold markAll
  rw [List.foldl_append]
  rfl
/-- needs are steps -/
def NeedIn (d : Df) : Prop := ∀ k, k < d.steps.length → ∀ m ∈ needsAt d k, 0 ≤ m ∧ m < d.steps.length
theorem need_nat {d : Df} (h : NeedIn d) {k : Nat} (hk : k < d.steps.length) {j : Nat} (hj : j < (needsAt d k).length) : (needsAt d k).getD j 0 = (((needN d k).getD j 0 : Nat) : Int) ∧ (needN d k).getD j 0 < d.steps.length := by
  have hm := h k hk _ (List.getElem_mem hj)
  have e : (needN d k).getD j 0 = ((needsAt d k)[j]).toNat := by
    unfold needN
    rw [List.getD_eq_getElem?_getD, List.getElem?_map, List.getElem?_eq_getElem hj]
    rfl
  rw [e, ← List.getElem_eq_getD (h := hj)]
  omega
theorem needN_len (d : Df) (k : Nat) : (needN d k).length = (needsAt d k).length := by simp [needN]
theorem needN_in {d : Df} (h : NeedIn d) (k : Nat) : ∀ y ∈ needN d k, y < d.steps.length := by
  intro y hy
  unfold needN at hy
  rw [List.mem_map] at hy
  obtain ⟨m, hm, rfl⟩ := hy
  by_cases hk : k < d.steps.length
  · have := h k hk m hm
    omega
  · unfold needsAt at hm
    rw [List.getD_eq_getElem?_getD, List.getElem?_eq_none (by omega)] at hm
    cases hm
def nAat (d : Df) (k : Nat) : Option Addr := (d.steps.getD k ⟨.empty, 0, 0, [], [], none, 0, none, 0⟩).nA
def ncat (d : Df) (k : Nat) : Nat := (d.steps.getD k ⟨.empty, 0, 0, [], [], none, 0, none, 0⟩).nc
theorem nA_at (d : Df) (k : Nat) (h : k < d.steps.length) : d.steps[k].nA = nAat d k ∧ d.steps[k].nc = ncat d k := by
  unfold nAat ncat
  rw [← List.getElem_eq_getD (h := h)]
  exact ⟨rfl, rfl⟩
theorem need_cell {w : World} (d : Df) (hD : DefAt w d) (k : Nat) (hk : k < d.steps.length) (j : Nat) (hj : j < (needsAt d k).length) : ∃ b o, nAat d k = some ⟨b, o, none⟩ ∧ w.cell? ⟨b, o + j, none⟩ = some (.int .i64 ((needsAt d k).getD j 0)) := by
  have hE := (hD.each _ (List.getElem_mem hk)).needs
  have hn := needs_at d k hk
  obtain ⟨b, o, e, hc⟩ := need_cells hE (by rw [hn]; omega)
  refine ⟨b, o, (nA_at d k hk).1 ▸ e, ?_⟩
  have h1 := hc j (by rw [hn]; exact hj)
  rw [h1]
  have : d.steps[k].needs[j]'(by rw [hn]; exact hj) = (needsAt d k).getD j 0 := by
    rw [List.getElem_eq_getD 0, hn]
  rw [this]
def RgS (W : World) (b mb : Nat) (V : List Value) (M : List Bool) (wr : World) : Prop := Sat W wr [Blk mb 4 (bv M), Blk b 24 V, Old W]
def Rg1 (W : World) (b mb : Nat) (V : List Value) (S : List Bool) (l : List Nat) (x : Value) (wr : World) : Prop := ∃ k : Nat, k ≤ l.length ∧ x = .int .i64 k ∧ RgS W b mb V (markAll S (l.take k)) wr
def Rg2 (W : World) (b mb : Nat) (V : List Value) (N : Nat → List Nat) (n : Nat) (S : List Bool) (x : Value) (wr : World) : Prop := ∃ r : Nat, r ≤ n ∧ x = .int .i64 r ∧ RgS W b mb V (rounds N n S r) wr
def Rg3 (W : World) (b mb : Nat) (V : List Value) (N : Nat → List Nat) (n : Nat) (S : List Bool) (x : Value) (wr : World) : Prop := ∃ r : Nat, r ≤ n ∧ x = .int .i64 r ∧ RgS W b mb V (sweepTo N S r) wr
def Rg4 (W : World) (b mb : Nat) (V : List Value) (S : List Bool) (k : Nat) (l : List Nat) (x : Value) (wr : World) : Prop :=
  ∃ j : Nat, j ≤ l.length ∧ x = .int .i64 j ∧ (metB S k = false → j = 0) ∧ RgS W b mb V (markAll S (l.take j)) wr
theorem sweep_out {N : Nat → List Nat} {S : List Bool} {k : Nat} (h : metB S k = false) : sweep1 N S k = S := by unfold sweep1; rw [if_neg (by rw [h]; decide)]
theorem sweep_in {N : Nat → List Nat} {S : List Bool} {k : Nat} (h : metB S k = true) : sweep1 N S k = markAll S (N k) := by unfold sweep1; rw [if_pos h]
set_option maxHeartbeats 6400000 in
theorem rring_any {w : World} (d : Df) (i : Nat) (hD : DefAt w d) (hi : i < d.steps.length) (hn : d.steps.length ≤ 1000000) (hin : NeedIn d) (hl : ∀ k, (needsAt d k).length ≤ 1000000000000000000) :
    Calls Tryd.prog 79 #[d.v, .int .i64 i] w (Quietly w (.bool (ringB d i))) := by
  obtain ⟨g, o, hA, hc⟩ := step_cells hD (by omega)
  have HD := Lib.hid hD
  have HC : Hid (∀ w', Below w.heap.size w w' → ∀ k, k < d.steps.length → w'.cell? ⟨g, o + k * 5 + 4, none⟩ = some (.slice (nAat d k) (needN d k).length (ncat d k))) := fun w' hb k hk => by
    rw [old_cell hb (hc k hk).2.2.2.2, (nA_at d k hk).1, (nA_at d k hk).2, needs_at d k hk, needN_len]
  have HNC : Hid (∀ w', Below w.heap.size w w' → ∀ k, k < d.steps.length → ∀ j, j < (needN d k).length → ∃ b o, nAat d k = some ⟨b, o, none⟩ ∧ w'.cell? ⟨b, o + j, none⟩ = some (.int .i64 ((needN d k).getD j 0 : Nat)) ∧ (needN d k).getD j 0 < d.steps.length) := fun w' hb k hk j hj => by
    have hj' : j < (needsAt d k).length := by rw [← needN_len]; exact hj
    obtain ⟨b, o, e, h⟩ := need_cell d (hD.keep hb) k hk j hj'
    obtain ⟨h1, h2⟩ := need_nat hin hk hj'
    rw [h1] at h
    exact ⟨b, o, e, h, h2⟩
  have HIN := Lib.hid (needN_in hin)
  have HLL : Hid (∀ k, (needN d k).length ≤ 1000000000000000000) := fun k => by rw [needN_len]; exact hl k
  have hR : ringB d i = metB (rounds (needN d) d.steps.length (markAll (List.replicate d.steps.length false) (needN d i)) d.steps.length) i := rfl
  rw [hR]
  have h1 := (Sat.start w).new #[.string d.name, .slice (some ⟨g, o, none⟩) d.steps.length d.c] 24
  have h2 := h1.new (madeCells #[.bool false] d.steps.length) 4
  rw [made_bv] at h2
  have hsz : (w.alloc (.cells #[.string d.name, .slice (some ⟨g, o, none⟩) d.steps.length d.c] 24)).heap.size = w.heap.size + 1 := by simp
  rw [hsz] at h2
  obtain ⟨b, hb⟩ : ∃ b, w.heap.size = b := ⟨_, rfl⟩
  obtain ⟨n, hN⟩ : ∃ n, d.steps.length = n := ⟨_, rfl⟩
  obtain ⟨N, hNN⟩ : ∃ N, needN d = N := ⟨_, rfl⟩
  unfold Df.v Quietly
  rw [hA]
  simp only [hN, hNN] at h2 HC HNC HIN HLL hi hn ⊢
  simp only [hb] at h2
  have H2 := Lib.hid h2
  have c1 := h1.blk.cell 1
  simp only [hN, hb] at c1
  have hmk := make4 n hn
  obtain ⟨S, hS⟩ : ∃ S, S = markAll (List.replicate n false) (N i) := ⟨_, rfl⟩
  have hSl : S.length = n := by rw [hS, mark_len, List.length_replicate]
  rw [← hS]
  obtain ⟨v, hv⟩ : ∃ v, v = metB (rounds N n S n) i := ⟨_, rfl⟩
  rw [← hv]
  have HS := Lib.hid hS
  have HV := Lib.hid hv
  have HSL := Lib.hid hSl
  clear hS hv hSl
  clear hR h1 h2 hsz hc hD hA hin hl HD
  go_enter Tryd.func79, Tryd.ntmps79
  go_wp2_with fail
  try simp only [hb]
  clear c1
  go_loopw [6] (Rg1 w b (b + 1) [.string d.name, .slice (some ⟨g, o, none⟩) n d.c] (List.replicate n false) (N i)) (fun x _ => (N i).length - (intOf x).toNat)
  case atStart => exact ⟨0, Nat.zero_le _, rfl, H2.out⟩
  case round =>
    obtain ⟨k, hk, rfl, hT⟩ := hrel
    clear H2
    unfold RgS at hT
    have h9 := hT.old (List.mem_cons_of_mem _ (List.mem_cons_of_mem _ List.mem_cons_self))
    have a1 : wr.cell? ⟨b, 1, none⟩ = some (.slice (some ⟨g, o, none⟩) n d.c) := hT.r2.blk.cell 1
    have a4 := HC.out _ h9 i hi
    have hli := HLL.out i
    by_cases hlt : k < (N i).length
    · obtain ⟨b2, o2, hnA, n0, hx⟩ := HNC.out _ h9 i hi k hlt
      rw [hnA] at a4
      have hMT := mark_take (List.replicate n false) (N i) k hlt
      obtain ⟨x, hX⟩ : ∃ x, (N i).getD k 0 = x := ⟨_, rfl⟩
      rw [hX] at hx n0 hMT
      have mf := hT.blk.free x
      have mc := hT.blk.cell x
      rw [bv_get _ _ (by rw [mark_len, List.length_replicate]; exact hx)] at mc
      have hT2 := hT.set x (.bool true)
      rw [bv_set, ← hMT] at hT2
      have HT2 := Lib.hid hT2
      have i0 : (0 : Int) ≤ (x : Int) := by omega
      have i1 : (x : Int) < (n : Int) := by omega
      clear hT hT2 h9 hMT hX
      go_wp2_with fail
      go_roundw
      case rel => exact ⟨k + 1, by omega, by go_num, HT2.out⟩
      case measure => simp [intOf]; omega
    · have hk2 : k = (N i).length := by omega
      have hT2 : RgS w b (b + 1) [.string d.name, .slice (some ⟨g, o, none⟩) n d.c] S wr := by rw [hk2, List.take_length, ← HS.out] at hT; exact hT
      have HT2 := Lib.hid hT2
      clear hT hT2 h9 HS
      go_wp2_with fail
      go_loopw [7] (Rg2 w b (b + 1) [.string d.name, .slice (some ⟨g, o, none⟩) n d.c] N n S) (fun x _ => n - (intOf x).toNat)
      case atStart => exact ⟨0, Nat.zero_le _, rfl, HT2.out⟩
      case round =>
        obtain ⟨r, hr, rfl, hT⟩ := hrel
        clear HT2 a1 a4 hli hlt hk hk2
        unfold RgS at hT
        have a1 : wr.cell? ⟨b, 1, none⟩ = some (.slice (some ⟨g, o, none⟩) n d.c) := hT.r2.blk.cell 1
        by_cases hlt : r < n
        · have HRR : Hid (rounds N n S (r + 1) = sweepTo N (rounds N n S r) n) := rfl
          have HRL : Hid ((rounds N n S r).length = n) := by show _ = _; rw [rounds_len]; exact HSL.out
          have HT := Lib.hid hT
          obtain ⟨S2, hS2⟩ : ∃ S2, rounds N n S r = S2 := ⟨_, rfl⟩
          rw [hS2] at HRR HRL HT
          clear hS2 hT
          go_wp2_with fail
          go_loopw [8] (Rg3 w b (b + 1) [.string d.name, .slice (some ⟨g, o, none⟩) n d.c] N n S2) (fun x _ => n - (intOf x).toNat)
          case atStart => exact ⟨0, Nat.zero_le _, rfl, HT.out⟩
          case round =>
            obtain ⟨k, hk, rfl, hT⟩ := hrel
            clear HT a1
            unfold RgS at hT
            have a1 : wr.cell? ⟨b, 1, none⟩ = some (.slice (some ⟨g, o, none⟩) n d.c) := hT.r2.blk.cell 1
            by_cases hlk : k < n
            · have HRS : Hid (sweepTo N S2 (k + 1) = sweep1 N (sweepTo N S2 k) k) := rfl
              have HSK : Hid ((sweepTo N S2 k).length = n) := by show _ = _; rw [sweepTo_len]; exact HRL.out
              have HT := Lib.hid hT
              obtain ⟨S3, hS3⟩ : ∃ S3, sweepTo N S2 k = S3 := ⟨_, rfl⟩
              rw [hS3] at HRS HSK HT
              clear hS3 hT
              go_wp2_with fail
              go_loopw [9] (Rg4 w b (b + 1) [.string d.name, .slice (some ⟨g, o, none⟩) n d.c] S3 k (N k)) (fun x _ => (N k).length - (intOf x).toNat)
              case atStart => exact ⟨0, Nat.zero_le _, rfl, fun _ => rfl, HT.out⟩
              case round =>
                obtain ⟨j, hj, rfl, hj0, hT⟩ := hrel
                clear HT a1
                unfold RgS at hT
                have a1 : wr.cell? ⟨b, 1, none⟩ = some (.slice (some ⟨g, o, none⟩) n d.c) := hT.r2.blk.cell 1
                have h9 := hT.old (List.mem_cons_of_mem _ (List.mem_cons_of_mem _ List.mem_cons_self))
                have a4 := HC.out _ h9 k hlk
                have hlk2 := HLL.out k
                have mk := hT.blk.cell k
                rw [bv_get _ _ (by rw [mark_len, HSK.out]; exact hlk)] at mk
                have hmono : metB S3 k = true → metB (markAll S3 ((N k).take j)) k = true := fun h => (mark_iff _ _ _ (fun y hy => by rw [HSK.out]; exact HIN.out k y (List.mem_of_mem_take hy))).2 (.inl h)
                have hout : metB S3 k = false → markAll S3 ((N k).take j) = S3 := fun h => by rw [hj0 h]; rfl
                have HIC : Hid ((k : Int) < (n : Int) ∧ (0 : Int) ≤ (k : Int)) := ⟨by omega, by omega⟩
                obtain ⟨i0, i1⟩ := HIC.out
                by_cases hlj : j < (N k).length
                · cases hm : metB S3 k with
                  | true =>
                    rw [hmono hm] at mk
                    obtain ⟨b2, o2, hnA, n0, hx⟩ := HNC.out _ h9 k hlk j hlj
                    rw [hnA] at a4
                    have hMT := mark_take S3 (N k) j hlj
                    obtain ⟨x, hX⟩ : ∃ x, (N k).getD j 0 = x := ⟨_, rfl⟩
                    rw [hX] at hx n0 hMT
                    have mf := hT.blk.free x
                    have mc := hT.blk.cell x
                    rw [bv_get _ _ (by rw [mark_len, HSK.out]; exact hx)] at mc
                    have hT2 := hT.set x (.bool true)
                    rw [bv_set, ← hMT] at hT2
                    have HT2 := Lib.hid hT2
                    have i2 : (0 : Int) ≤ (x : Int) := by omega
                    have i3 : (x : Int) < (n : Int) := by omega
                    have HM := Lib.hid hm
                    clear hT hT2 h9 hMT hX hj0 hmono hout hm
                    go_wp2_with fail
                    go_roundw
                    case rel => exact ⟨j + 1, by omega, by go_num, fun h => absurd (HM.out.symm.trans h) (by decide), HT2.out⟩
                    case measure => simp [intOf]; omega
                  | false =>
                    have hT2 := hT
                    rw [hout hm, ← sweep_out (N := N) hm, ← HRS.out] at hT2
                    rw [hout hm, hm] at mk
                    have HT2 := Lib.hid hT2
                    clear hT hT2 h9 hj0 hmono hout hm
                    go_wp2_with fail
                    go_roundw
                    case rel => exact ⟨k + 1, by omega, by go_num, HT2.out⟩
                    case measure => simp [intOf]; omega
                · have hjl : j = (N k).length := by omega
                  have hT2 : Sat w wr (Blk (b + 1) 4 (bv (sweepTo N S2 (k + 1))) :: [Blk b 24 [.string d.name, .slice (some ⟨g, o, none⟩) n d.c], Old w]) := by
                    rw [HRS.out]
                    cases hm : metB S3 k with
                    | true => rw [sweep_in hm]; rw [hjl, List.take_length] at hT; exact hT
                    | false => rw [sweep_out hm]; rw [hout hm] at hT; exact hT
                  have HT2 := Lib.hid hT2
                  clear hT hT2 h9 hj0 hmono hout mk
                  go_wp2_with fail
                  go_roundw
                  case rel => exact ⟨k + 1, by omega, by go_num, HT2.out⟩
                  case measure => simp [intOf]; omega
            · have hkn : k = n := by omega
              have hT2 := hT
              rw [hkn, ← HRR.out] at hT2
              have HT2 := Lib.hid hT2
              clear hT hT2 hk
              go_wp2_with fail
              go_roundw
              case rel => exact ⟨r + 1, by omega, by go_num, HT2.out⟩
              case measure => simp [intOf]; omega
        · have hrn : r = n := by omega
          have hT2 := hT
          rw [hrn] at hT2
          have m0 := hT2.blk.cell i
          rw [bv_get _ _ (by rw [rounds_len, HSL.out]; exact hi), ← HV.out] at m0
          have i0 : (0 : Int) ≤ (i : Int) := by omega
          have i1 : (i : Int) < (n : Int) := by omega
          have h9 := hT2.old (List.mem_cons_of_mem _ (List.mem_cons_of_mem _ List.mem_cons_self))
          have H9 := Lib.hid h9
          clear hT hT2 hr hrn h9
          go_wp2_with fail
          go_ret
          exact ⟨rfl, by have h9 := H9.out; first | exact h9 | (rw [hb] at h9; exact h9)⟩
end Go.Proofs.YtpmoanjeoaeabaaDoor
end

section
/- The document's loose. -/
set_option linter.unusedVariables false
set_option linter.unusedSimpArgs false
set_option linter.unnecessarySimpa false
set_option maxRecDepth 100000
namespace Go.Proofs.YtpmoanjeoaeabaaDoor
open Go.RowKit Go.ChangeShapes Go.WideShapes Go.ChangeAt
open Classical in noncomputable def foundTo (d : Df) (key : ByteArray) (j : Nat) : Bool := decide (∃ q, q < j ∧ kindAt d q ≠ 3 ∧ key ∈ keysAt d q)
open Classical in noncomputable def foundIn (d : Df) (key : ByteArray) (j m : Nat) : Bool := foundTo d key j || (decide (kindAt d j ≠ 3) && decide (key ∈ (keysAt d j).take m))
open Classical in /-- has a step that is not retriable this key? -/ noncomputable def heldB (d : Df) (key : ByteArray) : Bool := foundTo d key d.steps.length
open Classical in /-- has a retriable step a key that no other kind of step has? -/ noncomputable def looseB (d : Df) (i : Nat) : Bool := decide (kindAt d i = 3 ∧ ∃ key ∈ keysAt d i, heldB d key = false)
open Classical in
theorem foundIn_zero (d : Df) (key : ByteArray) (j : Nat) : foundIn d key j 0 = foundTo d key j := by simp [foundIn]
open Classical in
theorem foundIn_next {d : Df} {key : ByteArray} {j m : Nat} (hk : kindAt d j ≠ 3) (hm : m < (keysAt d j).length) : foundIn d key j (m + 1) = (foundIn d key j m || decide (keyAt (keysAt d j) m = key)) := by
  unfold foundIn keyAt
  rw [List.take_succ_eq_append_getElem hm, ← List.getElem_eq_getD (h := hm), decide_eq_true hk, Bool.true_and, Bool.true_and, Bool.or_assoc]
  congr 1
  by_cases h1 : key ∈ (keysAt d j).take m
  · rw [decide_eq_true h1, decide_eq_true (List.mem_append_left _ h1)]; rfl
  · rw [decide_eq_false h1, Bool.false_or]
    by_cases h2 : (keysAt d j)[m] = key
    · rw [decide_eq_true h2]
      exact decide_eq_true (List.mem_append_right _ (by simp [h2]))
    · rw [decide_eq_false h2]
      refine decide_eq_false fun g => ?_
      rcases List.mem_append.1 g with g | g
      · exact h1 g
      · simp at g; exact h2 g.symm
open Classical in
theorem foundIn_all {d : Df} {key : ByteArray} {j m : Nat} (h : kindAt d j = 3 ∨ (keysAt d j).length ≤ m) : foundIn d key j m = foundTo d key (j + 1) := by
  unfold foundIn foundTo
  by_cases h1 : ∃ q, q < j ∧ kindAt d q ≠ 3 ∧ key ∈ keysAt d q
  · rw [decide_eq_true h1, Bool.true_or]
    obtain ⟨q, a, b, c⟩ := h1
    exact (decide_eq_true ⟨q, by omega, b, c⟩).symm
  · rw [decide_eq_false h1, Bool.false_or]
    rcases h with h | h
    · rw [decide_eq_false (by simpa using h), Bool.false_and]
      refine (decide_eq_false ?_).symm
      rintro ⟨q, a, b, c⟩
      by_cases e : q = j
      · subst e; exact b h
      · exact h1 ⟨q, by omega, b, c⟩
    · rw [List.take_of_length_le h]
      by_cases h2 : kindAt d j ≠ 3 ∧ key ∈ keysAt d j
      · rw [decide_eq_true h2.1, decide_eq_true h2.2]
        exact (decide_eq_true ⟨j, by omega, h2⟩).symm
      · have : (decide (kindAt d j ≠ 3) && decide (key ∈ keysAt d j)) = false := by
          rw [Bool.and_eq_false_iff]
          by_cases h3 : kindAt d j ≠ 3
          · exact .inr (decide_eq_false fun g => h2 ⟨h3, g⟩)
          · exact .inl (decide_eq_false h3)
        rw [this]
        refine (decide_eq_false ?_).symm
        rintro ⟨q, a, b⟩
        by_cases e : q = j
        · subst e; exact h2 b
        · exact h1 ⟨q, by omega, b⟩
def kAat (d : Df) (k : Nat) : Option Addr := (d.steps.getD k ⟨.empty, 0, 0, [], [], none, 0, none, 0⟩).kA
def kcat (d : Df) (k : Nat) : Nat := (d.steps.getD k ⟨.empty, 0, 0, [], [], none, 0, none, 0⟩).kc
theorem kA_at (d : Df) (k : Nat) (h : k < d.steps.length) : d.steps[k].kA = kAat d k ∧ d.steps[k].kc = kcat d k := by
  unfold kAat kcat
  rw [← List.getElem_eq_getD (h := h)]
  exact ⟨rfl, rfl⟩
theorem key_cell {w : World} (d : Df) (hD : DefAt w d) (k : Nat) (hk : k < d.steps.length) (j : Nat) (hj : j < (keysAt d k).length) : ∃ b o, kAat d k = some ⟨b, o, none⟩ ∧ w.cell? ⟨b, o + j, none⟩ = some (.string (keyAt (keysAt d k) j)) := by
  have hE := (hD.each _ (List.getElem_mem hk)).keys
  have hn := keys_at d k hk
  obtain ⟨b, o, e, hc⟩ := key_cells hE (by rw [hn]; omega)
  refine ⟨b, o, (kA_at d k hk).1 ▸ e, ?_⟩
  have h1 := hc j (by rw [hn]; exact hj)
  rw [h1]
  have : d.steps[k].keys[j]'(by rw [hn]; exact hj) = keyAt (keysAt d k) j := by
    unfold keyAt
    rw [List.getElem_eq_getD .empty, hn]
  rw [this]
def Lo1 (W : World) (b : Nat) (V : List Value) (d : Df) (i : Nat) (x : Value) (wr : World) : Prop :=
  ∃ k : Nat, k ≤ (keysAt d i).length ∧ x = .int .i64 k ∧ Sat W wr [Blk b 24 V, Old W] ∧ (k = 0 ∨ kindAt d i = 3) ∧ ∀ j, j < k → heldB d (keyAt (keysAt d i) j) = true
def Lo2 (W : World) (b : Nat) (V : List Value) (d : Df) (key : ByteArray) (f x : Value) (wr : World) : Prop :=
  ∃ j : Nat, j ≤ d.steps.length ∧ x = .int .i64 j ∧ f = .bool (foundTo d key j) ∧ Sat W wr [Blk b 24 V, Old W]
def Lo3 (W : World) (b : Nat) (V : List Value) (d : Df) (key : ByteArray) (j : Nat) (f x : Value) (wr : World) : Prop :=
  ∃ m : Nat, m ≤ (keysAt d j).length ∧ x = .int .i64 m ∧ f = .bool (foundIn d key j m) ∧ Sat W wr [Blk b 24 V, Old W]
open Classical in
theorem loose_no {d : Df} {i : Nat} (h : kindAt d i = 3 → ∀ j, j < (keysAt d i).length → heldB d (keyAt (keysAt d i) j) = true) : looseB d i = false := by
  refine decide_eq_false ?_
  rintro ⟨h3, key, hm, hf⟩
  obtain ⟨j, hj, rfl⟩ := List.getElem_of_mem hm
  have := h h3 j hj
  unfold keyAt at this
  rw [← List.getElem_eq_getD (h := hj), hf] at this
  cases this
open Classical in
theorem loose_yes {d : Df} {i k : Nat} (h3 : kindAt d i = 3) (hk : k < (keysAt d i).length) (h : heldB d (keyAt (keysAt d i) k) = false) : looseB d i = true := by
  refine decide_eq_true ⟨h3, _, List.getElem_mem hk, ?_⟩
  unfold keyAt at h
  rwa [← List.getElem_eq_getD (h := hk)] at h
set_option maxHeartbeats 6400000 in
theorem rloose_any {w : World} (d : Df) (i : Nat) (hD : DefAt w d) (hi : i < d.steps.length) (hn : d.steps.length ≤ 1000000) (hl : ∀ k, (keysAt d k).length ≤ 1000000000000000000) :
    Calls Tryd.prog 80 #[d.v, .int .i64 i] w (Quietly w (.bool (looseB d i))) := by
  obtain ⟨g, o, hA, hc⟩ := step_cells hD (by omega)
  have HC3 : Hid (∀ w', Below w.heap.size w w' → ∀ k, k < d.steps.length → w'.cell? ⟨g, o + k * 5 + 3, none⟩ = some (.slice (kAat d k) (keysAt d k).length (kcat d k))) := fun w' hb k hk => by
    rw [old_cell hb (hc k hk).2.2.2.1, (kA_at d k hk).1, (kA_at d k hk).2, keys_at d k hk]
  have HC1 : Hid (∀ w', Below w.heap.size w w' → ∀ k, k < d.steps.length → w'.cell? ⟨g, o + k * 5 + 1, none⟩ = some (.int .i64 (kindAt d k))) := fun w' hb k hk => by
    rw [← kind_at d k hk]
    exact old_cell hb (hc k hk).2.1
  have HKC : Hid (∀ w', Below w.heap.size w w' → ∀ k, k < d.steps.length → ∀ j, j < (keysAt d k).length → ∃ b o, kAat d k = some ⟨b, o, none⟩ ∧ w'.cell? ⟨b, o + j, none⟩ = some (.string (keyAt (keysAt d k) j))) := fun w' hb k hk j hj => key_cell d (hD.keep hb) k hk j hj
  have HLL := Lib.hid hl
  have h1 := (Sat.start w).new #[.string d.name, .slice (some ⟨g, o, none⟩) d.steps.length d.c] 24
  obtain ⟨b, hb⟩ : ∃ b, w.heap.size = b := ⟨_, rfl⟩
  have HNN : Hid (∀ key, heldB d key = foundTo d key d.steps.length) := fun _ => rfl
  obtain ⟨v, hv⟩ : ∃ v, v = looseB d i := ⟨_, rfl⟩
  rw [← hv]
  have HV := Lib.hid hv
  obtain ⟨R2, hR2⟩ : ∃ R2, R2 = Lo2 w b [.string d.name, .slice (some ⟨g, o, none⟩) d.steps.length d.c] d := ⟨_, rfl⟩
  have HO2 : Hid (∀ key f x wr, R2 key f x wr ↔ ∃ j : Nat, j ≤ d.steps.length ∧ x = .int .i64 j ∧ f = .bool (foundTo d key j) ∧ Sat w wr [Blk b 24 [.string d.name, .slice (some ⟨g, o, none⟩) d.steps.length d.c], Old w]) := fun key f x wr => by rw [hR2]; exact Iff.rfl
  obtain ⟨n, hN⟩ : ∃ n, d.steps.length = n := ⟨_, rfl⟩
  unfold Df.v Quietly
  rw [hA]
  simp only [hN] at h1 HC1 HC3 HKC HNN HO2 hi hn ⊢
  rw [hb] at h1
  have H1 := Lib.hid h1
  clear h1 hc hD hA hl hN hR2 hv
  go_enter Tryd.func80, Tryd.ntmps80
  go_wp2_with fail
  try simp only [hb]
  go_loopw [5] (Lo1 w b [.string d.name, .slice (some ⟨g, o, none⟩) n d.c] d i) (fun x _ => (keysAt d i).length - (intOf x).toNat)
  case atStart => exact ⟨0, Nat.zero_le _, rfl, H1.out, .inl rfl, fun j hj => by omega⟩
  case round =>
    obtain ⟨k, hk, rfl, hT, hkd, hok⟩ := hrel
    clear H1
    have h9 := hT.old (List.mem_cons_of_mem _ List.mem_cons_self)
    have a1 : wr.cell? ⟨b, 1, none⟩ = some (.slice (some ⟨g, o, none⟩) n d.c) := hT.blk.cell 1
    have c3 := HC3.out _ h9 i hi
    have c1 := HC1.out _ h9 i hi
    have hli := HLL.out i
    have i0 : (0 : Int) ≤ (i : Int) := by omega
    have i1 : (i : Int) < (n : Int) := by omega
    by_cases hlt : k < (keysAt d i).length
    · by_cases h3 : kindAt d i = 3
      · have t3 : (kindAt d i == 3) = true := by rw [beq_iff_eq]; exact h3
        have HT := Lib.hid hT
        have HOK := Lib.hid hok
        have HLY := Lib.hid (fun h => loose_yes (d := d) h3 hlt h)
        have H3 := Lib.hid h3
        obtain ⟨ki, hki⟩ : ∃ x, kindAt d i = x := ⟨_, rfl⟩
        obtain ⟨key, hkey⟩ : ∃ x, keyAt (keysAt d i) k = x := ⟨_, rfl⟩
        rw [hki] at c1 t3
        rw [hkey] at HLY
        have HKEY := Lib.hid hkey
        clear hT hok h9 h3 hkd hki hkey
        go_wp2_with fail
        go_loopw [6, 7] (R2 key) (fun _ x _ => n - (intOf x).toNat)
        case atStart => exact (HO2.out _ _ _ _).2 ⟨0, Nat.zero_le _, rfl, by simp [foundTo], HT.out⟩
        case round =>
          obtain ⟨j, hj, rfl, rfl, hT⟩ := (HO2.out _ _ _ _).1 hrel
          clear HT a1 c3 c1 t3
          have h9 := hT.old (List.mem_cons_of_mem _ List.mem_cons_self)
          have a1 : wr.cell? ⟨b, 1, none⟩ = some (.slice (some ⟨g, o, none⟩) n d.c) := hT.blk.cell 1
          by_cases hlj : j < n
          · have HT := Lib.hid hT
            have HZ := Lib.hid (foundIn_zero d key j)
            obtain ⟨fv, hfv⟩ : ∃ x, foundTo d key j = x := ⟨_, rfl⟩
            rw [hfv] at HZ ⊢
            clear hT h9 hfv
            go_wp2_with fail
            go_loopw [6, 8] (Lo3 w b [.string d.name, .slice (some ⟨g, o, none⟩) n d.c] d key j) (fun _ x _ => (keysAt d j).length - (intOf x).toNat)
            case atStart => exact ⟨0, Nat.zero_le _, rfl, by rw [HZ.out], HT.out⟩
            case round =>
              obtain ⟨m, hm, rfl, rfl, hT⟩ := hrel
              clear HT a1 HZ
              have h9 := hT.old (List.mem_cons_of_mem _ List.mem_cons_self)
              have a1 : wr.cell? ⟨b, 1, none⟩ = some (.slice (some ⟨g, o, none⟩) n d.c) := hT.blk.cell 1
              have c3 := HC3.out _ h9 j hlj
              have c1 := HC1.out _ h9 j hlj
              have hlj2 := HLL.out j
              have i2 : (0 : Int) ≤ (j : Int) := by omega
              have i3 : (j : Int) < (n : Int) := by omega
              by_cases h5 : kindAt d j = 3
              · have t5 : (kindAt d j != 3) = false := by rw [h5]; rfl
                have HF := Lib.hid (foundIn_all (key := key) (m := m) (.inl h5))
                have HT := Lib.hid hT
                obtain ⟨kj, hkj⟩ : ∃ x, kindAt d j = x := ⟨_, rfl⟩
                obtain ⟨fm, hfm⟩ : ∃ x, foundIn d key j m = x := ⟨_, rfl⟩
                rw [hkj] at c1 t5
                rw [hfm] at HF ⊢
                clear hT h9 h5 hkj hfm
                by_cases hlm : m < (keysAt d j).length
                · go_wp2_with fail
                  go_roundw
                  case rel => exact (HO2.out _ _ _ _).2 ⟨j + 1, by omega, by go_num, by rw [HF.out], HT.out⟩
                  case measure => simp [intOf]; omega
                · go_wp2_with fail
                  go_roundw
                  case rel => exact (HO2.out _ _ _ _).2 ⟨j + 1, by omega, by go_num, by rw [HF.out], HT.out⟩
                  case measure => simp [intOf]; omega
              · have t5 : (kindAt d j != 3) = true := by rw [bne_iff_ne]; exact h5
                by_cases hlm : m < (keysAt d j).length
                · have HF := Lib.hid (foundIn_next (key := key) h5 hlm)
                  have HT := Lib.hid hT
                  obtain ⟨b2, o2, hkA, x0⟩ := HKC.out _ h9 j hlj m hlm
                  obtain ⟨b3, o3, hkA2, x1⟩ := HKC.out _ h9 i hi k hlt
                  have d3 := HC3.out _ h9 i hi
                  rw [hkA] at c3
                  rw [hkA2] at d3
                  rw [HKEY.out] at x1
                  obtain ⟨kj, hkj⟩ : ∃ x, kindAt d j = x := ⟨_, rfl⟩
                  obtain ⟨fm, hfm⟩ : ∃ x, foundIn d key j m = x := ⟨_, rfl⟩
                  obtain ⟨y, hy⟩ : ∃ x, keyAt (keysAt d j) m = x := ⟨_, rfl⟩
                  rw [hkj] at c1 t5
                  rw [hfm, hy] at HF
                  rw [hfm]
                  rw [hy] at x0
                  have ts := str_dec y key
                  obtain ⟨eq, heq⟩ : ∃ x, decide (y = key) = x := ⟨_, rfl⟩
                  rw [heq] at ts HF
                  clear hT h9 h5 hkj hfm hy heq
                  cases fm with
                  | true =>
                    rw [Bool.true_or] at HF
                    go_wp2_with fail
                    go_quiet (fail)
                    go_wp2_with fail
                    go_roundw
                    case rel => exact ⟨m + 1, by omega, by go_num, by rw [HF.out], HT.out.drewN _⟩
                    case measure => simp [intOf]; omega
                  | false =>
                    rw [Bool.false_or] at HF
                    go_wp2_with fail
                    go_quiet (fail)
                    go_wp2_with fail
                    go_roundw
                    case rel => exact ⟨m + 1, by omega, by go_num, by rw [HF.out], HT.out.drewN _⟩
                    case measure => simp [intOf]; omega
                · have HF := Lib.hid (foundIn_all (d := d) (key := key) (j := j) (m := m) (.inr (by omega)))
                  have HT := Lib.hid hT
                  obtain ⟨fm, hfm⟩ : ∃ x, foundIn d key j m = x := ⟨_, rfl⟩
                  obtain ⟨kj, hkj⟩ : ∃ x, kindAt d j = x := ⟨_, rfl⟩
                  rw [hkj] at c1 t5
                  rw [hfm] at HF ⊢
                  clear hT h9 hfm hkj h5
                  go_wp2_with fail
                  go_roundw
                  case rel => exact (HO2.out _ _ _ _).2 ⟨j + 1, by omega, by go_num, by rw [HF.out], HT.out⟩
                  case measure => simp [intOf]; omega
          · have hjn : j = n := by omega
            have HT := Lib.hid hT
            have H9 := Lib.hid h9
            have HH := HNN.out key
            rw [← hjn] at HH
            rw [HH] at HLY
            obtain ⟨fv, hfv⟩ : ∃ x, foundTo d key j = x := ⟨_, rfl⟩
            rw [hfv] at HLY HH
            have HH2 := Lib.hid HH
            rw [hfv]
            clear hT h9 hfv HH hjn
            cases fv with
            | true =>
              have HS : Hid (∀ j, j < k + 1 → heldB d (keyAt (keysAt d i) j) = true) := fun j hj => by
                by_cases e : j = k
                · subst e; rw [HKEY.out]; exact HH2.out
                · exact HOK.out j (by omega)
              go_wp2_with fail
              go_roundw
              case rel => exact ⟨k + 1, by omega, by go_num, HT.out, .inr H3.out, HS.out⟩
              case measure => simp [intOf]; omega
            | false =>
              have e := HLY.out rfl
              go_wp2_with fail
              go_ret
              exact ⟨by rw [HV.out, e]; rfl, by have h9 := H9.out; first | exact h9 | (rw [hb] at h9; exact h9)⟩
      · have t3 : (kindAt d i == 3) = false := by rw [beq_eq_false_iff_ne]; exact h3
        have e : looseB d i = false := loose_no fun h => absurd h h3
        have H9 := Lib.hid h9
        obtain ⟨ki, hki⟩ : ∃ x, kindAt d i = x := ⟨_, rfl⟩
        rw [hki] at c1 t3
        clear hT hok h9 h3 hkd hki
        go_wp2_with fail
        go_ret
        exact ⟨by rw [HV.out, e]; rfl, by have h9 := H9.out; first | exact h9 | (rw [hb] at h9; exact h9)⟩
    · have e : looseB d i = false := loose_no fun _ j hj => hok j (by omega)
      have H9 := Lib.hid h9
      clear hT hok h9 hkd
      go_wp2_with fail
      go_ret
      exact ⟨by rw [HV.out, e]; rfl, by have h9 := H9.out; first | exact h9 | (rw [hb] at h9; exact h9)⟩
end Go.Proofs.YtpmoanjeoaeabaaDoor
end
