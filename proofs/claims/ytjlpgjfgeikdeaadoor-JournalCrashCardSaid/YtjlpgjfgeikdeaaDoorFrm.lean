/- The plain mathematics of frames: what a frame is, how frames are scanned, and the laws of both. -/
import Derived.Test.YtjlpgjfgeikdeaaDoorMath
namespace FrM
def low (n k : Nat) : List Nat := (List.range k).map fun i => n / 2 ^ (8 * i) % 256
def sumOf (l : List Nat) : Nat := CrcM.ext 0 l
def wrap (r : List Nat) : List Nat := 167 :: (low r.length 3 ++ (low (sumOf (low r.length 3 ++ r)) 4 ++ r))
def numOf (l : List Nat) : Nat := l.getD 1 0 + 256 * l.getD 2 0 + 65536 * l.getD 3 0
def good (l : List Nat) (n : Nat) : Prop := 8 ≤ l.length ∧ l.getD 0 0 = 167 ∧ n = numOf l ∧ n ≤ 200000 ∧ n ≤ l.length - 8 ∧ low (sumOf ((l.drop 1).take 3 ++ (l.drop 8).take n)) 4 = (l.drop 4).take 4
instance (l : List Nat) (n : Nat) : Decidable (good l n) := by unfold good; infer_instance
def size (l : List Nat) : Nat := if good l (numOf l) then numOf l + 8 else 0
def scan : Nat → List Nat → List (List Nat) × Nat
  | 0, _ => ([], 0)
  | f + 1, l => if size l = 0 then ([], 0) else (((l.drop 8).take (size l - 8)) :: (scan f (l.drop (size l))).1, size l + (scan f (l.drop (size l))).2)
def scanL (l : List Nat) : List (List Nat) × Nat := scan l.length l
theorem low_length (n k : Nat) : (low n k).length = k := by simp [low]
theorem low_lt (n k : Nat) : ∀ x ∈ low n k, x < 256 := by
  intro x hx; unfold low at hx; obtain ⟨i, _, rfl⟩ := List.mem_map.1 hx; exact Nat.mod_lt _ (by decide)
theorem low3 (n : Nat) : low n 3 = [n % 256, n / 256 % 256, n / 65536 % 256] := by
  have : List.range 3 = [0, 1, 2] := rfl
  simp [low, this]
theorem low4 (n : Nat) : low n 4 = [n % 256, n / 256 % 256, n / 65536 % 256, n / 16777216 % 256] := by
  have : List.range 4 = [0, 1, 2, 3] := rfl
  simp [low, this]
theorem low4_inj {a b : Nat} (ha : a < 4294967296) (hb : b < 4294967296) (h : low a 4 = low b 4) : a = b := by
  rw [low4, low4] at h; simp at h; omega
theorem size_pos {l : List Nat} (h : size l ≠ 0) : good l (numOf l) ∧ size l = numOf l + 8 := by
  unfold size at h ⊢; split at h
  · rename_i hg; exact ⟨hg, if_pos hg⟩
  · exact absurd rfl h
theorem size_of {l : List Nat} {n : Nat} (h : good l n) : size l = n + 8 := by
  have e := h.2.2.1; subst e; exact if_pos h
theorem size_le (l : List Nat) : size l ≤ l.length := by
  by_cases h : size l = 0
  · omega
  · obtain ⟨⟨h1, _, _, _, h5, _⟩, h2⟩ := size_pos h; omega
theorem size_ge {l : List Nat} (h : size l ≠ 0) : 8 ≤ size l := by have := (size_pos h).2; omega
theorem scan_more (f : Nat) : ∀ (g : Nat) (l : List Nat), l.length ≤ f → l.length ≤ g → scan f l = scan g l := by
  induction f with
  | zero =>
    intro g l h _
    have hs : size l = 0 := by have := size_le l; omega
    cases g with
    | zero => rfl
    | succ g => simp [scan, hs]
  | succ f ih =>
    intro g l h hg
    cases g with
    | zero =>
      have hs : size l = 0 := by have := size_le l; omega
      simp [scan, hs]
    | succ g =>
      by_cases hs : size l = 0
      · simp [scan, hs]
      · have h1 := size_ge hs
        have h2 := size_le l
        have := ih g (l.drop (size l)) (by rw [List.length_drop]; omega) (by rw [List.length_drop]; omega)
        simp only [scan, if_neg hs, this]
theorem scanL_none {l : List Nat} (h : size l = 0) : scanL l = ([], 0) := by
  unfold scanL; cases hl : l.length with
  | zero => rfl
  | succ n => simp [scan, h]
theorem scanL_step {l : List Nat} (h : size l ≠ 0) : scanL l = (((l.drop 8).take (size l - 8)) :: (scanL (l.drop (size l))).1, size l + (scanL (l.drop (size l))).2) := by
  have h1 := size_ge h
  have h2 := size_le l
  unfold scanL
  obtain ⟨n, hn⟩ : ∃ n, l.length = n + 1 := ⟨l.length - 1, by omega⟩
  have h3 : n + 1 - size l ≤ n := by omega
  rw [scan_more (l.drop (size l)).length n (l.drop (size l)) (Nat.le_refl _) (by rw [List.length_drop]; omega), hn]
  simp only [scan, if_neg h]
theorem size_nil : size [] = 0 := by have := size_le []; simpa using this
/-- a frame, and more behind it -/
theorem size_wrap (r rest : List Nat) (h : r.length ≤ 200000) : size (wrap r ++ rest) = r.length + 8 := by
  apply size_of
  unfold wrap
  rw [low3, low4]
  refine ⟨by simp, rfl, ?_, h, by simp, ?_⟩
  · simp [numOf]; omega
  · rw [low4]
    simp [List.take_append]
theorem drop_wrap (r rest : List Nat) : (wrap r ++ rest).drop (r.length + 8) = rest := by
  unfold wrap
  rw [List.drop_append_of_le_length (by simp [low_length]; omega)]
  simp [low_length]
  omega
theorem rec_wrap (r rest : List Nat) : ((wrap r ++ rest).drop 8).take r.length = r := by
  unfold wrap; rw [low3, low4]; simp
theorem wrap_length (r : List Nat) : (wrap r).length = r.length + 8 := by unfold wrap; simp [low_length]; omega
theorem scan_wrap (r rest : List Nat) (h : r.length ≤ 200000) : scanL (wrap r ++ rest) = (r :: (scanL rest).1, r.length + 8 + (scanL rest).2) := by
  have hs := size_wrap r rest h
  rw [scanL_step (by rw [hs]; omega), hs, drop_wrap, show r.length + 8 - 8 = r.length by omega, rec_wrap]
/-- all frames of a list, and more behind them -/
def wraps : List (List Nat) → List Nat
  | [] => []
  | r :: l => wrap r ++ wraps l
theorem wraps_append (a b : List (List Nat)) : wraps (a ++ b) = wraps a ++ wraps b := by
  induction a with
  | nil => rfl
  | cons r a ih => simp [wraps, ih]
theorem scan_wraps (l : List (List Nat)) (rest : List Nat) (h : ∀ r ∈ l, r.length ≤ 200000) : scanL (wraps l ++ rest) = (l ++ (scanL rest).1, (wraps l).length + (scanL rest).2) := by
  induction l with
  | nil => simp [wraps]
  | cons r l ih =>
    have ih := ih fun x hx => h x (by simp [hx])
    simp only [wraps, List.append_assoc]
    rw [scan_wrap r _ (h r (by simp)), ih]
    simp [wrap_length]; omega
theorem scan_wraps' (l : List (List Nat)) (h : ∀ r ∈ l, r.length ≤ 200000) : scanL (wraps l) = (l, (wraps l).length) := by
  have := scan_wraps l [] h
  rw [scanL_none size_nil] at this
  simpa using this
/-- a frame that was cut -/
theorem size_cut (r : List Nat) (h : r.length ≤ 200000) (k : Nat) (hk : 0 < k) (hk2 : k ≤ r.length + 8) : size ((wrap r).take (r.length + 8 - k)) = 0 := by
  apply Classical.byContradiction
  intro hs
  obtain ⟨⟨h1, h2, h3, h4, h5, h6⟩, h7⟩ := size_pos hs
  have hl : ((wrap r).take (r.length + 8 - k)).length = r.length + 8 - k := by rw [List.length_take, wrap_length]; omega
  have hn : numOf ((wrap r).take (r.length + 8 - k)) = r.length := by
    have e : ∀ i, i < 8 → ((wrap r).take (r.length + 8 - k)).getD i 0 = (wrap r).getD i 0 := fun i hi => CrcM.getD_take _ _ _ (by omega)
    unfold numOf; rw [e 1 (by decide), e 2 (by decide), e 3 (by decide)]
    unfold wrap; rw [low3]; simp; omega
  omega
theorem scan_cut (l : List (List Nat)) (r : List Nat) (h : ∀ x ∈ l ++ [r], x.length ≤ 200000) (k : Nat) (hk : 0 < k) (hk2 : k ≤ r.length + 8) :
    scanL ((wraps (l ++ [r])).take ((wraps (l ++ [r])).length - k)) = (l, (wraps (l ++ [r])).length - (r.length + 8)) := by
  have e : wraps (l ++ [r]) = wraps l ++ wrap r := by rw [wraps_append]; simp [wraps]
  have hl := wrap_length r
  rw [e, List.length_append, show (wraps l).length + (wrap r).length - k = (wraps l).length + (r.length + 8 - k) by omega, List.take_append,
    show (wraps l).length + (r.length + 8 - k) - (wraps l).length = r.length + 8 - k by omega, List.take_of_length_le (by omega),
    scan_wraps l _ (fun x hx => h x (by simp [hx])), scanL_none (size_cut r (h r (by simp)) k hk hk2)]
  simp; omega
/-- what was counted -/
theorem scan_le (n : Nat) : ∀ l : List Nat, l.length ≤ n → (scanL l).2 ≤ l.length := by
  induction n with
  | zero => intro l h; rw [scanL_none (by have := size_le l; omega)]; exact Nat.zero_le _
  | succ n ih =>
    intro l h
    by_cases hs : size l = 0
    · rw [scanL_none hs]; exact Nat.zero_le _
    · rw [scanL_step hs]
      have h1 := size_ge hs
      have h2 := size_le l
      have := ih (l.drop (size l)) (by rw [List.length_drop]; omega)
      rw [List.length_drop] at this
      simp only; omega
theorem numOf_take (l : List Nat) (m : Nat) (h : 8 ≤ m) : numOf (l.take m) = numOf l := by
  unfold numOf; rw [CrcM.getD_take _ _ _ (by omega), CrcM.getD_take _ _ _ (by omega), CrcM.getD_take _ _ _ (by omega)]
theorem size_take (l : List Nat) (m : Nat) (h : size l ≠ 0) (hm : size l ≤ m) : size (l.take m) = size l := by
  obtain ⟨⟨h1, h2, h3, h4, h5, h6⟩, h7⟩ := size_pos h
  rw [h7]
  apply size_of
  have hmin : (l.take m).length = min m l.length := List.length_take
  refine ⟨by rw [hmin]; omega, by rw [CrcM.getD_take _ _ _ (by omega)]; exact h2, (numOf_take l m (by omega)).symm, h4, by rw [hmin]; omega, ?_⟩
  rw [List.drop_take, List.drop_take, List.drop_take, List.take_take, List.take_take, List.take_take, show min 3 (m - 1) = 3 by omega, show min 4 (m - 4) = 4 by omega, show min (numOf l) (m - 8) = numOf l by omega]
  exact h6
theorem scan_take (n : Nat) : ∀ l : List Nat, l.length ≤ n → scanL (l.take (scanL l).2) = scanL l := by
  induction n with
  | zero => intro l h; rw [scanL_none (by have := size_le l; omega : size l = 0)]; simp [scanL_none size_nil]
  | succ n ih =>
    intro l h
    by_cases hs : size l = 0
    · rw [scanL_none hs]; simp [scanL_none size_nil]
    · have h1 := size_ge hs
      have h2 := size_le l
      have ih := ih (l.drop (size l)) (by rw [List.length_drop]; omega)
      have e : (scanL l).2 = size l + (scanL (l.drop (size l))).2 := by rw [scanL_step hs]
      have hsz := size_take l (scanL l).2 hs (by omega)
      rw [scanL_step (by rw [hsz]; exact hs), hsz, List.drop_take, List.drop_take, List.take_take, e, show min (size l - 8) (size l + (scanL (l.drop (size l))).2 - 8) = size l - 8 by omega,
        show size l + (scanL (l.drop (size l))).2 - size l = (scanL (l.drop (size l))).2 by omega, ih, ← scanL_step hs]
theorem byte3 (a b c : Nat) (ha : a < 256) (hb : b < 256) (hc : c < 256) : low (a + 256 * b + 65536 * c) 3 = [a, b, c] := by
  rw [low3]; simp; omega
theorem wrap_size (l : List Nat) (h : size l ≠ 0) (hb : ∀ x ∈ l, x < 256) : wrap ((l.drop 8).take (size l - 8)) = l.take (size l) := by
  obtain ⟨⟨h1, h2, h3, h4, h5, h6⟩, h7⟩ := size_pos h
  rw [h7, show numOf l + 8 - 8 = numOf l by omega]
  match l, h1 with
  | a0 :: a1 :: a2 :: a3 :: a4 :: a5 :: a6 :: a7 :: r, _ =>
    have e : numOf (a0 :: a1 :: a2 :: a3 :: a4 :: a5 :: a6 :: a7 :: r) = a1 + 256 * a2 + 65536 * a3 := rfl
    have hl : (r.take (numOf (a0 :: a1 :: a2 :: a3 :: a4 :: a5 :: a6 :: a7 :: r))).length = numOf (a0 :: a1 :: a2 :: a3 :: a4 :: a5 :: a6 :: a7 :: r) := by
      rw [List.length_take]; simp at h5; omega
    have hd : low (numOf (a0 :: a1 :: a2 :: a3 :: a4 :: a5 :: a6 :: a7 :: r)) 3 = [a1, a2, a3] := by
      rw [e]; exact byte3 _ _ _ (hb _ (by simp)) (hb _ (by simp)) (hb _ (by simp))
    generalize numOf (a0 :: a1 :: a2 :: a3 :: a4 :: a5 :: a6 :: a7 :: r) = n at *
    have h0 : a0 = 167 := h2
    have h6' : low (sumOf ([a1, a2, a3] ++ r.take n)) 4 = [a4, a5, a6, a7] := h6
    have hdr : ((a0 :: a1 :: a2 :: a3 :: a4 :: a5 :: a6 :: a7 :: r).drop 8).take n = r.take n := rfl
    rw [hdr]
    unfold wrap
    rw [hl, hd, h6', h0]
    simp
theorem wraps_scan (n : Nat) : ∀ l : List Nat, l.length ≤ n → (∀ x ∈ l, x < 256) → wraps (scanL l).1 = l.take (scanL l).2 ∧ ∀ r ∈ (scanL l).1, r.length ≤ 200000 := by
  induction n with
  | zero => intro l h _; rw [scanL_none (by have := size_le l; omega : size l = 0)]; exact ⟨by simp [wraps], fun r hr => by simp at hr⟩
  | succ n ih =>
    intro l h hb
    by_cases hs : size l = 0
    · rw [scanL_none hs]; exact ⟨by simp [wraps], fun r hr => by simp at hr⟩
    · have h1 := size_ge hs
      have h2 := size_le l
      obtain ⟨i1, i2⟩ := ih (l.drop (size l)) (by rw [List.length_drop]; omega) (fun x hx => hb x (List.mem_of_mem_drop hx))
      rw [scanL_step hs]
      refine ⟨?_, ?_⟩
      · simp only [wraps]
        rw [i1, wrap_size l hs hb, List.take_add]
      · intro r hr
        simp only [List.mem_cons] at hr
        rcases hr with rfl | hr
        · obtain ⟨⟨_, _, _, h4, _, _⟩, h7⟩ := size_pos hs
          rw [List.length_take]; omega
        · exact i2 r hr
theorem val_set_y (l : List Nat) (y : Nat) : ∀ (j : Nat) (h : j < l.length), CrcM.val (l.set j (l[j] ^^^ y)) = CrcM.val l ^^^ y * 2 ^ (8 * j) := by
  induction l with
  | nil => intro j h; simp at h
  | cons b l ih =>
    intro j h
    cases j with
    | zero => simp only [List.set_cons_zero, List.getElem_cons_zero, CrcM.val_cons, Nat.mul_zero, Nat.pow_zero, Nat.mul_one]; rw [Nat.xor_assoc, Nat.xor_comm y, ← Nat.xor_assoc]
    | succ j =>
      simp only [List.set_cons_succ, List.getElem_cons_succ, CrcM.val_cons]
      rw [ih j (by simpa using h), CrcM.mul256_xor, show 256 * (y * 2 ^ (8 * j)) = y * 2 ^ (8 * (j + 1)) by rw [show 8 * (j + 1) = 8 + 8 * j by omega, Nat.pow_add 2 8, ← Nat.mul_assoc, Nat.mul_comm 256 y, Nat.mul_assoc], Nat.xor_assoc]
theorem sum_turned (h r : List Nat) (j y : Nat) (hj : j < r.length) (hy : 0 < y) (hy2 : y < 256) : sumOf (h ++ r.set j (r[j] ^^^ y)) ≠ sumOf (h ++ r) := by
  intro he
  have e : h ++ r.set j (r[j] ^^^ y) = (h ++ r).set (h.length + j) ((h ++ r)[h.length + j]'(by simp; omega) ^^^ y) := by
    rw [List.set_append_right _ _ (by omega)]; simp
  rw [e] at he
  have hv := val_set_y (h ++ r) y (h.length + j) (by simp; omega)
  have := (CrcM.ext_window 0 ((h ++ r).set (h.length + j) ((h ++ r)[h.length + j]'(by simp; omega) ^^^ y)) (h ++ r) (by simp) y (8 * (h.length + j)) (by omega) (by simp; omega)
    (by rw [hv, Nat.xor_comm (CrcM.val (h ++ r)), CrcM.xor_cancel])).1 he
  omega
theorem xor_ne (x y : Nat) (hy : 0 < y) : x ^^^ y ≠ x := by
  intro h
  have : y = 0 := by
    have h2 := congrArg (· ^^^ x) h
    simp only [Nat.xor_self] at h2
    rwa [Nat.xor_comm x y, CrcM.xor_cancel] at h2
  omega
theorem sumOf_lt (l : List Nat) (hb : ∀ x ∈ l, x < 256) : sumOf l < 4294967296 := by
  unfold sumOf CrcM.ext
  have hf : ∀ (a : List Nat) (n : Nat), n < 4294967296 → (∀ b ∈ a, b < 256) → CrcM.fold n a < 4294967296 := by
    intro a
    induction a with
    | nil => intro n h _; exact h
    | cons b a ih =>
      intro n h hb
      rw [CrcM.fold_cons]
      exact ih _ (CrcM.stn_lt 8 (Nat.xor_lt_two_pow (n := 32) h (by have := hb b (by simp); omega))) (fun c hc => hb c (by simp [hc]))
  exact Nat.xor_lt_two_pow (n := 32) (hf l _ (by decide) hb) (by decide)
/-- one byte turned -/
theorem size_spoilt (r : List Nat) (h : r.length ≤ 200000) (hb : ∀ x ∈ r, x < 256) (k y : Nat) (hk : k < r.length + 8) (hk2 : k = 0 ∨ 4 ≤ k) (hy : 0 < y) (hy2 : y < 256) :
    size ((wrap r).set k ((wrap r).getD k 0 ^^^ y)) = 0 := by
  apply Classical.byContradiction
  intro hs
  obtain ⟨⟨h1, h2, h3, h4, h5, h6⟩, h7⟩ := size_pos hs
  clear h1 h4 h5 h7 hs
  have hsl := sumOf_lt (low r.length 3 ++ r) (fun x hx => by
    rcases List.mem_append.1 hx with hx | hx
    · exact low_lt _ _ x hx
    · exact hb x hx)
  have hw : wrap r = 167 :: (r.length % 256) :: (r.length / 256 % 256) :: (r.length / 65536 % 256) :: (sumOf (low r.length 3 ++ r) % 256) :: (sumOf (low r.length 3 ++ r) / 256 % 256) :: (sumOf (low r.length 3 ++ r) / 65536 % 256) :: (sumOf (low r.length 3 ++ r) / 16777216 % 256) :: r := by
    unfold wrap; rw [low4, low3]; rfl
  have hl3 := low3 r.length
  have hl4 := low4 (sumOf (low r.length 3 ++ r))
  rw [hw] at h2 h3 h6
  have hn : r.length % 256 + 256 * (r.length / 256 % 256) + 65536 * (r.length / 65536 % 256) = r.length := by omega
  generalize r.length % 256 = d0 at *
  generalize r.length / 256 % 256 = d1 at *
  generalize r.length / 65536 % 256 = d2 at *
  generalize hS : sumOf (low r.length 3 ++ r) = S at *
  generalize S % 256 = s0 at *
  generalize S / 256 % 256 = s1 at *
  generalize S / 65536 % 256 = s2 at *
  generalize S / 16777216 % 256 = s3 at *
  rcases hk2 with rfl | hk4
  · exact xor_ne 167 y hy h2
  · have hcase : k = 4 ∨ k = 5 ∨ k = 6 ∨ k = 7 ∨ ∃ j, k = j + 8 := by
      by_cases h8 : 8 ≤ k
      · exact .inr (.inr (.inr (.inr ⟨k - 8, by omega⟩)))
      · omega
    have hnum : numOf (167 :: d0 :: d1 :: d2 :: s0 :: s1 :: s2 :: s3 :: r) = r.length := hn
    rcases hcase with rfl | rfl | rfl | rfl | ⟨j, rfl⟩
    · have h6' : low (sumOf ([d0, d1, d2] ++ r.take (numOf (167 :: d0 :: d1 :: d2 :: s0 :: s1 :: s2 :: s3 :: r)))) 4 = [s0 ^^^ y, s1, s2, s3] := h6
      rw [hnum, List.take_length, ← hl3, hS, hl4] at h6'
      injection h6' with h6' _; exact xor_ne s0 y hy h6'.symm
    · have h6' : low (sumOf ([d0, d1, d2] ++ r.take (numOf (167 :: d0 :: d1 :: d2 :: s0 :: s1 :: s2 :: s3 :: r)))) 4 = [s0, s1 ^^^ y, s2, s3] := h6
      rw [hnum, List.take_length, ← hl3, hS, hl4] at h6'
      injection h6' with _ h6'; injection h6' with h6' _; exact xor_ne s1 y hy h6'.symm
    · have h6' : low (sumOf ([d0, d1, d2] ++ r.take (numOf (167 :: d0 :: d1 :: d2 :: s0 :: s1 :: s2 :: s3 :: r)))) 4 = [s0, s1, s2 ^^^ y, s3] := h6
      rw [hnum, List.take_length, ← hl3, hS, hl4] at h6'
      injection h6' with _ h6'; injection h6' with _ h6'; injection h6' with h6' _; exact xor_ne s2 y hy h6'.symm
    · have h6' : low (sumOf ([d0, d1, d2] ++ r.take (numOf (167 :: d0 :: d1 :: d2 :: s0 :: s1 :: s2 :: s3 :: r)))) 4 = [s0, s1, s2, s3 ^^^ y] := h6
      rw [hnum, List.take_length, ← hl3, hS, hl4] at h6'
      injection h6' with _ h6'; injection h6' with _ h6'; injection h6' with _ h6'; injection h6' with h6' _; exact xor_ne s3 y hy h6'.symm
    · have hj : j < r.length := by omega
      have h6' : low (sumOf ([d0, d1, d2] ++ (r.set j (r.getD j 0 ^^^ y)).take (numOf (167 :: d0 :: d1 :: d2 :: s0 :: s1 :: s2 :: s3 :: r)))) 4 = [s0, s1, s2, s3] := h6
      rw [hnum, List.take_of_length_le (by simp), ← List.getElem_eq_getD (h := hj), ← hl3, ← hl4] at h6'
      have := low4_inj (sumOf_lt _ (fun x hx => by
        rcases List.mem_append.1 hx with hx | hx
        · exact low_lt _ _ x hx
        · rcases List.mem_or_eq_of_mem_set hx with hx | rfl
          · exact hb x hx
          · exact Nat.xor_lt_two_pow (n := 8) (hb _ (List.getElem_mem hj)) hy2)) hsl h6'
      rw [← hS] at this
      exact sum_turned _ r j y hj hy hy2 this
end FrM
