/- The plain mathematics of the sum: one bit's step, its linearity, and what follows. -/
namespace CrcM
/-- one bit -/
def st (x : Nat) : Nat := if x % 2 = 1 then (x / 2) ^^^ 3988292384 else x / 2
def ones : Nat := 4294967295
def stn : Nat → Nat → Nat
  | 0, x => x
  | n + 1, x => stn n (st x)
def fold : Nat → List Nat → Nat
  | s, [] => s
  | s, b :: l => fold (stn 8 (s ^^^ b)) l
def ext (n : Nat) (l : List Nat) : Nat := fold (ones ^^^ n) l ^^^ ones
def val : List Nat → Nat
  | [] => 0
  | b :: l => b ^^^ (256 * val l)
theorem xor_c (a b c d : Nat) : (a ^^^ b) ^^^ (c ^^^ d) = (a ^^^ c) ^^^ (b ^^^ d) := by
  rw [Nat.xor_assoc, Nat.xor_assoc, ← Nat.xor_assoc b c d, Nat.xor_comm b c, Nat.xor_assoc]
theorem st_xor (x y : Nat) : st (x ^^^ y) = st x ^^^ st y := by
  have hd : (x ^^^ y) / 2 = x / 2 ^^^ y / 2 := Nat.xor_div_two
  have hm : (x ^^^ y) % 2 = 1 ↔ ¬ (x % 2 = 1 ↔ y % 2 = 1) := Nat.xor_mod_two_eq_one
  unfold st
  rw [hd]
  by_cases hx : x % 2 = 1 <;> by_cases hy : y % 2 = 1
  · rw [if_neg (by rw [hm]; simp [hx, hy]), if_pos hx, if_pos hy, xor_c, Nat.xor_self, Nat.xor_zero]
  · rw [if_pos (by rw [hm]; simp [hx, hy]), if_pos hx, if_neg hy, Nat.xor_assoc, Nat.xor_assoc, Nat.xor_comm (y/2)]
  · rw [if_pos (by rw [hm]; simp [hx, hy]), if_neg hx, if_pos hy, Nat.xor_assoc]
  · rw [if_neg (by rw [hm]; simp [hx, hy]), if_neg hx, if_neg hy]
theorem xor_cancel (x m : Nat) : x ^^^ m ^^^ m = x := by rw [Nat.xor_assoc, Nat.xor_self, Nat.xor_zero]
theorem xor_zero_iff {a b : Nat} : a ^^^ b = 0 ↔ a = b :=
  ⟨fun h => by have := congrArg (· ^^^ b) h; simpa [xor_cancel] using this, fun h => by rw [h, Nat.xor_self]⟩
theorem stn_xor (n : Nat) : ∀ x y, stn n (x ^^^ y) = stn n x ^^^ stn n y := by
  induction n with
  | zero => intro x y; rfl
  | succ n ih => intro x y; simp only [stn, st_xor, ih]
theorem st_double (y : Nat) : st (2 * y) = y := by
  unfold st; rw [if_neg (by omega)]; omega
theorem stn_succ (n x : Nat) : stn (n + 1) x = stn n (st x) := rfl
theorem stn_add (m : Nat) : ∀ n x, stn (m + n) x = stn n (stn m x) := by
  induction m with
  | zero => intro n x; rw [Nat.zero_add]; rfl
  | succ m ih => intro n x; rw [Nat.succ_add]; simp only [stn]; exact ih n _
theorem stn_pow (k : Nat) : ∀ y, stn k (y * 2 ^ k) = y := by
  induction k with
  | zero => intro y; simp [stn]
  | succ k ih => intro y; simp only [stn]; rw [show y * 2 ^ (k + 1) = 2 * (y * 2 ^ k) by rw [Nat.pow_succ, Nat.mul_comm 2, Nat.mul_assoc], st_double, ih]
theorem st_lt {x : Nat} (h : x < 4294967296) : st x < 4294967296 := by
  unfold st; split
  · exact Nat.xor_lt_two_pow (n := 32) (by omega) (by decide)
  · omega
theorem st_zero {z : Nat} (h : z < 4294967296) (h0 : st z = 0) : z = 0 := by
  unfold st at h0
  split at h0
  · have : z / 2 = 3988292384 := xor_zero_iff.1 h0
    omega
  · omega
theorem st_of_zero : st 0 = 0 := rfl
theorem stn_zero_n (x : Nat) : stn 0 x = x := rfl
theorem fold_cons (s b : Nat) (l : List Nat) : fold s (b :: l) = fold (stn 8 (s ^^^ b)) l := rfl
theorem fold_nil (s : Nat) : fold s [] = s := rfl
theorem val_cons (b : Nat) (l : List Nat) : val (b :: l) = b ^^^ (256 * val l) := rfl
theorem val_nil : val [] = 0 := rfl
attribute [local irreducible] st stn
theorem fold_val (l : List Nat) : ∀ s, fold s l = stn (8 * l.length) (s ^^^ val l) := by
  induction l with
  | nil => intro s; rw [fold_nil, val_nil, List.length_nil, Nat.mul_zero, stn_zero_n, Nat.xor_zero]
  | cons b l ih =>
    intro s
    rw [fold_cons, val_cons, List.length_cons]
    rw [ih, show 8 * (l.length + 1) = 8 + 8 * l.length by omega, stn_add, ← Nat.xor_assoc, stn_xor 8 (s ^^^ b) (256 * val l), Nat.mul_comm 256 (val l), show (256 : Nat) = 2 ^ 8 from rfl, stn_pow]
theorem fold_append (a b : List Nat) : ∀ s, fold s (a ++ b) = fold (fold s a) b := by
  induction a with
  | nil => intro s; rfl
  | cons x a ih => intro s; rw [List.cons_append, fold_cons, fold_cons, ih]
theorem ext_append (n : Nat) (a b : List Nat) : ext (ext n a) b = ext n (a ++ b) := by
  unfold ext; rw [Nat.xor_comm ones (_ ^^^ ones), xor_cancel, fold_append]
theorem ext_nil (n : Nat) : ext n [] = n := by
  unfold ext; rw [fold_nil]; rw [Nat.xor_comm ones n, xor_cancel]
theorem stn_lt (n : Nat) : ∀ {x : Nat}, x < 4294967296 → stn n x < 4294967296 := by
  induction n with
  | zero => intro x h; rw [stn_zero_n]; exact h
  | succ n ih => intro x h; rw [stn_succ]; exact ih (st_lt h)
theorem stn_zero (n : Nat) : ∀ {z : Nat}, z < 4294967296 → stn n z = 0 → z = 0 := by
  induction n with
  | zero => intro z _ h; rw [stn_zero_n] at h; exact h
  | succ n ih => intro z h h0; rw [stn_succ] at h0; exact st_zero h (ih (st_lt h) h0)
theorem stn_of_zero (n : Nat) : stn n 0 = 0 := by
  induction n with
  | zero => rw [stn_zero_n]
  | succ n ih => rw [stn_succ, st_of_zero]; exact ih
theorem stn_inj (n : Nat) {x y : Nat} (hx : x < 4294967296) (hy : y < 4294967296) : stn n x = stn n y ↔ x = y := by
  constructor
  · intro h
    have h1 : stn n (x ^^^ y) = 0 := by rw [stn_xor, h, Nat.xor_self]
    exact xor_zero_iff.1 (stn_zero n (Nat.xor_lt_two_pow (n := 32) hx hy) h1)
  · rintro rfl; rfl
theorem xor_right_inj {a b m : Nat} : a ^^^ m = b ^^^ m ↔ a = b :=
  ⟨fun h => by have := congrArg (· ^^^ m) h; simpa [xor_cancel] using this, fun h => by rw [h]⟩
theorem xor_left_inj {a b m : Nat} : m ^^^ a = m ^^^ b ↔ a = b := by rw [Nat.xor_comm m a, Nat.xor_comm m b, xor_right_inj]
/-- P2.4 -/
theorem ext_inj {x y : Nat} (l : List Nat) (hx : x < 4294967296) (hy : y < 4294967296) : ext x l = ext y l ↔ x = y := by
  unfold ext
  rw [xor_right_inj, fold_val, fold_val, stn_xor _ (ones ^^^ x), stn_xor _ (ones ^^^ y), xor_right_inj, stn_xor, stn_xor _ ones y, xor_left_inj]
  exact stn_inj _ hx hy
/-- two texts of one length -/
theorem ext_same (n : Nat) (a b : List Nat) (h : a.length = b.length) : ext n a = ext n b ↔ stn (8 * a.length) (val a ^^^ val b) = 0 := by
  unfold ext
  rw [xor_right_inj, fold_val, fold_val, h, stn_xor _ (ones ^^^ n), stn_xor _ (ones ^^^ n) (val b), xor_left_inj, stn_xor, xor_zero_iff]
theorem ext_window (n : Nat) (a b : List Nat) (h : a.length = b.length) (R k : Nat) (hR : R < 4294967296) (hk : k ≤ 8 * a.length) (hv : val a ^^^ val b = R * 2 ^ k) : ext n a = ext n b ↔ R = 0 := by
  rw [ext_same n a b h, hv, show 8 * a.length = k + (8 * a.length - k) by omega, stn_add, stn_pow]
  exact ⟨fun h0 => stn_zero _ hR h0, fun h0 => by rw [h0]; exact stn_of_zero _⟩
def xz : List Nat → List Nat → List Nat
  | a :: l, b :: m => (a ^^^ b) :: xz l m
  | _, _ => []
theorem mul256_xor (a b : Nat) : 256 * (a ^^^ b) = (256 * a) ^^^ (256 * b) := by
  have := Nat.shiftLeft_xor_distrib (a := a) (b := b) (i := 8)
  simp only [Nat.shiftLeft_eq] at this
  rw [Nat.mul_comm 256, Nat.mul_comm 256, Nat.mul_comm 256]; exact this
theorem val_xz (a : List Nat) : ∀ b, a.length = b.length → val (xz a b) = val a ^^^ val b ∧ (xz a b).length = a.length := by
  induction a with
  | nil => intro b h; cases b with
    | nil => exact ⟨by simp [xz, val_nil], rfl⟩
    | cons => simp at h
  | cons x a ih => intro b h; cases b with
    | nil => simp at h
    | cons y b =>
      obtain ⟨h1, h2⟩ := ih b (by simpa using h)
      refine ⟨?_, by simp [xz, h2]⟩
      simp only [xz, val_cons]; rw [h1, mul256_xor, xor_c]
/-- P2.3 -/
theorem ext_plain (a b c : List Nat) (h1 : a.length = b.length) (h2 : a.length = c.length) : ext 0 (xz (xz a b) c) = (ext 0 a ^^^ ext 0 b) ^^^ ext 0 c := by
  obtain ⟨v1, l1⟩ := val_xz a b h1
  obtain ⟨v2, l2⟩ := val_xz (xz a b) c (by rw [l1, h2])
  unfold ext
  rw [fold_val, fold_val, fold_val, fold_val, v2, v1, l2, l1, ← h1, ← h2]
  simp only [Nat.xor_zero, stn_xor]
  generalize stn (8 * a.length) ones = o
  generalize stn (8 * a.length) (val a) = p
  generalize stn (8 * a.length) (val b) = q
  generalize stn (8 * a.length) (val c) = r
  apply Nat.eq_of_testBit_eq
  intro i
  simp only [Nat.testBit_xor]
  cases o.testBit i <;> cases p.testBit i <;> cases q.testBit i <;> cases r.testBit i <;> cases ones.testBit i <;> rfl
/-- a bit turned -/
theorem val_set (l : List Nat) : ∀ (j k : Nat) (h : j < l.length), val (l.set j (l[j] ^^^ 2 ^ k)) = val l ^^^ 2 ^ (8 * j + k) := by
  induction l with
  | nil => intro j k h; simp at h
  | cons b l ih =>
    intro j k h
    cases j with
    | zero => simp only [List.set_cons_zero, List.getElem_cons_zero, val_cons, Nat.mul_zero, Nat.zero_add]; rw [Nat.xor_assoc, Nat.xor_comm (2 ^ k), ← Nat.xor_assoc]
    | succ j =>
      simp only [List.set_cons_succ, List.getElem_cons_succ, val_cons]
      rw [ih j k (by simpa using h), mul256_xor, show 256 * 2 ^ (8 * j + k) = 2 ^ (8 * (j + 1) + k) by rw [show 8 * (j + 1) + k = 8 + (8 * j + k) by omega, Nat.pow_add 2 8], Nat.xor_assoc]
/-- four bits at once: the table -/
def tbl (n : Nat) : Nat := stn 4 n
theorem four (x : Nat) : stn 4 x = x / 16 ^^^ stn 4 (x % 16) := by
  have h : x = (x / 16 * 2 ^ 4) ^^^ (x % 16) := by
    have h1 : x / 16 * 2 ^ 4 = (x / 16) <<< 4 := by rw [Nat.shiftLeft_eq]
    rw [h1]
    have h2 : (x / 16) <<< 4 ^^^ x % 16 = (x / 16) <<< 4 + x % 16 := by
      apply Nat.eq_of_testBit_eq
      intro i
      rw [Nat.testBit_xor, Nat.shiftLeft_eq, Nat.mul_comm, Nat.testBit_two_pow_mul_add _ (Nat.mod_lt _ (by decide)), Nat.testBit_two_pow_mul]
      by_cases hi : i < 4
      · rw [if_pos hi]; simp [show ¬ 4 ≤ i by omega]
      · rw [if_neg hi, Nat.testBit_lt_two_pow (x := x % 16) (i := i) (Nat.lt_of_lt_of_le (Nat.mod_lt _ (by decide)) (Nat.pow_le_pow_right (by decide) (Nat.not_lt.1 hi) : 2 ^ 4 ≤ 2 ^ i))]; simp [Nat.not_lt.1 hi]
    rw [h2, Nat.shiftLeft_eq]; omega
  conv => lhs; rw [h]
  rw [stn_xor, stn_pow]
theorem mod_step (r k : Nat) : r % 2 ^ (k + 1) = r % 2 ^ k + 2 ^ k * (r / 2 ^ k % 2) := by
  rw [Nat.pow_succ, Nat.mod_mul]
theorem mod_step0 (r k : Nat) (h : ¬ r / 2 ^ k % 2 = 1) : r % 2 ^ (k + 1) = r % 2 ^ k := by
  rw [mod_step, show r / 2 ^ k % 2 = 0 by omega, Nat.mul_zero, Nat.add_zero]
theorem xor_pow (a k : Nat) (h : a < 2 ^ k) : a ^^^ 2 ^ k = a + 2 ^ k := by
  apply Nat.eq_of_testBit_eq
  intro i
  rw [Nat.testBit_xor, Nat.add_comm, show 2 ^ k + a = 2 ^ k * 1 + a by omega, Nat.testBit_two_pow_mul_add _ h, Nat.testBit_two_pow]
  by_cases hi : i < k
  · rw [if_pos hi]; simp [show ¬ k = i by omega]
  · rw [if_neg hi, Nat.testBit_lt_two_pow (Nat.lt_of_lt_of_le h (Nat.pow_le_pow_right (by decide) (Nat.not_lt.1 hi)))]
    by_cases he : k = i
    · subst he; simp
    · obtain ⟨d, hd⟩ : ∃ d, i - k = d + 1 := ⟨i - k - 1, by omega⟩
      simp [he, hd, Nat.testBit_succ]
theorem mod_step1 (r k : Nat) (h : r / 2 ^ k % 2 = 1) : r % 2 ^ (k + 1) = r % 2 ^ k ^^^ 2 ^ k := by
  rw [mod_step, h, Nat.mul_one, xor_pow _ _ (Nat.mod_lt _ (Nat.two_pow_pos k))]
theorem xor_mul (a b f : Nat) : (a ^^^ b) * 2 ^ f = a * 2 ^ f ^^^ b * 2 ^ f := by
  have := Nat.shiftLeft_xor_distrib (a := a) (b := b) (i := f)
  simpa only [Nat.shiftLeft_eq] using this
theorem turn_step (v r k f : Nat) (h : r / 2 ^ k % 2 = 1) : v ^^^ (r % 2 ^ (k + 1)) * 2 ^ f = (v ^^^ (r % 2 ^ k) * 2 ^ f) ^^^ 2 ^ (f + k) := by
  rw [mod_step1 r k h, xor_mul, ← Nat.pow_add, Nat.add_comm k f, Nat.xor_assoc]
theorem turn_pos (r k : Nat) (h : r / 2 ^ k % 2 = 1) : r % 2 ^ (k + 1) ≠ 0 := by
  rw [mod_step, h, Nat.mul_one]; have := Nat.two_pow_pos k; omega
theorem val_set' (l : List Nat) (j k : Nat) (h : j < l.length) : val (l.set j (l.getD j 0 ^^^ 2 ^ k)) = val l ^^^ 2 ^ (8 * j + k) := by
  rw [← List.getElem_eq_getD (h := h)]; exact val_set l j k h
theorem set_lt {l : List Nat} (h : ∀ y ∈ l, y < 256) (j : Nat) {z : Nat} (hz : z < 256) : ∀ y ∈ l.set j z, y < 256 := by
  intro y hy
  rcases List.mem_or_eq_of_mem_set hy with h1 | h1
  · exact h y h1
  · rw [h1]; exact hz
theorem xz_getD (a : List Nat) : ∀ (b : List Nat) (k : Nat), a.length = b.length → k < a.length → (xz a b).getD k 0 = a.getD k 0 ^^^ b.getD k 0 := by
  induction a with
  | nil => intro b k _ hk; simp at hk
  | cons x a ih => intro b k h hk; cases b with
    | nil => simp at h
    | cons y b =>
      cases k with
      | zero => rfl
      | succ k =>
        have := ih b k (by simpa using h) (by simpa using hk)
        simpa [xz] using this
theorem set_take (ys : List Nat) (k z : Nat) (hk : k < ys.length) : (ys.set k z).take (k + 1) = ys.take k ++ [z] := by
  rw [List.take_succ_eq_append_getElem (by simpa using hk)]
  simp [List.take_set_of_le]
theorem take_getD (Z : List Nat) (k : Nat) (hk : k < Z.length) : Z.take (k + 1) = Z.take k ++ [Z.getD k 0] := by
  rw [List.take_succ_eq_append_getElem hk, ← List.getElem_eq_getD (h := hk)]
theorem getD_take (a : List Nat) (n k : Nat) (hk : k < n) : (a.take n).getD k 0 = a.getD k 0 := by
  simp [List.getD, hk]
theorem xz_lt (a : List Nat) : ∀ b : List Nat, (∀ x ∈ a, x < 256) → (∀ x ∈ b, x < 256) → ∀ x ∈ xz a b, x < 256 := by
  induction a with
  | nil => intro b _ _ x hx; simp [xz] at hx
  | cons y a ih => intro b ha hb x hx; cases b with
    | nil => simp [xz] at hx
    | cons z b =>
      simp only [xz, List.mem_cons] at hx
      rcases hx with rfl | hx
      · exact Nat.xor_lt_two_pow (n := 8) (ha y (by simp)) (hb z (by simp))
      · exact ih b (fun x h => ha x (by simp [h])) (fun x h => hb x (by simp [h])) x hx
end CrcM
