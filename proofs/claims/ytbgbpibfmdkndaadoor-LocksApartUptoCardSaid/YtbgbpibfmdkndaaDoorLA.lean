/- Words on names and rows of texts. -/
import Derived.Test.YtbgbpibfmdkndaaDoorNY
import Derived.Test.YtbgbpibfmdkndaaDoorDat
import Derived.Test.YtbgbpibfmdkndaaDoorInv
set_option linter.unusedVariables false
set_option linter.unusedSimpArgs false
set_option linter.unnecessarySimpa false
set_option maxRecDepth 100000
namespace Go.Proofs.YtbgbpibfmdkndaaDoor
open Go.RowKit Go.ChangeShapes Go.WideShapes Go.ChangeAt
theorem toks_long : ∀ (n : Nat) (l : List Nat), l.length ≤ n → l.length ≤ 4 * (NM.toks l).length
  | 0, l, h => by omega
  | n + 1, [], h => by simp
  | n + 1, x :: l, h => by
    have h1 : 1 ≤ (NM.dec (x :: l)).2 := NM.dec_n _
    have h4 : (NM.dec (x :: l)).2 ≤ 4 := (NM.dec4_n _ _ _ _).2
    have ih := toks_long n ((x :: l).drop (NM.dec (x :: l)).2) (by rw [List.length_drop]; simp only [List.length_cons] at h ⊢; omega)
    rw [NM.toks_cons]
    rw [List.length_drop] at ih
    simp only [List.length_cons] at ih ⊢
    omega
theorem isT_len : ∀ (T : List NM.Tok) (n : Nat), NM.isT n T = true → T.length + n ≤ 8
  | [], n, h => by
    have := of_decide_eq_true (show decide (1 ≤ n ∧ n ≤ 8) = true from h)
    simp only [List.length_nil]
    omega
  | t :: T, n, h => by
    have h2 : (NM.okT n t.1 && NM.isT (n + 1) T) = true := h
    rw [Bool.and_eq_true] at h2
    have := isT_len T (n + 1) h2.2
    simp only [List.length_cons]
    omega
/-- is a text a name? -/
def isN (s : ByteArray) : Bool := NM.isT 0 (tk s 0)
theorem is_short {s : ByteArray} (h : isN s = true) : s.size ≤ 32 := by
  unfold isN tk at h
  rw [List.drop_zero] at h
  have h1 := isT_len _ _ h
  have h2 := toks_long _ (bs s) (Nat.le_refl _)
  rw [bs_len] at h2
  omega
def cmpN (a b : ByteArray) : Int := NM.cmpT (tk a 0) (tk b 0)
def strV (l : List ByteArray) : List Value := l.map fun b => .string b
theorem strV_one (l : List ByteArray) : ∀ u ∈ strV l, u.oneCell' = true := by
  intro u hu
  unfold strV at hu
  rw [List.mem_map] at hu
  obtain ⟨b, _, rfl⟩ := hu
  rfl
theorem infoS : (Tryd.prog.info? 9).map (fun i => (i.zero, i.size, i.bytes)) = some (some (.string ⟨#[]⟩), 1, 16) := by kernel_rfl
theorem infoI : (Tryd.prog.info? 3).map (fun i => (i.zero, i.size, i.bytes)) = some (some (.int .i64 0), 1, 8) := by kernel_rfl
theorem cell_alloc {w : World} {p : Addr} {v : Value} (o : Obj) (h : w.cell? p = some v) : (w.alloc o).cell? p = some v := old_cell ((Below.refl _ _).alloc (Nat.le_refl _) o) h
theorem Sat.snocP {w0 w : World} {M L : List HP} {X : HP} (h : Sat w0 w (sep M :: X :: L)) : Sat w0 w (sep (M ++ [X]) :: L) := Sat.close (by rw [List.append_assoc]; exact h.open_)
theorem isN_a : isN ⟨#[97]⟩ = true := by kernel_rfl
theorem Sat.r7 {w0 w : World} {A B C D E G H : HP} {L : List HP} (h : Sat w0 w (A :: B :: C :: D :: E :: G :: H :: L)) : Sat w0 w (H :: A :: B :: C :: D :: E :: G :: L) := (h.perm ((((((List.Perm.swap H G L).cons E).cons D).cons C).cons B).cons A)).r6
theorem Sat.swapA {w0 w : World} {L M : List HP} (h : Sat w0 w (L ++ M)) : Sat w0 w (M ++ L) := h.perm List.perm_append_comm
theorem Sat.rowAt {w0 w : World} {L : List HP} {E sz n c g : Nat} {xs : List Value} (h : Sat w0 w (Row E sz (some ⟨g, 0, none⟩) n c xs :: L)) {j : Nat} {v : Value} (hv : xs[j]? = some v) : w.cell? ⟨g, j, none⟩ = some v ∧ w.frozen? ⟨g, j, none⟩ = false := by
  obtain ⟨g', e, hc, hf⟩ := h.rowCell (by rintro rfl; simp at hv)
  cases e
  exact ⟨by rw [hc j (List.getElem?_eq_some_iff.1 hv).1, hv], hf j⟩
theorem Rd.takeK {w : World} {A : Option Addr} {n k : Nat} {ys : List Value} (h : Rd w A n 1 ys) (hk : k ≤ n) : Rd w A k 1 (ys.take k) := by
  have hl := h.1
  refine ⟨by rw [List.length_take]; omega, fun j u hu => ?_⟩
  rw [List.getElem?_take] at hu
  split at hu
  · exact h.2 j u hu
  · cases hu
theorem Rd.dropK {w : World} {g n k : Nat} {ys : List Value} (h : Rd w (some ⟨g, 0, none⟩) n 1 ys) (hk : k ≤ n) : Rd w (some ⟨g, k, none⟩) (n - k) 1 (ys.drop k) := by
  have hl := h.1
  refine ⟨by rw [List.length_drop]; omega, fun j u hu => ?_⟩
  rw [List.getElem?_drop] at hu
  obtain ⟨ad, e, hc⟩ := h.2 (k + j) u hu
  injection e with e
  subst e
  refine ⟨_, rfl, ?_⟩
  have e1 : (⟨g, 0, none⟩ : Addr).add (k + j) = (⟨g, k, none⟩ : Addr).add j := by by_cases hk0 : k = 0 <;> by_cases hj0 : j = 0 <;> simp [Addr.add, hk0, hj0]
  rw [← e1]; exact hc
theorem Rd.none_ {w : World} (B : Option Addr) : Rd w B 0 1 [] := ⟨rfl, fun j u hu => by simp at hu⟩
/-- how many of those ahead are less -/
def lessK (O : List ByteArray) (nm : ByteArray) : Nat := (O.takeWhile fun x => decide (cmpN x nm < 0)).length
def insN (O : List ByteArray) (nm : ByteArray) : List ByteArray := if O[lessK O nm]? = some nm then O else O.take (lessK O nm) ++ nm :: O.drop (lessK O nm)
theorem lessK_eq (nm : ByteArray) : ∀ (O : List ByteArray) (k : Nat), k ≤ O.length → (∀ j x, j < k → O[j]? = some x → cmpN x nm < 0) → (∀ x, O[k]? = some x → ¬ cmpN x nm < 0) → lessK O nm = k := by
  intro O
  induction O with
  | nil => intro k hk _ _; have : k = 0 := by simpa using hk
           subst this; rfl
  | cons a O ih =>
    intro k hk h1 h2
    unfold lessK
    rw [List.takeWhile_cons]
    cases k with
    | zero =>
      have := h2 a rfl
      rw [if_neg (by simpa using this)]
      rfl
    | succ k =>
      have := h1 0 a (by omega) rfl
      rw [if_pos (by simpa using this), List.length_cons]
      have h3 := ih k (by simpa using hk) (fun j x hj hx => h1 (j + 1) x (by omega) hx) (fun x hx => h2 x hx)
      unfold lessK at h3
      rw [h3]
theorem ins_mem {O : List ByteArray} {nm x : ByteArray} (h : x ∈ insN O nm) : x ∈ O ∨ x = nm := by
  unfold insN at h
  split at h
  · exact .inl h
  · rcases List.mem_append.1 h with h | h
    · exact .inl (List.mem_of_mem_take h)
    · rcases List.mem_cons.1 h with h | h
      · exact .inr h
      · exact .inl (List.mem_of_mem_drop h)
theorem strV_app (a b : List ByteArray) : strV (a ++ b) = strV a ++ strV b := by unfold strV; rw [List.map_append]
end Go.Proofs.YtbgbpibfmdkndaaDoor
