/- A range over a text; what the reading of runes comes to. -/
import Derived.Test.YtbgbpibfmdkndaaDoorSLP
import Derived.Test.YtbgbpibfmdkndaaDoorNR
import Derived.Test.YtbgbpibfmdkndaaDoorNE
set_option linter.unusedVariables false
set_option linter.unusedSimpArgs false
namespace Go.Proofs.YtbgbpibfmdkndaaDoor
open Go.RowKit Go.ChangeShapes Go.WideShapes Go.ChangeAt
/-- a text's bytes, as numbers -/
def bs (s : ByteArray) : List Nat := s.data.toList.map (·.toNat)
theorem bs_len (s : ByteArray) : (bs s).length = s.size := by simp [bs]
theorem byteAt_bs (s : ByteArray) (i : Nat) : NM.byteAt s i = (bs s).getD i 0 := by
  unfold NM.byteAt bs
  by_cases h : i < s.size
  · have h' : i < s.data.toList.length := by simpa using h
    rw [List.getD, List.getElem?_map, List.getElem?_eq_getElem h']
    simp [ByteArray.get!]
    exact congrArg UInt8.toNat (getElem!_pos s.data i h)
  · have h' : ¬ i < s.data.size := h
    rw [List.getD, List.getElem?_eq_none (by simpa using h')]
    simp [ByteArray.get!]
    rw [getElem!_neg s.data i h']; rfl
theorem dec_bs (s : ByteArray) (at_ : Nat) (h : at_ < s.size) : ((NM.next s at_).1, (NM.next s at_).2.1) = NM.dec ((bs s).drop at_) := by
  have e : ∀ k, (bs s).getD (at_ + k) 0 = ((bs s).drop at_).getD k 0 := fun k => by simp [List.getD, List.getElem?_drop]
  have z : ∀ k, s.size - at_ < k + 1 → NM.byteAt s (at_ + k) = 0 := fun k hk => by
    rw [byteAt_bs, List.getD, List.getElem?_eq_none (by rw [bs_len]; omega)]; rfl
  have h1 : NM.next s at_ = NM.nextN (NM.byteAt s (at_ + 0)) (NM.byteAt s (at_ + 1)) (NM.byteAt s (at_ + 2)) (NM.byteAt s (at_ + 3)) (s.size - at_) := rfl
  rw [h1, NM.dec4_next _ _ _ _ _ (by omega) (z 1) (z 2) (z 3)]
  unfold NM.dec
  rw [byteAt_bs, byteAt_bs, byteAt_bs, byteAt_bs, e, e, e, e]
theorem decode_bs (s : ByteArray) (at_ : Nat) (h : at_ < s.size) : Utf8.decode s at_ = NM.dec ((bs s).drop at_) := by rw [← NM.next_decode s at_ h, dec_bs s at_ h]
/-- the tokens from a place on -/
def tk (s : ByteArray) (p : Nat) : List NM.Tok := NM.toks ((bs s).drop p)
theorem tk_end (s : ByteArray) (p : Nat) (h : s.size ≤ p) : tk s p = [] := by
  unfold tk; rw [List.drop_of_length_le (by rw [bs_len]; exact h)]; rfl
theorem tk_step (s : ByteArray) (p : Nat) (h : p < s.size) : tk s p = ((Utf8.decode s p).1, ((bs s).drop p).take (Utf8.decode s p).2) :: tk s (p + (Utf8.decode s p).2) := by
  unfold tk
  rw [NM.toks_step _ (by intro e; have := congrArg List.length e; simp [bs_len] at this; omega), decode_bs s p h, List.drop_drop]
theorem tk_next (s : ByteArray) (p : Nat) (h : p < s.size) : tk s p = ((NM.next s p).1, ((bs s).drop p).take (NM.next s p).2.1) :: tk s (p + (NM.next s p).2.1) := by
  rw [tk_step s p h, ← NM.next_decode s p h]
theorem decode_n (s : ByteArray) (p : Nat) (h : p < s.size) : 1 ≤ (Utf8.decode s p).2 ∧ p + (Utf8.decode s p).2 ≤ s.size := by
  rw [decode_bs s p h]
  refine ⟨NM.dec_n _, ?_⟩
  obtain ⟨x, l, e⟩ : ∃ x l, (bs s).drop p = x :: l := by
    cases hd : (bs s).drop p with
    | nil => have := congrArg List.length hd; simp [bs_len] at this; omega
    | cons x l => exact ⟨x, l, rfl⟩
  have h1 := NM.dec_le x l
  have h2 := congrArg List.length e
  rw [List.length_drop, bs_len, List.length_cons] at h2
  rw [e]; omega
theorem next_n (s : ByteArray) (p : Nat) (h : p < s.size) : 1 ≤ (NM.next s p).2.1 ∧ p + (NM.next s p).2.1 ≤ s.size := by
  have := decode_n s p h
  rw [← NM.next_decode s p h] at this
  exact this
theorem dec4_lt (a b c d : Nat) (ha : a < 256) : (NM.dec4 a b c d).1 < 1114112 := by
  unfold NM.dec4
  split
  · simp only; omega
  split
  · split
    · simp only; omega
    · decide
  split
  · split
    · simp only; omega
    · decide
  split
  · rename_i h4
    split
    · rename_i hx
      have h5 := NM.long_of4 h4
      simp only [Bool.and_eq_true] at hx
      have h6 := NM.cont_of hx.1.1.1
      have h7 : a = 244 → b ≤ 143 := by
        intro e
        have h8 := hx.1.1.2
        rw [e] at h8
        simp [NM.second] at h8
        omega
      simp only
      by_cases e : a = 244
      · have := h7 e; subst e; omega
      · omega
    · decide
  · decide
theorem next_lt (s : ByteArray) (p : Nat) (h : p < s.size) : (NM.next s p).1 < 1114112 := by
  have e := congrArg Prod.fst (dec_bs s p h)
  simp only at e
  rw [e]
  unfold NM.dec
  have z : ∀ k, ((bs s).drop p).getD k 0 < 256 := fun k => by
    have := byteAt_bs s (p + k)
    have h2 := NM.byte_lt s (p + k)
    have e : (bs s).getD (p + k) 0 = ((bs s).drop p).getD k 0 := by simp [List.getD, List.getElem?_drop]
    omega
  exact dec4_lt _ _ _ _ (z 0)
theorem decode_lt (s : ByteArray) (p : Nat) (h : p < s.size) : (Utf8.decode s p).1 < 1114112 := by
  have := next_lt s p h
  rw [← NM.next_decode s p h]; exact this
def Bads (X : Nat × Nat × Bool) : Prop := X.2.2 = false → X.1 = 65533
theorem bads_ite {c : Prop} [Decidable c] {X Y : Nat × Nat × Bool} (hx : c → Bads X) (hy : ¬ c → Bads Y) : Bads (if c then X else Y) := by
  by_cases h : c
  · rw [if_pos h]; exact hx h
  · rw [if_neg h]; exact hy h
theorem next_bad (s : ByteArray) (p : Nat) : Bads (NM.next s p) := by
  unfold NM.next
  simp only
  repeat' (refine bads_ite (fun _ => ?_) (fun _ => ?_))
  all_goals (intro h; first | rfl | cases h)
/-- where a range over a text stands -/
def iterPos (w : World) (g : Nat) : Nat := match w.heap[g]? with | some (.stringIter _ p) => p | _ => 0
section
variable {P : Program} {w0 w : World} {L : List HP} {g pos : Nat} {s : ByteArray}
theorem Sat.iterPos (h : Sat w0 w (BlkO g (.stringIter s pos) :: L)) : iterPos w g = pos := by unfold YtbgbpibfmdkndaaDoor.iterPos; rw [h.blkO]
theorem Sat.iter (h : Sat w0 w L) (s : ByteArray) : Sat w0 (w.iter s 0) (BlkO w.heap.size (.stringIter s 0) :: L) := h.alloc _
theorem wpList_next {ops : Array Oper} {rest : List Oper} {o : Oper} {a : Act} {Q : Exit → Act → World → Prop} (hgd : o.guard = none) (x : Operand) (ho : o.op = .next x true)
    (hx : a.eval x = .pointer (some ⟨g, 0, none⟩)) (hS : Sat w0 w (BlkO g (.stringIter s pos) :: L)) (hp : pos < s.size)
    (h : ∀ w', Sat w0 w' (BlkO g (.stringIter s (pos + (Utf8.decode s pos).2)) :: L) → wpList P ops Q rest (a.put o.dst (.tuple #[.bool true, .int .i64 pos, .int .i32 (Utf8.decode s pos).1])) w') : wpList P ops Q (o :: rest) a w := by
  refine wpList_plain hgd fun K hK => ?_
  have hb := hS.blkO
  have hg : g < w.heap.size := (Array.getElem?_eq_some_iff.1 hb).1
  have hS2 : Sat w0 { w with heap := w.heap.setIfInBounds g (.stringIter s (pos + (Utf8.decode s pos).2)) } (BlkO g (.stringIter s (pos + (Utf8.decode s pos).2)) :: L) :=
    Sat.update hS rfl rfl rfl (by simp) (by simp [hg]) fun k _ hk => by simp [Array.getElem?_setIfInBounds, Ne.symm hk]
  unfold Oper.wp execOp
  simp only [ho, hx, Instr.next, getObj, setObj, Sem.run_bind, Sem.run, hb, Result.andThen, hp, if_true]
  simp [goInt, Sem.run, hb, Oper.upon]
  exact hK _ _ (h _ hS2)
theorem wpList_next_end {ops : Array Oper} {rest : List Oper} {o : Oper} {a : Act} {Q : Exit → Act → World → Prop} (hgd : o.guard = none) (x : Operand) (ho : o.op = .next x true)
    (hx : a.eval x = .pointer (some ⟨g, 0, none⟩)) (hS : Sat w0 w (BlkO g (.stringIter s pos) :: L)) (hp : ¬ pos < s.size)
    (h : wpList P ops Q rest (a.put o.dst (.tuple #[.bool false])) w) : wpList P ops Q (o :: rest) a w := by
  refine wpList_plain hgd fun K hK => ?_
  have hb := hS.blkO
  unfold Oper.wp execOp
  simp only [ho, hx, Instr.next, getObj, Sem.run_bind, Sem.run, hb, Result.andThen, hp, if_false]
  simp [Sem.run, Oper.upon]
  exact hK _ _ h
end
end Go.Proofs.YtbgbpibfmdkndaaDoor
