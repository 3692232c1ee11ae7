/- Fold: what stands in the buffer. -/
import Derived.Test.YtipbjcchhgbabaaDoorOA
import Derived.Lib.BufSteps
import Derived.Lib.RuneBytes
import Derived.Laws.IdiomStrings
set_option linter.unusedVariables false
set_option linter.unusedSimpArgs false
namespace Go.Proofs.YtipbjcchhgbabaaDoor
open Go.RowKit Go.ChangeShapes Go.WideShapes Go.ChangeAt
open Go.Lib (OwnBuf strCells runeCells)
theorem dec4_sur (a b c d : Nat) : (NM.dec4 a b c d).1 < 55296 ∨ 57344 ≤ (NM.dec4 a b c d).1 := by
  unfold NM.dec4
  split
  · rename_i h; have := NM.long_of1 h; simp only; omega
  split
  · split
    · simp only; omega
    · decide
  split
  · rename_i h3
    split
    · rename_i hx
      have h5 := NM.long_of3 h3
      simp only [Bool.and_eq_true] at hx
      have h6 := NM.cont_of hx.1.1
      have h7 : a = 237 → b ≤ 159 := by
        intro e
        have h8 := hx.1.2
        rw [e] at h8
        simp [NM.second] at h8
        omega
      simp only
      by_cases e : a = 237
      · have := h7 e; subst e; omega
      · omega
    · decide
  split
  · rename_i h4
    split
    · rename_i hx
      have h5 := NM.long_of4 h4
      simp only [Bool.and_eq_true] at hx
      have h6 := NM.cont_of hx.1.1.1
      have h7 := NM.second_of hx.1.1.2
      simp only
      by_cases e : a = 240
      · have := h7.2 e; subst e; omega
      · omega
    · decide
  · decide
theorem decode_sur (s : ByteArray) (p : Nat) (h : p < s.size) : (Utf8.decode s p).1 < 55296 ∨ 57344 ≤ (Utf8.decode s p).1 := by
  rw [decode_bs s p h]; exact dec4_sur _ _ _ _
theorem bs_lt (s : ByteArray) : ∀ x ∈ bs s, x < 256 := by
  intro x hx
  obtain ⟨y, _, rfl⟩ := List.mem_map.1 hx
  exact y.toNat_lt
theorem bs_strOf (l : List Nat) (h : ∀ x ∈ l, x < 256) : bs (strOf l) = l := by
  unfold bs strOf
  simp only [List.map_map]
  conv => rhs; rw [← List.map_id l]
  apply List.map_congr_left
  intro x hx
  have := h x hx
  simp only [Function.comp, UInt8.toNat_ofNat', id]
  omega
theorem bs_append (a b : ByteArray) : bs (a ++ b) = bs a ++ bs b := by simp [bs]
theorem strCells_bs (s : ByteArray) : strCells s = (bs s).map fun x => Value.int .u8 (x : Nat) := by
  unfold strCells bs
  rw [List.map_map]; rfl
theorem strCells_append (a b : ByteArray) : strCells (a ++ b) = strCells a ++ strCells b := by rw [strCells_bs, strCells_bs, strCells_bs, bs_append, List.map_append]
theorem strOf_size (l : List Nat) : (strOf l).size = l.length := by simp [strOf, ByteArray.size]
theorem enc_lt (r : Nat) (h : r < 1114112) : ∀ x ∈ NM.enc r, x < 256 := by
  intro x hx
  unfold NM.enc at hx
  split at hx
  · simp at hx; omega
  split at hx
  · simp at hx; omega
  split at hx
  · simp at hx; omega
  · simp at hx; omega
theorem vi {a : Int} {b : Nat} (h : a = b) : Value.int .u8 a = Value.int .u8 b := by rw [h]
theorem rune_cells (r : Nat) (h : r < 1114112) (hs : r < 55296 ∨ 57344 ≤ r) : runeCells (r : Int) = strCells (strOf (NM.enc r)) := by
  rw [strCells_bs, bs_strOf _ (enc_lt r h)]
  unfold runeCells NM.enc
  by_cases h1 : r < 128
  · rw [Lib.encodeRuneZ_one (by omega) (by omega), if_pos h1]; rfl
  · by_cases h2 : r < 2048
    · rw [Lib.encodeRuneZ_two (by omega) (by omega), if_neg h1, if_pos h2]
      simp only [List.map_cons, List.map_nil]
      rw [vi (show 192 + (r : Int) / 64 = ((192 + r / 64 : Nat) : Int) by omega), vi (show 128 + (r : Int) % 64 = ((128 + r % 64 : Nat) : Int) by omega)]
    · by_cases h3 : r < 65536
      · rw [Lib.encodeRuneZ_three (by omega), if_neg h1, if_neg h2, if_pos h3]
        simp only [List.map_cons, List.map_nil]
        rw [vi (show 224 + (r : Int) / 4096 = ((224 + r / 4096 : Nat) : Int) by omega), vi (show 128 + (r : Int) / 64 % 64 = ((128 + r / 64 % 64 : Nat) : Int) by omega), vi (show 128 + (r : Int) % 64 = ((128 + r % 64 : Nat) : Int) by omega)]
      · rw [Lib.encodeRuneZ_four (by omega) (by omega), if_neg h1, if_neg h2, if_neg h3]
        simp only [List.map_cons, List.map_nil]
        rw [vi (show 240 + (r : Int) / 262144 = ((240 + r / 262144 : Nat) : Int) by omega), vi (show 128 + (r : Int) / 4096 % 64 = ((128 + r / 4096 % 64 : Nat) : Int) by omega), vi (show 128 + (r : Int) / 64 % 64 = ((128 + r / 64 % 64 : Nat) : Int) by omega), vi (show 128 + (r : Int) % 64 = ((128 + r % 64 : Nat) : Int) by omega)]
def foldS (s : ByteArray) : ByteArray := strOf (NM.foldB (tk s 0))
/-- what has been folded so far -/
def FAt (s d : ByteArray) (p : Nat) : Prop := d.size = p ∧ bs d ++ NM.foldB (tk s p) = NM.foldB (tk s 0)
theorem FAt.start (s : ByteArray) : FAt s ⟨#[]⟩ 0 := ⟨rfl, rfl⟩
section
variable {s d : ByteArray} {p r n : Nat}
theorem FAt.keep (h : FAt s d p) (hp : p + n ≤ s.size) (ht : tk s p = (r, ((bs s).drop p).take n) :: tk s (p + n)) (hr : NM.smallP r = r) : FAt s (d ++ s.extract p (p + n)) (p + n) := by
  refine ⟨by rw [ByteArray.size_append, h.1, ByteArray.size_extract]; omega, ?_⟩
  rw [← h.2, ht, NM.foldB_cons, NM.foldT, if_pos hr, bs_append, bs_extract, Nat.add_sub_cancel_left, List.append_assoc]
theorem enc_small_len (h : NM.smallP r ≠ r) : (NM.enc (NM.smallP r)).length = (NM.enc r).length := by
  have hc : 65 ≤ r ∧ r ≤ 90 ∨ r = 196 ∨ r = 214 ∨ r = 220 ∨ 913 ≤ r ∧ r ≤ 937 ∧ r ≠ 930 := Decidable.by_contra fun hc => h (by unfold NM.smallP; rw [if_neg hc])
  have e : NM.smallP r = r + 32 := by unfold NM.smallP; rw [if_pos hc]
  rw [e]
  unfold NM.enc
  by_cases h1 : r < 128
  · rw [if_pos (by omega), if_pos h1]; rfl
  · rw [if_neg (by omega), if_neg h1, if_pos (by omega), if_pos (by omega)]; rfl
theorem FAt.turn (h : FAt s d p) (hp : p + n ≤ s.size) (hn : 1 ≤ n) (ht : tk s p = (r, ((bs s).drop p).take n) :: tk s (p + n)) (hr : NM.smallP r ≠ r) : FAt s (d ++ strOf (NM.enc (NM.smallP r))) (p + n) := by
  have hsm := NM.small_lt r hr
  have he := (NM.toks_enc ((bs s).drop p) (r, ((bs s).drop p).take n) (by show _ ∈ tk s p; rw [ht]; exact .head _)).2 (by
    rintro rfl; exact absurd hr (by decide))
  have hl := congrArg List.length he
  simp only [List.length_take, List.length_drop, bs_len] at hl
  rw [Nat.min_eq_left (by omega)] at hl
  refine ⟨by rw [ByteArray.size_append, h.1, strOf_size, enc_small_len hr, hl], ?_⟩
  rw [← h.2, ht, NM.foldB_cons, NM.foldT, if_neg hr, bs_append, bs_strOf _ (enc_lt _ (by omega)), List.append_assoc]
theorem FAt.done (h : FAt s d p) (hp : s.size ≤ p) : d = foldS s := by
  have := h.2
  rw [tk_end s p hp, show NM.foldB [] = [] from rfl, List.append_nil] at this
  unfold foldS
  rw [← this, strOf_bs]
theorem keep_cells (hp : p + n ≤ s.size) (ht : tk s p = (r, ((bs s).drop p).take n) :: tk s (p + n)) (hr : r ≠ 65533) (hl : r < 1114112) (hs : r < 55296 ∨ 57344 ≤ r) : runeCells (r : Int) = strCells (s.extract p (p + n)) ∧ (runeCells (r : Int)).length = n := by
  have he := (NM.toks_enc ((bs s).drop p) (r, ((bs s).drop p).take n) (by show _ ∈ tk s p; rw [ht]; exact .head _)).2 hr
  have hx : strOf (NM.enc r) = s.extract p (p + n) := by rw [← he, ← strOf_bs (s.extract p (p + n)), bs_extract, Nat.add_sub_cancel_left]
  rw [rune_cells r hl hs, hx]
  refine ⟨rfl, ?_⟩
  rw [Lib.strCells_length, ByteArray.size_extract]; omega
theorem turn_cells (hp : p + n ≤ s.size) (ht : tk s p = (r, ((bs s).drop p).take n) :: tk s (p + n)) (hr : NM.smallP r ≠ r) : runeCells (NM.smallP r : Int) = strCells (strOf (NM.enc (NM.smallP r))) ∧ (runeCells (NM.smallP r : Int)).length = n := by
  have hsm := NM.small_lt r hr
  have he := (NM.toks_enc ((bs s).drop p) (r, ((bs s).drop p).take n) (by show _ ∈ tk s p; rw [ht]; exact .head _)).2 (by
    rintro rfl; exact absurd hr (by decide))
  have hl := congrArg List.length he
  simp only [List.length_take, List.length_drop, bs_len] at hl
  rw [Nat.min_eq_left (by omega)] at hl
  rw [rune_cells _ (by omega) (by omega)]
  exact ⟨rfl, by rw [Lib.strCells_length, strOf_size, enc_small_len hr, hl]⟩
end
/-- the buffer, and where the range stands -/
def FBuf (w : World) (s d : ByteArray) (p : Nat) (b : Value) (wr : World) : Prop := OwnBuf (w.heap.size + 1) 5 b d.size (strCells d) (w.alloc (.stringIter s p)) wr
section
variable {w wr wr' : World} {s d e : ByteArray} {p q : Nat} {b b' : Value}
theorem FBuf.it (h : FBuf w s d p b wr) : wr.heap[w.heap.size]? = some (.stringIter s p) := (h.2.1.block w.heap.size (by omega)).trans (heap_alloc_new w _)
theorem FBuf.pos (h : FBuf w s d p b wr) : iterPos wr w.heap.size = p := by unfold iterPos; rw [h.it]
theorem FBuf.sz (h : FBuf w s d p b wr) : w.heap.size + 1 ≤ wr.heap.size := h.2.2
theorem FBuf.start (w : World) (s : ByteArray) : FBuf w s ⟨#[]⟩ 0 (.slice none 0 0) (w.alloc (.stringIter s 0)) :=
  ⟨World.ownsRowF_nil _ _ _ _, Below.refl _ _, by simp⟩
theorem FBuf.next (h : FBuf w s d p b wr) (q : Nat) : FBuf w s d q b { wr with heap := wr.heap.setIfInBounds w.heap.size (.stringIter s q) } := by
  have hs := h.sz
  refine ⟨⟨h.1.1, ?_⟩, ⟨h.2.1.os, h.2.1.tape, h.2.1.output, by simp; omega, fun k hk => ?_⟩, by simp; omega⟩
  · rcases h.1.2 with e | ⟨g, cap, cur, fz, e, hb, hg, rest⟩
    · exact .inl e
    · refine .inr ⟨g, cap, cur, fz, e, hb, ?_, rest⟩
      simp only [Array.getElem?_setIfInBounds]
      rw [if_neg (by omega)]; exact hg
  · by_cases hkw : k = w.heap.size
    · subst hkw
      rw [heap_alloc_new]
      simp only [Array.getElem?_setIfInBounds, if_true]
      rw [if_pos (by omega)]
    · have h1 := h.2.1.block k hk
      rw [heap_alloc_old w _ (by omega)] at h1 ⊢
      rw [← h1]
      simp only [Array.getElem?_setIfInBounds]
      rw [if_neg (by omega)]
theorem FBuf.below (h : FBuf w s d p b wr) (hb : Below wr.heap.size wr wr') : FBuf w s d p b wr' := by
  have hs := h.sz
  refine ⟨⟨h.1.1, ?_⟩, ⟨hb.os.trans h.2.1.os, hb.tape.trans h.2.1.tape, hb.output.trans h.2.1.output, Nat.le_trans h.2.1.size hb.size, fun k hk => (hb.block k (by omega)).trans (h.2.1.block k hk)⟩, Nat.le_trans h.2.2 hb.size⟩
  rcases h.1.2 with e | ⟨g, cap, cur, fz, e, hbg, hg, rest⟩
  · exact .inl e
  · exact .inr ⟨g, cap, cur, fz, e, hbg, (hb.block g (Array.getElem?_eq_some_iff.1 hg).1).trans hg, rest⟩
theorem FBuf.out (h : FBuf w s d p b wr) : Below w.heap.size w wr :=
  ⟨h.2.1.os, h.2.1.tape, h.2.1.output, by have := h.sz; omega, fun k hk => (h.2.1.block k (by omega)).trans (heap_alloc_old w _ hk)⟩
theorem FBuf.grown {xs : List Value} {m : Nat} (h : FBuf w s d p b wr) (hm : m = e.size) (hx : xs = strCells e) (ho : wr'.ownsRowF (w.heap.size + 1) 5 1 b' (d.size + m) (strCells d ++ xs)) (hg : ∃ o, (wr.alloc o).grownBy wr' b.ownBlock) : FBuf w s (d ++ e) p b' wr' := by
  subst hm hx
  obtain ⟨o, hg⟩ := hg
  unfold FBuf
  rw [ByteArray.size_append, strCells_append]
  exact (OwnBuf.alloc h o).grown ho hg
/-- the text that the buffer holds -/
theorem FBuf.text {P : Program} (h : FBuf w s d p b wr) (src dst e : TypeId) (hs : P.underlying src = some (.slice e)) (he : P.underlying e = some (.int .u8)) (hd : P.underlying dst = some .string) : (convert src dst b).run P wr = .ok (.string d) wr := by
  rcases h.1.2 with ⟨rfl, hn⟩ | ⟨g, cap, cur, fz, rfl, hbg, hg, hrest⟩
  · rw [run_convert_bytes_string wr src dst e none 0 0 hs he hd]
    have : d = ⟨#[]⟩ := by
      apply ByteArray.ext
      exact Array.eq_empty_of_size_eq_zero hn
    rw [this]; rfl
  · have hc : ∀ j (hj : j < d.data.toList.length), wr.cell? ((⟨g, 0, none⟩ : Addr).add j) = some (.int .u8 (d.data.toList[j].toNat : Int)) := by
      intro j hj
      refine h.1.cells rfl j _ ?_
      simp [strCells]
      exact ⟨_, Array.getElem?_eq_getElem (by simpa using hj), rfl⟩
    have := run_convert_bytes_back (P := P) wr src dst e ⟨g, 0, none⟩ cap d.data.toList hs he hd hc
    rw [Array.length_toList] at this
    exact this
end
section
variable {P : Program} {w wr : World} {s d e : ByteArray} {p : Nat} {b : Value}
theorem wpList_nextB {ops : Array Oper} {rest : List Oper} {o : Oper} {a : Act} {Q : Exit → Act → World → Prop} (hgd : o.guard = none) (x : Operand) (ho : o.op = .next x true)
    (hx : a.eval x = .pointer (some ⟨w.heap.size, 0, none⟩)) (hS : FBuf w s d p b wr) (hp : p < s.size)
    (h : ∀ w', FBuf w s d (p + (Utf8.decode s p).2) b w' → wpList P ops Q rest (a.put o.dst (.tuple #[.bool true, .int .i64 p, .int .i32 (Utf8.decode s p).1])) w') : wpList P ops Q (o :: rest) a wr := by
  refine wpList_plain hgd fun K hK => ?_
  have hb := hS.it
  unfold Oper.wp execOp
  simp only [ho, hx, Instr.next, getObj, setObj, Sem.run_bind, Sem.run, hb, Result.andThen, hp, if_true]
  simp [goInt, Sem.run, hb, Oper.upon]
  exact hK _ _ (h _ (hS.next _))
theorem wpList_nextB_end {ops : Array Oper} {rest : List Oper} {o : Oper} {a : Act} {Q : Exit → Act → World → Prop} (hgd : o.guard = none) (x : Operand) (ho : o.op = .next x true)
    (hx : a.eval x = .pointer (some ⟨w.heap.size, 0, none⟩)) (hS : FBuf w s d p b wr) (hp : ¬ p < s.size)
    (h : wpList P ops Q rest (a.put o.dst (.tuple #[.bool false])) wr) : wpList P ops Q (o :: rest) a wr := by
  refine wpList_plain hgd fun K hK => ?_
  have hb := hS.it
  unfold Oper.wp execOp
  simp only [ho, hx, Instr.next, getObj, Sem.run_bind, Sem.run, hb, Result.andThen, hp, if_false]
  simp [Sem.run, Oper.upon]
  exact hK _ _ h
theorem wpList_textB {ops : Array Oper} {rest : List Oper} {o : Oper} {a : Act} {Q : Exit → Act → World → Prop} (hgd : o.guard = none) (x : Operand) (t u e : TypeId) (ho : o.op = .convert t u x) (hx : a.eval x = b) (hS : FBuf w s d p b wr)
    (hs : P.underlying t = some (.slice e)) (he : P.underlying e = some (.int .u8)) (hd : P.underlying u = some .string) (h : wpList P ops Q rest (a.put o.dst (.string d)) wr) : wpList P ops Q (o :: rest) a wr := by
  refine wpList_plain hgd fun K hK => ?_
  unfold Oper.wp execOp
  simp only [ho, hx, Sem.run_bind, hS.text t u e hs he hd, Result.andThen, Sem.run_pure, Oper.upon]
  exact hK _ _ h
end
end Go.Proofs.YtipbjcchhgbabaaDoor
