import Derived.Test.YtpmoanjeoaeabaaDoorA1
import Derived.Test.YtpmoanjeoaeabaaDoorA2
import Derived.Test.YtpmoanjeoaeabaaDoorShelf
import Derived.Deep.RegionHeld3
section
/- A range over a text; what the reading of runes comes to. -/
set_option linter.unusedVariables false
set_option linter.unusedSimpArgs false
namespace Go.Proofs.YtpmoanjeoaeabaaDoor
open Go.RowKit Go.ChangeShapes Go.WideShapes Go.ChangeAt
/-- a text's bytes, as numbers -/
def bs (s : ByteArray) : List Nat := s.data.toList.map (·.toNat)
theorem bs_len (s : ByteArray) : (bs s).length = s.size := by simp [bs]
theorem byteAt_bs (s : ByteArray) (i : Nat) : NM.byteAt s i = (bs s).getD i 0 := by
  unfold NM.byteAt bs
  by_cases h : i < s.size
  · have h' : i < s.data.toList.length := by simpa using h
    rw [List.getD, List.getElem?_map, List.getElem?_eq_getElem h']
    simp [ByteArray.get!]
    exact congrArg UInt8.toNat (getElem!_pos s.data i h)
  · have h' : ¬ i < s.data.size := h
    rw [List.getD, List.getElem?_eq_none (by simpa using h')]
    simp [ByteArray.get!]
    rw [getElem!_neg s.data i h']; rfl
theorem dec_bs (s : ByteArray) (at_ : Nat) (h : at_ < s.size) : ((NM.next s at_).1, (NM.next s at_).2.1) = NM.dec ((bs s).drop at_) := by
  have e : ∀ k, (bs s).getD (at_ + k) 0 = ((bs s).drop at_).getD k 0 := fun k => by simp [List.getD, List.getElem?_drop]
  have z : ∀ k, s.size - at_ < k + 1 → NM.byteAt s (at_ + k) = 0 := fun k hk => by
    rw [byteAt_bs, List.getD, List.getElem?_eq_none (by rw [bs_len]; omega)]; rfl
  have h1 : NM.next s at_ = NM.nextN (NM.byteAt s (at_ + 0)) (NM.byteAt s (at_ + 1)) (NM.byteAt s (at_ + 2)) (NM.byteAt s (at_ + 3)) (s.size - at_) := rfl
  rw [h1, NM.dec4_next _ _ _ _ _ (by omega) (z 1) (z 2) (z 3)]
  unfold NM.dec
  rw [byteAt_bs, byteAt_bs, byteAt_bs, byteAt_bs, e, e, e, e]
theorem decode_bs (s : ByteArray) (at_ : Nat) (h : at_ < s.size) : Utf8.decode s at_ = NM.dec ((bs s).drop at_) := by rw [← NM.next_decode s at_ h, dec_bs s at_ h]
/-- the tokens from a place on -/
def tk (s : ByteArray) (p : Nat) : List NM.Tok := NM.toks ((bs s).drop p)
theorem tk_end (s : ByteArray) (p : Nat) (h : s.size ≤ p) : tk s p = [] := by
  unfold tk; rw [List.drop_of_length_le (by rw [bs_len]; exact h)]; rfl
theorem tk_step (s : ByteArray) (p : Nat) (h : p < s.size) : tk s p = ((Utf8.decode s p).1, ((bs s).drop p).take (Utf8.decode s p).2) :: tk s (p + (Utf8.decode s p).2) := by
  unfold tk
  rw [NM.toks_step _ (by intro e; have := congrArg List.length e; simp [bs_len] at this; omega), decode_bs s p h, List.drop_drop]
theorem tk_next (s : ByteArray) (p : Nat) (h : p < s.size) : tk s p = ((NM.next s p).1, ((bs s).drop p).take (NM.next s p).2.1) :: tk s (p + (NM.next s p).2.1) := by
  rw [tk_step s p h, ← NM.next_decode s p h]
theorem decode_n (s : ByteArray) (p : Nat) (h : p < s.size) : 1 ≤ (Utf8.decode s p).2 ∧ p + (Utf8.decode s p).2 ≤ s.size := by
  rw [decode_bs s p h]
  refine ⟨NM.dec_n _, ?_⟩
  obtain ⟨x, l, e⟩ : ∃ x l, (bs s).drop p = x :: l := by
    cases hd : (bs s).drop p with
    | nil => have := congrArg List.length hd; simp [bs_len] at this; omega
    | cons x l => exact ⟨x, l, rfl⟩
  have h1 := NM.dec_le x l
  have h2 := congrArg List.length e
  rw [List.length_drop, bs_len, List.length_cons] at h2
  rw [e]; omega
theorem next_n (s : ByteArray) (p : Nat) (h : p < s.size) : 1 ≤ (NM.next s p).2.1 ∧ p + (NM.next s p).2.1 ≤ s.size := by
  have := decode_n s p h
  rw [← NM.next_decode s p h] at this
  exact this
theorem dec4_lt (a b c d : Nat) (ha : a < 256) : (NM.dec4 a b c d).1 < 1114112 := by
  unfold NM.dec4
  split
  · simp only; omega
  split
  · split
    · simp only; omega
    · decide
  split
  · split
    · simp only; omega
    · decide
  split
  · rename_i h4
    split
    · rename_i hx
      have h5 := NM.long_of4 h4
      simp only [Bool.and_eq_true] at hx
      have h6 := NM.cont_of hx.1.1.1
      have h7 : a = 244 → b ≤ 143 := by
        intro e
        have h8 := hx.1.1.2
        rw [e] at h8
        simp [NM.second] at h8
        omega
      simp only
      by_cases e : a = 244
      · have := h7 e; subst e; omega
      · omega
    · decide
  · decide
theorem next_lt (s : ByteArray) (p : Nat) (h : p < s.size) : (NM.next s p).1 < 1114112 := by
  have e := congrArg Prod.fst (dec_bs s p h)
  simp only at e
  rw [e]
  unfold NM.dec
  have z : ∀ k, ((bs s).drop p).getD k 0 < 256 := fun k => by
    have := byteAt_bs s (p + k)
    have h2 := NM.byte_lt s (p + k)
    have e : (bs s).getD (p + k) 0 = ((bs s).drop p).getD k 0 := by simp [List.getD, List.getElem?_drop]
    omega
  exact dec4_lt _ _ _ _ (z 0)
theorem decode_lt (s : ByteArray) (p : Nat) (h : p < s.size) : (Utf8.decode s p).1 < 1114112 := by
  have := next_lt s p h
  rw [← NM.next_decode s p h]; exact this
def Bads (X : Nat × Nat × Bool) : Prop := X.2.2 = false → X.1 = 65533
theorem bads_ite {c : Prop} [Decidable c] {X Y : Nat × Nat × Bool} (hx : c → Bads X) (hy : ¬ c → Bads Y) : Bads (if c then X else Y) := by
  by_cases h : c
  · rw [if_pos h]; exact hx h
  · rw [if_neg h]; exact hy h
theorem next_bad (s : ByteArray) (p : Nat) : Bads (NM.next s p) := by
  unfold NM.next
  simp only
  repeat' (refine bads_ite (fun _ => ?_) (fun _ => ?_))
  all_goals (intro h; first | rfl | cases h)
/-- where a range over a text stands -/
def iterPos (w : World) (g : Nat) : Nat := match w.heap[g]? with | some (.stringIter _ p) => p | _ => 0
section
variable {P : Program} {w0 w : World} {L : List HP} {g pos : Nat} {s : ByteArray}
theorem Sat.iterPos (h : Sat w0 w (BlkO g (.stringIter s pos) :: L)) : iterPos w g = pos := by unfold YtpmoanjeoaeabaaDoor.iterPos; rw [h.blkO]
theorem Sat.iter (h : Sat w0 w L) (s : ByteArray) : Sat w0 (w.iter s 0) (BlkO w.heap.size (.stringIter s 0) :: L) := h.alloc _
theorem wpList_next {ops : Array Oper} {rest : List Oper} {o : Oper} {a : Act} {Q : Exit → Act → World → Prop} (hgd : o.guard = none) (x : Operand) (ho : o.op = .next x true)
    (hx : a.eval x = .pointer (some ⟨g, 0, none⟩)) (hS : Sat w0 w (BlkO g (.stringIter s pos) :: L)) (hp : pos < s.size)
    (h : ∀ w', Sat w0 w' (BlkO g (.stringIter s (pos + (Utf8.decode s pos).2)) :: L) → wpList P ops Q rest (a.put o.dst (.tuple #[.bool true, .int .i64 pos, .int .i32 (Utf8.decode s pos).1])) w') : wpList P ops Q (o :: rest) a w := by
  refine wpList_plain hgd fun K hK => ?_
  have hb := hS.blkO
  have hg : g < w.heap.size := (Array.getElem?_eq_some_iff.1 hb).1
  have hS2 : Sat w0 { w with heap := w.heap.setIfInBounds g (.stringIter s (pos + (Utf8.decode s pos).2)) } (BlkO g (.stringIter s (pos + (Utf8.decode s pos).2)) :: L) :=
    Sat.update hS rfl rfl rfl (by simp) (by simp [hg]) fun k _ hk => by simp [Array.getElem?_setIfInBounds, Ne.symm hk]
  unfold Oper.wp execOp
  simp only [ho, hx, Instr.next, getObj, setObj, Sem.run_bind, Sem.run, hb, Result.andThen, hp, if_true]
  simp [goInt, Sem.run, hb, Oper.upon]
  exact hK _ _ (h _ hS2)
theorem wpList_next_end {ops : Array Oper} {rest : List Oper} {o : Oper} {a : Act} {Q : Exit → Act → World → Prop} (hgd : o.guard = none) (x : Operand) (ho : o.op = .next x true)
    (hx : a.eval x = .pointer (some ⟨g, 0, none⟩)) (hS : Sat w0 w (BlkO g (.stringIter s pos) :: L)) (hp : ¬ pos < s.size)
    (h : wpList P ops Q rest (a.put o.dst (.tuple #[.bool false])) w) : wpList P ops Q (o :: rest) a w := by
  refine wpList_plain hgd fun K hK => ?_
  have hb := hS.blkO
  unfold Oper.wp execOp
  simp only [ho, hx, Instr.next, getObj, Sem.run_bind, Sem.run, hb, Result.andThen, hp, if_false]
  simp [Sem.run, Oper.upon]
  exact hK _ _ h
end
end Go.Proofs.YtpmoanjeoaeabaaDoor
end

section
/- Is: the program's and the document's. -/
set_option linter.unusedVariables false
set_option linter.unusedSimpArgs false
namespace Go.Proofs.YtpmoanjeoaeabaaDoor
open Go.RowKit Go.ChangeShapes Go.WideShapes Go.ChangeAt
theorem isT_step (s : ByteArray) (p n : Nat) (h : p < s.size) : NM.isT n (tk s p) = (NM.okT n (Utf8.decode s p).1 && NM.isT (n + 1) (tk s (p + (Utf8.decode s p).2))) := by rw [tk_step s p h]; rfl
def IsRel (w : World) (s : ByteArray) (n : Value) (wr : World) : Prop :=
  ∃ p k : Nat, p ≤ s.size ∧ k ≤ p ∧ n = .int .i64 k ∧ NM.isT 0 (tk s 0) = NM.isT k (tk s p) ∧ Sat w wr [BlkO w.heap.size (.stringIter s p), Old w]
/-- the cases of a token -/
theorem okT_cases (n r : Nat) : (letterB r = true ∧ NM.okT n r = true) ∨ (letterB r = false ∧ n = 0 ∧ NM.okT n r = false) ∨ (letterB r = false ∧ 0 < n ∧ r = 45 ∧ NM.okT n r = true) ∨
    (letterB r = false ∧ 0 < n ∧ r ≠ 45 ∧ r < 48 ∧ NM.okT n r = false) ∨ (letterB r = false ∧ 0 < n ∧ r ≠ 45 ∧ 48 ≤ r ∧ 57 < r ∧ NM.okT n r = false) ∨ (letterB r = false ∧ 0 < n ∧ r ≠ 45 ∧ 48 ≤ r ∧ r ≤ 57 ∧ NM.okT n r = true) := by
  have e : NM.letterP r = letterB r := rfl
  unfold NM.okT
  rw [e]
  cases letterB r with
  | true => left; exact ⟨rfl, rfl⟩
  | false =>
    right
    simp only [true_and, Bool.false_or]
    by_cases h0 : n = 0
    · left; subst h0; simp
    · have : 0 < n := by omega
      right
      by_cases h1 : r = 45
      · left; subst h1; simp [this]
      · right
        by_cases h2 : r < 48
        · left; refine ⟨this, h1, h2, ?_⟩; simp [h1]; omega
        · right
          by_cases h3 : 57 < r
          · left; refine ⟨this, h1, by omega, h3, ?_⟩; simp [h1]; omega
          · right; refine ⟨this, h1, by omega, by omega, ?_⟩; simp [this]; omega
set_option maxRecDepth 100000 in
set_option maxHeartbeats 1600000 in
theorem is_any (s : ByteArray) (w : World) (hs : s.size ≤ 140737488351232) :
    Calls Tryd.prog 36 #[.string s] w fun e w' => e = .returned (.bool (NM.isT 0 (tk s 0))) ∧ Below w.heap.size w w' := by
  have hS := (Sat.start w).iter s
  go_enter Tryd.func36, Tryd.ntmps36
  go_wp2_with fail
  go_loopw [3] (IsRel w s) (fun _ wr => s.size - iterPos wr w.heap.size)
  case atStart => exact ⟨0, 0, Nat.zero_le _, Nat.le_refl _, rfl, rfl, hS⟩
  case round =>
    obtain ⟨p, k, hp, hkp, rfl, hI, hT⟩ := hrel
    clear hS
    by_cases hlt : p < s.size
    · have hI2 := Lib.hid (hI.trans (isT_step s p k hlt))
      obtain ⟨hn1, hn2⟩ := decode_n s p hlt
      have hr := decode_lt s p hlt
      have hpos := Lib.hid hT.iterPos
      obtain ⟨r, hrr⟩ : ∃ r, (Utf8.decode s p).1 = r := ⟨_, rfl⟩
      obtain ⟨n, hnn⟩ : ∃ n, (Utf8.decode s p).2 = n := ⟨_, rfl⟩
      have HR := Lib.hid hrr
      have HN := Lib.hid hnn
      rw [hrr] at hr
      rw [hnn] at hn1 hn2
      have hI3 : Hid (NM.isT 0 (tk s 0) = (NM.okT k r && NM.isT (k + 1) (tk s (p + n)))) := by show _ = _; rw [hI2.out, hrr, hnn]
      clear hI hI2 hrr hnn
      rcases okT_cases k r with ⟨hl, ho⟩ | ⟨hl, h0, ho⟩ | ⟨hl, h0, h1, ho⟩ | ⟨hl, h0, h1, h2, ho⟩ | ⟨hl, h0, h1, h2, h3, ho⟩ | ⟨hl, h0, h1, h2, h3, ho⟩
      · have HO := Lib.hid ho
        clear ho
        go_wp2_with (first
          | (refine wpList_next rfl (.tmp 7) rfl (by rfl) hT hlt ?_; intro w2 hT2; rw [HR.out]; rw [HN.out] at hT2)
          | (go_at_call 64; refine (letter_any r _ hr).mono ?_; rintro e w3 ⟨rfl, rfl⟩; rw [hl]))
        refine ⟨⟨p + n, k + 1, by omega, by omega, by go_num, hI3.out.trans (by rw [HO.out]; simp), hT2⟩, ?_⟩
        rw [hT2.iterPos, hpos.out]; omega
      · have HO := Lib.hid ho
        clear ho
        have t0 : ((k : Int) == 0) = true := by simp [h0]
        clear h0
        go_wp2_with (first
          | (refine wpList_next rfl (.tmp 7) rfl (by rfl) hT hlt ?_; intro w2 hT2; rw [HR.out]; rw [HN.out] at hT2)
          | (go_at_call 64; refine (letter_any r _ hr).mono ?_; rintro e w3 ⟨rfl, rfl⟩; rw [hl]))
        go_ret
        exact ⟨by rw [hI3.out, HO.out]; rfl, hT2.old (by simp)⟩
      · have HO := Lib.hid ho
        clear ho
        have t0 : ((k : Int) == 0) = false := by rw [beq_eq_false_iff_ne]; omega
        have t1 : ((r : Int) != 45) = false := by simp [h1]
        clear h0 h1
        go_wp2_with (first
          | (refine wpList_next rfl (.tmp 7) rfl (by rfl) hT hlt ?_; intro w2 hT2; rw [HR.out]; rw [HN.out] at hT2)
          | (go_at_call 64; refine (letter_any r _ hr).mono ?_; rintro e w3 ⟨rfl, rfl⟩; rw [hl]))
        refine ⟨⟨p + n, k + 1, by omega, by omega, by go_num, hI3.out.trans (by rw [HO.out]; simp), hT2⟩, ?_⟩
        rw [hT2.iterPos, hpos.out]; omega
      · have HO := Lib.hid ho
        clear ho
        have t0 : ((k : Int) == 0) = false := by rw [beq_eq_false_iff_ne]; omega
        have t1 : ((r : Int) != 45) = true := by rw [bne_iff_ne]; omega
        have t2 : decide ((r : Int) < 48) = true := decide_eq_true (by omega)
        clear h0 h1 h2
        go_wp2_with (first
          | (refine wpList_next rfl (.tmp 7) rfl (by rfl) hT hlt ?_; intro w2 hT2; rw [HR.out]; rw [HN.out] at hT2)
          | (go_at_call 64; refine (letter_any r _ hr).mono ?_; rintro e w3 ⟨rfl, rfl⟩; rw [hl]))
        go_ret
        exact ⟨by rw [hI3.out, HO.out]; rfl, hT2.old (by simp)⟩
      · have HO := Lib.hid ho
        clear ho
        have t0 : ((k : Int) == 0) = false := by rw [beq_eq_false_iff_ne]; omega
        have t1 : ((r : Int) != 45) = true := by rw [bne_iff_ne]; omega
        have t2 : decide ((r : Int) < 48) = false := decide_eq_false (by omega)
        have t3 : decide ((57 : Int) < (r : Int)) = true := decide_eq_true (by omega)
        clear h0 h1 h2 h3
        go_wp2_with (first
          | (refine wpList_next rfl (.tmp 7) rfl (by rfl) hT hlt ?_; intro w2 hT2; rw [HR.out]; rw [HN.out] at hT2)
          | (go_at_call 64; refine (letter_any r _ hr).mono ?_; rintro e w3 ⟨rfl, rfl⟩; rw [hl]))
        go_ret
        exact ⟨by rw [hI3.out, HO.out]; rfl, hT2.old (by simp)⟩
      · have HO := Lib.hid ho
        clear ho
        have t0 : ((k : Int) == 0) = false := by rw [beq_eq_false_iff_ne]; omega
        have t1 : ((r : Int) != 45) = true := by rw [bne_iff_ne]; omega
        have t2 : decide ((r : Int) < 48) = false := decide_eq_false (by omega)
        have t3 : decide ((57 : Int) < (r : Int)) = false := decide_eq_false (by omega)
        clear h0 h1 h2 h3
        go_wp2_with (first
          | (refine wpList_next rfl (.tmp 7) rfl (by rfl) hT hlt ?_; intro w2 hT2; rw [HR.out]; rw [HN.out] at hT2)
          | (go_at_call 64; refine (letter_any r _ hr).mono ?_; rintro e w3 ⟨rfl, rfl⟩; rw [hl]))
        refine ⟨⟨p + n, k + 1, by omega, by omega, by go_num, hI3.out.trans (by rw [HO.out]; simp), hT2⟩, ?_⟩
        rw [hT2.iterPos, hpos.out]; omega
    · have HE : Hid (NM.isT k (tk s p) = decide (1 ≤ k ∧ k ≤ 8)) := by show _ = _; rw [tk_end s p (by omega)]; rfl
      have HI := Lib.hid hI
      clear hI
      have key : (k = 0 ∧ decide (1 ≤ k ∧ k ≤ 8) = false) ∨ (0 < k ∧ k ≤ 8 ∧ decide (1 ≤ k ∧ k ≤ 8) = true) ∨ (0 < k ∧ 8 < k ∧ decide (1 ≤ k ∧ k ≤ 8) = false) := by
        by_cases h0 : k = 0
        · left; subst h0; exact ⟨rfl, by decide⟩
        · right
          by_cases h8 : k ≤ 8
          · left; exact ⟨by omega, h8, by apply decide_eq_true; omega⟩
          · right; exact ⟨by omega, by omega, by apply decide_eq_false; omega⟩
      rcases key with ⟨h0, hd⟩ | ⟨h0, h8, hd⟩ | ⟨h0, h8, hd⟩
      · subst h0
        have HD := Lib.hid hd
        clear hd
        go_wp2_with (refine wpList_next_end rfl (.tmp 7) rfl (by rfl) hT hlt ?_)
        go_ret
        exact ⟨by rw [HI.out, HE.out, HD.out]; rfl, hT.old (by simp)⟩
      · have HD := Lib.hid hd
        have t0 : decide (0 < k) = true := decide_eq_true (by omega)
        have t1 : decide ((k : Int) ≤ 8) = true := decide_eq_true (by omega)
        clear hd h0 h8
        go_wp2_with (refine wpList_next_end rfl (.tmp 7) rfl (by rfl) hT hlt ?_)
        go_ret
        exact ⟨by rw [HI.out, HE.out, HD.out]; rfl, hT.old (by simp)⟩
      · have HD := Lib.hid hd
        have t0 : decide (0 < k) = true := decide_eq_true (by omega)
        have t1 : decide ((k : Int) ≤ 8) = false := decide_eq_false (by omega)
        clear hd h0 h8
        go_wp2_with (refine wpList_next_end rfl (.tmp 7) rfl (by rfl) hT hlt ?_)
        go_ret
        exact ⟨by rw [HI.out, HE.out, HD.out]; rfl, hT.old (by simp)⟩
end Go.Proofs.YtpmoanjeoaeabaaDoor
end

section
/- Is: the document's. -/
set_option linter.unusedVariables false
set_option linter.unusedSimpArgs false
namespace Go.Proofs.YtpmoanjeoaeabaaDoor
open Go.RowKit Go.ChangeShapes Go.WideShapes Go.ChangeAt
theorem next_at (s : ByteArray) (p r n : Nat) (ok : Bool) (w : World) (h : p < s.size) (hs : s.size ≤ 140737488351232) (hX : NM.next s p = (r, n, ok)) :
    Calls Tryd.prog 73 #[.string s, .int .i64 p] w fun e w' => e = .returned (.tuple #[.int .i64 r, .int .i64 n, .bool ok]) ∧ w' = w := by
  have := next_any s p w h hs
  rw [hX] at this
  exact this
theorem ret_bool {a b : Bool} (h : a = b) : Ending.returned (.bool a) = .returned (.bool b) := by rw [h]
def RIsRel (s : ByteArray) (n at_ : Value) : Prop :=
  ∃ p k : Nat, p ≤ s.size ∧ k ≤ p ∧ n = .int .i64 k ∧ at_ = .int .i64 p ∧ NM.isT 0 (tk s 0) = NM.isT k (tk s p)
set_option maxRecDepth 100000 in
set_option maxHeartbeats 1600000 in
theorem ris_any (s : ByteArray) (w : World) (hs : s.size ≤ 140737488351232) :
    Calls Tryd.prog 47 #[.string s] w fun e w' => e = .returned (.bool (NM.isT 0 (tk s 0))) ∧ w' = w := by
  go_enter Tryd.func47, Tryd.ntmps47
  go_wp2_with fail
  go_loop [3, 4] (RIsRel s) (fun _ a => s.size - (intOf a).toNat)
  case atStart => exact ⟨0, 0, Nat.zero_le _, Nat.le_refl _, rfl, rfl, rfl⟩
  case round =>
    obtain ⟨p, k, hp, hkp, rfl, rfl, hI⟩ := hrel
    by_cases hlt : p < s.size
    · have hI2 : NM.isT k (tk s p) = (NM.okT k (NM.next s p).1 && NM.isT (k + 1) (tk s (p + (NM.next s p).2.1))) := by rw [tk_next s p hlt]; rfl
      obtain ⟨hn1, hn2⟩ := next_n s p hlt
      have hr := next_lt s p hlt
      have hbad : (NM.next s p).2.2 = false → (NM.next s p).1 = 65533 := next_bad s p
      obtain ⟨⟨r, n, ok⟩, hX⟩ : ∃ X, NM.next s p = X := ⟨_, rfl⟩
      rw [hX] at hI2 hn1 hn2 hr hbad
      simp only at hI2 hn1 hn2 hr hbad
      have HX := Lib.hid hX
      have hI3 := Lib.hid (hI.trans hI2)
      have HB := Lib.hid hbad
      clear hI hI2 hX hbad
      have swn : IntKind.i64.wrap ((p : Int) + (n : Int)) = ((p + n : Nat) : Int) := by rw [IntWalk.i64_in _ (by omega)]; omega
      cases ok with
      | false =>
        have HO : Hid (NM.okT k r = false) := by
          show _ = _
          rw [HB.out rfl]
          rcases okT_cases k 65533 with ⟨h, _⟩ | ⟨_, _, h⟩ | ⟨_, _, h, _⟩ | ⟨_, _, _, _, h⟩ | ⟨_, _, _, _, _, h⟩ | ⟨_, _, _, _, h, _⟩
          · exact absurd h (by decide)
          · exact h
          · omega
          · exact h
          · exact h
          · omega
        go_wp2_with (first
          | (go_at_call 73; refine (next_at s p r n _ _ hlt hs HX.out).mono ?_; rintro e w1 ⟨rfl, rfl⟩)
          | (go_at_call 74; refine (rletter_any r _ hr).mono ?_; rintro e w3 ⟨rfl, rfl⟩))
        go_ret
        exact ⟨by rw [hI3.out, HO.out]; rfl, rfl⟩
      | true =>
        rcases okT_cases k r with ⟨hl, ho⟩ | ⟨hl, h0, ho⟩ | ⟨hl, h0, h1, ho⟩ | ⟨hl, h0, h1, h2, ho⟩ | ⟨hl, h0, h1, h2, h3, ho⟩ | ⟨hl, h0, h1, h2, h3, ho⟩
        · have HO := Lib.hid ho
          clear ho
          go_wp2_with (first
            | (go_at_call 73; refine (next_at s p r n _ _ hlt hs HX.out).mono ?_; rintro e w1 ⟨rfl, rfl⟩)
            | (go_at_call 74; refine (rletter_any r _ hr).mono ?_; rintro e w3 ⟨rfl, rfl⟩; rw [hl]))
          go_round
          case rel => exact ⟨p + n, k + 1, by omega, by omega, by first | rfl | go_num, by first | rfl | go_num, hI3.out.trans (by rw [HO.out]; simp)⟩
          case measure => simp [intOf]; omega
        · subst h0
          have HO := Lib.hid ho
          clear ho
          go_wp2_with (first
            | (go_at_call 73; refine (next_at s p r n _ _ hlt hs HX.out).mono ?_; rintro e w1 ⟨rfl, rfl⟩)
            | (go_at_call 74; refine (rletter_any r _ hr).mono ?_; rintro e w3 ⟨rfl, rfl⟩; rw [hl]))
          go_ret
          exact ⟨by rw [hI3.out, HO.out]; rfl, rfl⟩
        · have HO := Lib.hid ho
          clear ho
          have t0 : decide (0 < k) = true := decide_eq_true h0
          have t1 : ((r : Int) == 45) = true := by simp [h1]
          clear h0 h1
          go_wp2_with (first
            | (go_at_call 73; refine (next_at s p r n _ _ hlt hs HX.out).mono ?_; rintro e w1 ⟨rfl, rfl⟩)
            | (go_at_call 74; refine (rletter_any r _ hr).mono ?_; rintro e w3 ⟨rfl, rfl⟩; rw [hl]))
          go_round
          case rel => exact ⟨p + n, k + 1, by omega, by omega, by first | rfl | go_num, by first | rfl | go_num, hI3.out.trans (by rw [HO.out]; simp)⟩
          case measure => simp [intOf]; omega
        · have HO := Lib.hid ho
          clear ho
          have t0 : decide (0 < k) = true := decide_eq_true h0
          have t1 : ((r : Int) == 45) = false := by rw [beq_eq_false_iff_ne]; omega
          have t2 : decide ((48 : Int) ≤ (r : Int)) = false := decide_eq_false (by omega)
          clear h0 h1 h2
          go_wp2_with (first
            | (go_at_call 73; refine (next_at s p r n _ _ hlt hs HX.out).mono ?_; rintro e w1 ⟨rfl, rfl⟩)
            | (go_at_call 74; refine (rletter_any r _ hr).mono ?_; rintro e w3 ⟨rfl, rfl⟩; rw [hl]))
          go_ret
          exact ⟨by rw [hI3.out, HO.out]; rfl, rfl⟩
        · have HO := Lib.hid ho
          clear ho
          have t0 : decide (0 < k) = true := decide_eq_true h0
          have t1 : ((r : Int) == 45) = false := by rw [beq_eq_false_iff_ne]; omega
          have t2 : decide ((48 : Int) ≤ (r : Int)) = true := decide_eq_true (by omega)
          have t3 : decide ((r : Int) ≤ 57) = false := decide_eq_false (by omega)
          clear h0 h1 h2 h3
          go_wp2_with (first
            | (go_at_call 73; refine (next_at s p r n _ _ hlt hs HX.out).mono ?_; rintro e w1 ⟨rfl, rfl⟩)
            | (go_at_call 74; refine (rletter_any r _ hr).mono ?_; rintro e w3 ⟨rfl, rfl⟩; rw [hl]))
          go_ret
          exact ⟨by rw [hI3.out, HO.out]; rfl, rfl⟩
        · have HO := Lib.hid ho
          clear ho
          have t0 : decide (0 < k) = true := decide_eq_true h0
          have t1 : ((r : Int) == 45) = false := by rw [beq_eq_false_iff_ne]; omega
          have t2 : decide ((48 : Int) ≤ (r : Int)) = true := decide_eq_true (by omega)
          have t3 : decide ((r : Int) ≤ 57) = true := decide_eq_true (by omega)
          clear h0 h1 h2 h3
          go_wp2_with (first
            | (go_at_call 73; refine (next_at s p r n _ _ hlt hs HX.out).mono ?_; rintro e w1 ⟨rfl, rfl⟩)
            | (go_at_call 74; refine (rletter_any r _ hr).mono ?_; rintro e w3 ⟨rfl, rfl⟩; rw [hl]))
          go_round
          case rel => exact ⟨p + n, k + 1, by omega, by omega, by first | rfl | go_num, by first | rfl | go_num, hI3.out.trans (by rw [HO.out]; simp)⟩
          case measure => simp [intOf]; omega
    · have HE : Hid (NM.isT k (tk s p) = decide (1 ≤ k ∧ k ≤ 8)) := by show _ = _; rw [tk_end s p (by omega)]; rfl
      have HI := Lib.hid hI
      clear hI
      by_cases h0 : k = 0
      · subst h0
        go_wp2
        go_ret
        exact ⟨by rw [HI.out, HE.out]; rfl, rfl⟩
      · have p0 : 1 ≤ k := by omega
        clear h0
        go_wp2
        go_ret
        exact ⟨by rw [HI.out, HE.out]; exact ret_bool (by rw [decide_eq_decide]; omega), rfl⟩
end Go.Proofs.YtpmoanjeoaeabaaDoor
end

section
/- The runes of a text; Owner: the program's and the document's. -/
set_option linter.unusedVariables false
set_option linter.unusedSimpArgs false
namespace Go.Proofs.YtpmoanjeoaeabaaDoor
open Go.RowKit Go.ChangeShapes Go.WideShapes Go.ChangeAt
def rv (T : List NM.Tok) : List Value := T.map fun t => .int .i64 t.1
theorem rv_len (T : List NM.Tok) : (rv T).length = T.length := by simp [rv]
theorem rv_one (T : List NM.Tok) : ∀ u ∈ rv T, u.oneCell' = true := by
  intro u hu
  obtain ⟨x, _, rfl⟩ := List.mem_map.1 hu
  rfl
theorem info3 : (Tryd.prog.info? 3).map (fun i => (i.zero, i.size, i.bytes)) = some (some (.int .i64 0), 1, 8) := by kernel_rfl
theorem int_eq {a b : Int} (h : a = b) : Value.int .i64 a = .int .i64 b := by rw [h]
def RunRel (w0 : World) (F : List HP) (s : ByteArray) (l at_ : Value) (wr : World) : Prop :=
  ∃ (p : Nat) (T : List NM.Tok) (A : Option Addr) (c : Nat), p ≤ s.size ∧ T.length ≤ p ∧ at_ = .int .i64 p ∧ T ++ tk s p = tk s 0 ∧ l = .slice A T.length c ∧ Sat w0 wr (Row 3 1 A T.length c (rv T) :: F)
set_option maxRecDepth 100000 in
set_option maxHeartbeats 1600000 in
theorem runes_any (s : ByteArray) (w0 w : World) (F : List HP) (hS : Sat w0 w F) (hs : s.size ≤ 4194304) :
    Calls Tryd.prog 100 #[.string s] w fun e w' => ∃ A c, e = .returned (.slice A (tk s 0).length c) ∧ Sat w0 w' (Row 3 1 A (tk s 0).length c (rv (tk s 0)) :: F) := by
  obtain ⟨i, hi, hz, hsz, hby⟩ := info_parts info3
  have hS0 := hS.nilRow 3 1
  go_enter Tryd.func100, Tryd.ntmps100
  go_wp2_with fail
  go_loopw [3, 4] (RunRel w0 F s) (fun _ a _ => s.size - (intOf a).toNat)
  case atStart => exact ⟨0, [], none, 0, Nat.zero_le _, Nat.le_refl _, rfl, rfl, rfl, hS0⟩
  case round =>
    obtain ⟨p, T, A, c, hp, hTp, rfl, hT, rfl, hU⟩ := hrel
    clear hS0 hS
    by_cases hlt : p < s.size
    · have hI2 := tk_next s p hlt
      obtain ⟨hn1, hn2⟩ := next_n s p hlt
      obtain ⟨⟨r, n, ok⟩, hX⟩ : ∃ X, NM.next s p = X := ⟨_, rfl⟩
      rw [hX] at hI2 hn1 hn2
      simp only at hI2 hn1 hn2
      have HX := Lib.hid hX
      have HT : Hid (T ++ [(r, ((bs s).drop p).take n)] ++ tk s (p + n) = tk s 0) := by show _ = _; rw [← hT, hI2]; simp
      clear hI2 hX hT
      have swn : IntKind.i64.wrap ((p : Int) + (n : Int)) = ((p + n : Nat) : Int) := by rw [IntWalk.i64_in _ (by omega)]; omega
      have h4 : T.length + 1 ≤ maxLen := by unfold maxLen; omega
      have h5 : (T.length + 1) * 8 ≤ 140737488355328 := by omega
      go_wp2_with (first
        | (go_at_call 73; refine (next_at s p r n _ _ hlt (by omega) HX.out).mono ?_; rintro e w1 ⟨rfl, rfl⟩)
        | (at_builtin; refine wpList_app1 rfl (.tmp 19) (.tmp 21) 33 rfl 3 i (.int .i64 0) 1 8 Tryd.underlying33 hi hz hsz hby rfl (by decide) rfl (hU.new #[.int .i64 r] 3) (by rfl) rfl (rv_one [(r, [])]) h4 h5 ?_; intro A' c' w' hU2))
      go_roundw
      case rel => exact ⟨p + n, T ++ [(r, ((bs s).drop p).take n)], A', c', by omega, by simp; omega, by first | rfl | go_num, HT.out, by simp, by simpa [rv] using hU2⟩
      case measure => simp [intOf]; omega
    · have HT : Hid (T = tk s 0) := by show _ = _; rw [← hT, tk_end s p (by omega), List.append_nil]
      clear hT
      go_wp2
      go_ret
      exact ⟨A, c, by rw [← HT.out]; rfl, by rw [← HT.out]; exact hU⟩
def sumT (T : List NM.Tok) : Nat := (T.map (·.1)).sum
def OwnRel (w : World) (s : ByteArray) (n : Value) (wr : World) : Prop :=
  ∃ p k : Nat, p ≤ s.size ∧ k ≤ p * 1114112 ∧ n = .int .i64 k ∧ k + sumT (tk s p) = sumT (tk s 0) ∧ Sat w wr [BlkO w.heap.size (.stringIter s p), Old w]
set_option maxRecDepth 100000 in
set_option maxHeartbeats 1600000 in
theorem owner_any (s : ByteArray) (w : World) (hs : s.size ≤ 4194304) :
    Calls Tryd.prog 93 #[.string s] w fun e w' => e = .returned (.int .i64 (sumT (tk s 0) % 4 : Nat)) ∧ Below w.heap.size w w' := by
  have hS := (Sat.start w).iter s
  go_enter Tryd.func93, Tryd.ntmps93
  go_wp2_with fail
  go_loopw [3] (OwnRel w s) (fun _ wr => s.size - iterPos wr w.heap.size)
  case atStart => exact ⟨0, 0, Nat.zero_le _, Nat.zero_le _, rfl, by simp, hS⟩
  case round =>
    obtain ⟨p, k, hp, hkp, rfl, hI, hT⟩ := hrel
    clear hS
    by_cases hlt : p < s.size
    · have hst := tk_step s p hlt
      obtain ⟨hn1, hn2⟩ := decode_n s p hlt
      have hr := decode_lt s p hlt
      have hpos := Lib.hid hT.iterPos
      obtain ⟨r, hrr⟩ : ∃ r, (Utf8.decode s p).1 = r := ⟨_, rfl⟩
      obtain ⟨n, hnn⟩ : ∃ n, (Utf8.decode s p).2 = n := ⟨_, rfl⟩
      have HR := Lib.hid hrr
      have HN := Lib.hid hnn
      rw [hrr, hnn] at hst
      rw [hrr] at hr
      rw [hnn] at hn1 hn2
      have HI : Hid (k + r + sumT (tk s (p + n)) = sumT (tk s 0)) := by show _ = _; rw [← hI, hst]; simp [sumT]; omega
      have swn : IntKind.i64.wrap ((k : Int) + (r : Int)) = ((k + r : Nat) : Int) := by rw [IntWalk.i64_in _ (by omega)]; omega
      have swr : IntKind.i64.wrap (r : Int) = (r : Int) := IntWalk.i64_in _ (by omega)
      clear hst hrr hnn hI
      go_wp2_with (refine wpList_next rfl (.tmp 7) rfl (by rfl) hT hlt ?_; intro w2 hT2; rw [HR.out]; rw [HN.out] at hT2)
      refine ⟨⟨p + n, k + r, by omega, by omega, by first | rfl | go_num, HI.out, hT2⟩, ?_⟩
      rw [hT2.iterPos, hpos.out]; omega
    · have HI : Hid (k = sumT (tk s 0)) := by show _ = _; rw [← hI, tk_end s p (by omega)]; simp [sumT]
      clear hI
      go_wp2_with (refine wpList_next_end rfl (.tmp 7) rfl (by rfl) hT hlt ?_)
      go_ret
      exact ⟨by rw [← HI.out]; first | rfl | exact congrArg Ending.returned (int_eq (by omega)), hT.old (by simp)⟩
theorem rv_get (T : List NM.Tok) (k : Nat) (h : k < T.length) : (rv T)[k]? = some (.int .i64 (T[k]).1) := by
  rw [rv, List.getElem?_map, List.getElem?_eq_getElem h]; rfl
theorem sumT_take (T : List NM.Tok) (k : Nat) (h : k < T.length) : sumT (T.take (k + 1)) = sumT (T.take k) + (T[k]).1 := by
  unfold sumT
  rw [List.take_succ_eq_append_getElem h, List.map_append, List.sum_append]
  rfl
theorem tok_lt (s : ByteArray) : ∀ n p, s.size - p ≤ n → ∀ t ∈ tk s p, t.1 < 1114112 := by
  intro n
  induction n with
  | zero => intro p h; rw [tk_end s p (by omega)]; intro t ht; cases ht
  | succ n ih =>
    intro p h
    by_cases hlt : p < s.size
    · rw [tk_step s p hlt]
      intro t ht
      cases ht with
      | head => exact decode_lt s p hlt
      | tail _ ht => exact ih _ (by have := (decode_n s p hlt).1; omega) t ht
    · rw [tk_end s p (by omega)]; intro t ht; cases ht
set_option maxRecDepth 100000 in
set_option maxHeartbeats 1600000 in
theorem rowner_any (s : ByteArray) (w : World) (hs : s.size ≤ 4194304) :
    Calls Tryd.prog 96 #[.string s] w fun e w' => e = .returned (.int .i64 (sumT (tk s 0) % 4 : Nat)) ∧ Below w.heap.size w w' := by
  have hlt4 := tok_lt s s.size 0 (by omega)
  have hlen : (tk s 0).length ≤ s.size := by
    have : ∀ n p, s.size - p ≤ n → (tk s p).length ≤ s.size - p := by
      intro n
      induction n with
      | zero => intro p h; rw [tk_end s p (by omega)]; simp
      | succ n ih =>
        intro p h
        by_cases hl : p < s.size
        · rw [tk_step s p hl, List.length_cons]
          have h1 := decode_n s p hl
          have := ih (p + (Utf8.decode s p).2) (by omega)
          omega
        · rw [tk_end s p (by omega)]; simp
    exact this s.size 0 (by omega)
  have HL4 := Lib.hid hlt4
  clear hlt4
  go_enter Tryd.func96, Tryd.ntmps96
  go_wp2_with fail
  refine (runes_any s w _ _ (Sat.start w) hs).mono ?_
  rintro e w1 ⟨A, c, rfl, hU⟩
  obtain ⟨T, hT⟩ : ∃ T, tk s 0 = T := ⟨_, rfl⟩
  rw [hT] at hU hlen ⊢
  have HT := Lib.hid hT
  clear hT
  go_wp2_with fail
  go_loop [4, 5] (fun n i => ∃ k : Nat, k ≤ T.length ∧ i = .int .i64 k ∧ n = .int .i64 (sumT (T.take k) % 4 : Nat)) (fun _ i => T.length - (intOf i).toNat)
  case atStart => exact ⟨0, Nat.zero_le _, rfl, rfl⟩
  case round =>
    obtain ⟨k, hk, rfl, rfl⟩ := hrel
    by_cases hlt : k < T.length
    · obtain ⟨b, rfl, hc, _⟩ := hU.rowCell (by intro e; have := congrArg List.length e; rw [rv_len, List.length_nil] at this; omega)
      have d := hc k (by rw [rv_len]; exact hlt)
      rw [rv_get T k hlt] at d
      have hr : (T[k]).1 < 1114112 := HL4.out _ (by rw [HT.out]; exact List.getElem_mem _)
      have HS : Hid (sumT (T.take (k + 1)) = sumT (T.take k) + (T[k]).1) := sumT_take T k hlt
      obtain ⟨r, hrr⟩ : ∃ r, (T[k]).1 = r := ⟨_, rfl⟩
      obtain ⟨q, hq⟩ : ∃ q, sumT (T.take k) % 4 = q := ⟨_, rfl⟩
      have HS2 : Hid (sumT (T.take (k + 1)) % 4 = (q + r) % 4) := by show _ = _; rw [HS.out, hrr, ← hq]; omega
      have hq4 : q < 4 := by omega
      rw [hrr] at d hr
      rw [hq]
      have swn : IntKind.i64.wrap ((q : Int) + (r : Int)) = ((q + r : Nat) : Int) := by rw [IntWalk.i64_in _ (by omega)]; omega
      clear hc hrr hq HS
      go_wp2
      go_round
      case rel => exact ⟨k + 1, by omega, by go_num, by rw [HS2.out]; refine int_eq ?_; simp⟩
      case measure => simp [intOf]; omega
    · have HE : Hid (T.take k = T) := List.take_of_length_le (by omega)
      go_wp2
      go_ret
      exact ⟨by rw [HT.out]; rw [HE.out]; rfl, hU.old (by simp)⟩
end Go.Proofs.YtpmoanjeoaeabaaDoor
end

section
/- Compare: the program's and the document's. -/
set_option linter.unusedVariables false
set_option linter.unusedSimpArgs false
namespace Go.Proofs.YtpmoanjeoaeabaaDoor
open Go.RowKit Go.ChangeShapes Go.WideShapes Go.ChangeAt
theorem bs_extract (s : ByteArray) (a b : Nat) : bs (s.extract a b) = ((bs s).drop a).take (b - a) := by
  unfold bs
  rw [ByteArray.data_extract, Array.toList_extract, List.extract_eq_take_drop, List.map_take, List.map_drop]
theorem tk_extract (s : ByteArray) (n : Nat) : tk (s.extract n s.size) 0 = tk s n := by
  unfold tk
  rw [bs_extract, List.drop_zero, List.take_of_length_le (by rw [List.length_drop, bs_len]; omega)]
theorem empty_yes (s : ByteArray) (h : s.size = 0) : s.toList.isEmpty = true := by
  rw [ByteArray.toList_eq]
  have : s.data.toList = [] := List.eq_nil_of_length_eq_zero (by simpa using h)
  rw [this]; rfl
theorem empty_no (s : ByteArray) (h : s.size ≠ 0) : s.toList.isEmpty = false := by
  rw [ByteArray.toList_eq]
  cases hd : s.data.toList with
  | nil => have := congrArg List.length hd; simp at this; exact absurd this (by simpa using h)
  | cons _ _ => rfl
theorem tabs_keep {w w' : World} (hT : Lib.Utf8Tabs 0 1 w) (hb : Below w.heap.size w w') : Lib.Utf8Tabs 0 1 w' :=
  ⟨fun c hc => old_cell hb (hT.1 c hc), fun i hi => ⟨old_cell hb (hT.2 i hi).1, old_cell hb (hT.2 i hi).2⟩⟩
theorem ret_int {a b : Int} (h : a = b) : Ending.returned (.int .i64 a) = .returned (.int .i64 b) := by rw [h]
def CmpRel (w : World) (a b : ByteArray) (v : Value) (wr : World) : Prop :=
  ∃ (p : Nat) (c : ByteArray), p ≤ a.size ∧ c.size ≤ 140737488351232 ∧ v = .string c ∧ NM.cmpT (tk a 0) (tk b 0) = NM.cmpT (tk a p) (tk c 0) ∧ Sat w wr [BlkO w.heap.size (.stringIter a p), Old w]
set_option maxRecDepth 100000 in
set_option maxHeartbeats 1600000 in
theorem compare_any (a b : ByteArray) (w : World) (hT : Lib.Utf8Tabs 0 1 w) (ha : a.size ≤ 140737488351232) (hb : b.size ≤ 140737488351232) :
    Calls Tryd.prog 89 #[.string a, .string b] w fun e w' => e = .returned (.int .i64 (NM.cmpT (tk a 0) (tk b 0))) ∧ Below w.heap.size w w' := by
  have hS := (Sat.start w).iter a
  have HT := Lib.hid hT
  clear hT
  go_enter Tryd.func89, Tryd.ntmps89
  go_wp2_with fail
  go_loopw [1] (CmpRel w a b) (fun _ wr => a.size - iterPos wr w.heap.size)
  case atStart => exact ⟨0, b, Nat.zero_le _, hb, rfl, rfl, hS⟩
  case round =>
    obtain ⟨p, c, hp, hc, rfl, hI, hT⟩ := hrel
    clear hS
    have HI := Lib.hid hI
    clear hI
    by_cases hlt : p < a.size
    · have hst := tk_step a p hlt
      obtain ⟨hn1, hn2⟩ := decode_n a p hlt
      have hr := decode_lt a p hlt
      have hpos := Lib.hid hT.iterPos
      obtain ⟨r, hrr⟩ : ∃ r, (Utf8.decode a p).1 = r := ⟨_, rfl⟩
      obtain ⟨n, hnn⟩ : ∃ n, (Utf8.decode a p).2 = n := ⟨_, rfl⟩
      have HR := Lib.hid hrr
      have HN := Lib.hid hnn
      rw [hrr, hnn] at hst
      rw [hrr] at hr
      rw [hnn] at hn1 hn2
      have HST := Lib.hid hst
      clear hst hrr hnn
      by_cases h0 : c.size = 0
      · have he := empty_yes c h0
        have HE : Hid (NM.cmpT (tk a 0) (tk b 0) = 1) := by show _ = _; rw [HI.out, HST.out, tk_end c 0 (by omega)]; rfl
        clear h0
        go_wp2_with (refine wpList_next rfl (.tmp 10) rfl (by rfl) hT hlt ?_; intro w2 hT2; rw [HR.out]; rw [HN.out] at hT2)
        go_ret
        exact ⟨by rw [HE.out]; rfl, hT2.old (by simp)⟩
      · have he := empty_no c h0
        have hclt : 0 < c.size := by omega
        have hstc := tk_step c 0 hclt
        have hdc := decode_n c 0 hclt
        have hyl := decode_lt c 0 hclt
        have hgo : Lib.decodeGo c = Utf8.decode c 0 := by unfold Lib.decodeGo; rw [if_neg h0]
        obtain ⟨y, hyy⟩ : ∃ r, (Utf8.decode c 0).1 = r := ⟨_, rfl⟩
        obtain ⟨m, hmm⟩ : ∃ n, (Utf8.decode c 0).2 = n := ⟨_, rfl⟩
        rw [hyy, hmm, Nat.zero_add] at hstc
        rw [hyy] at hyl
        rw [hmm] at hdc
        have HD : Hid ((Lib.decodeGo c).1 = y ∧ (Lib.decodeGo c).2 = m) := by show _ ∧ _; rw [hgo]; exact ⟨hyy, hmm⟩
        have HC : Hid (NM.cmpT (tk a 0) (tk b 0) = if r < y then -1 else if y < r then 1 else NM.cmpT (tk a (p + n)) (tk (c.extract m c.size) 0)) := by
          show _ = _; rw [HI.out, HST.out, hstc, NM.cmpT, tk_extract]
        have hmc : m ≤ c.size := by omega
        have hcs : (c.extract m c.size).size ≤ 140737488351232 := by simp; omega
        have hcs2 := Lib.hid hcs
        clear hstc hgo hyy hmm h0 hdc hcs
        by_cases h1 : r < y
        · have HC2 : Hid (NM.cmpT (tk a 0) (tk b 0) = -1) := by show _ = _; rw [HC.out, if_pos h1]
          have t1 : decide ((r : Int) < (y : Int)) = true := decide_eq_true (by omega)
          go_wp2_with (first
            | (refine wpList_next rfl (.tmp 10) rfl (by rfl) hT hlt ?_; intro w2 hT2; rw [HR.out]; rw [HN.out] at hT2)
            | (go_at_call 99; refine (Tryd.utf8_DecodeRuneInString c _ (tabs_keep HT.out (hT2.old (by simp)))).mono ?_; rintro e w3 ⟨rfl, hb3⟩; rw [HD.out.1, HD.out.2]; have hT3 := hT2.below hb3; clear hb3))
          go_ret
          exact ⟨by rw [HC2.out]; rfl, hT3.old (by simp)⟩
        · by_cases h2 : y < r
          · have HC2 : Hid (NM.cmpT (tk a 0) (tk b 0) = 1) := by show _ = _; rw [HC.out, if_neg h1, if_pos h2]
            go_wp2_with (first
              | (refine wpList_next rfl (.tmp 10) rfl (by rfl) hT hlt ?_; intro w2 hT2; rw [HR.out]; rw [HN.out] at hT2)
              | (go_at_call 99; refine (Tryd.utf8_DecodeRuneInString c _ (tabs_keep HT.out (hT2.old (by simp)))).mono ?_; rintro e w3 ⟨rfl, hb3⟩; rw [HD.out.1, HD.out.2]; have hT3 := hT2.below hb3; clear hb3))
            go_ret
            exact ⟨by rw [HC2.out]; rfl, hT3.old (by simp)⟩
          · have HC2 : Hid (NM.cmpT (tk a 0) (tk b 0) = NM.cmpT (tk a (p + n)) (tk (c.extract m c.size) 0)) := by show _ = _; rw [HC.out, if_neg h1, if_neg h2]
            go_wp2_with (first
              | (refine wpList_next rfl (.tmp 10) rfl (by rfl) hT hlt ?_; intro w2 hT2; rw [HR.out]; rw [HN.out] at hT2)
              | (go_at_call 99; refine (Tryd.utf8_DecodeRuneInString c _ (tabs_keep HT.out (hT2.old (by simp)))).mono ?_; rintro e w3 ⟨rfl, hb3⟩; rw [HD.out.1, HD.out.2]; have hT3 := hT2.below hb3; clear hb3))
            refine ⟨⟨p + n, c.extract m c.size, by omega, hcs2.out, rfl, HC2.out, hT3⟩, ?_⟩
            rw [hT3.iterPos, hpos.out]; omega
    · by_cases h0 : c.size = 0
      · have he := empty_yes c h0
        have HE : Hid (NM.cmpT (tk a 0) (tk b 0) = 0) := by show _ = _; rw [HI.out, tk_end a p (by omega), tk_end c 0 (by omega)]; rfl
        clear h0
        go_wp2_with (refine wpList_next_end rfl (.tmp 10) rfl (by rfl) hT hlt ?_)
        go_ret
        exact ⟨by rw [HE.out]; rfl, hT.old (by simp)⟩
      · have he := empty_no c h0
        have HE : Hid (NM.cmpT (tk a 0) (tk b 0) = -1) := by show _ = _; rw [HI.out, tk_end a p (by omega), tk_step c 0 (by omega)]; rfl
        clear h0
        go_wp2_with (refine wpList_next_end rfl (.tmp 10) rfl (by rfl) hT hlt ?_)
        go_ret
        exact ⟨by rw [HE.out]; rfl, hT.old (by simp)⟩
end Go.Proofs.YtpmoanjeoaeabaaDoor
end

section
/- Compare: the document's. -/
set_option linter.unusedVariables false
set_option linter.unusedSimpArgs false
namespace Go.Proofs.YtpmoanjeoaeabaaDoor
open Go.RowKit Go.ChangeShapes Go.WideShapes Go.ChangeAt
theorem tk_len (s : ByteArray) : (tk s 0).length ≤ s.size := by
  have : ∀ n p, s.size - p ≤ n → (tk s p).length ≤ s.size - p := by
    intro n
    induction n with
    | zero => intro p h; rw [tk_end s p (by omega)]; simp
    | succ n ih =>
      intro p h
      by_cases hl : p < s.size
      · rw [tk_step s p hl, List.length_cons]
        have h1 := decode_n s p hl
        have := ih (p + (Utf8.decode s p).2) (by omega)
        omega
      · rw [tk_end s p (by omega)]; simp
  exact this s.size 0 (by omega)
theorem cmp_step (T U : List NM.Tok) (k : Nat) (h1 : k < T.length) (h2 : k < U.length) : NM.cmpT (T.drop k) (U.drop k) = if (T[k]).1 < (U[k]).1 then -1 else if (U[k]).1 < (T[k]).1 then 1 else NM.cmpT (T.drop (k + 1)) (U.drop (k + 1)) := by
  rw [← List.getElem_cons_drop (h := h1), ← List.getElem_cons_drop (h := h2), NM.cmpT]
theorem cmp_end1 (T U : List NM.Tok) (k : Nat) (h1 : T.length = k) (h2 : k < U.length) : NM.cmpT (T.drop k) (U.drop k) = -1 := by
  rw [List.drop_of_length_le (by omega), ← List.getElem_cons_drop (h := h2)]; rfl
theorem cmp_end2 (T U : List NM.Tok) (k : Nat) (h1 : k < T.length) (h2 : U.length = k) : NM.cmpT (T.drop k) (U.drop k) = 1 := by
  rw [List.drop_of_length_le (l := U) (by omega), ← List.getElem_cons_drop (h := h1)]; rfl
theorem cmp_end3 (T U : List NM.Tok) (k : Nat) (h1 : T.length = k) (h2 : U.length = k) : NM.cmpT (T.drop k) (U.drop k) = 0 := by
  rw [List.drop_of_length_le (by omega), List.drop_of_length_le (by omega)]; rfl
set_option maxRecDepth 100000 in
set_option maxHeartbeats 1600000 in
theorem rcompare_any (a b : ByteArray) (w : World) (ha : a.size ≤ 4194304) (hb : b.size ≤ 4194304) :
    Calls Tryd.prog 91 #[.string a, .string b] w fun e w' => e = .returned (.int .i64 (NM.cmpT (tk a 0) (tk b 0))) ∧ Below w.heap.size w w' := by
  have hla := tk_len a
  have hlb := tk_len b
  go_enter Tryd.func91, Tryd.ntmps91
  go_wp2_with fail
  refine (runes_any a w _ _ (Sat.start w) ha).mono ?_
  rintro e w1 ⟨A, c, rfl, hU⟩
  go_wp2_with fail
  refine (runes_any b w _ _ hU hb).mono ?_
  rintro e w2 ⟨A2, c2, rfl, hU2⟩
  obtain ⟨T, hT⟩ : ∃ T, tk a 0 = T := ⟨_, rfl⟩
  obtain ⟨U, hUU⟩ : ∃ U, tk b 0 = U := ⟨_, rfl⟩
  rw [hT] at hU2 hla ⊢
  rw [hUU] at hU2 hlb ⊢
  have HT := Lib.hid hT
  have HU := Lib.hid hUU
  clear hT hUU hU
  go_wp2_with fail
  go_loopw [7] (fun i wr => ∃ k : Nat, k ≤ T.length ∧ k ≤ U.length ∧ i = .int .i64 k ∧ Hid (NM.cmpT T U = NM.cmpT (T.drop k) (U.drop k)) ∧ ∃ m, wr = w2.drewN m) (fun i _ => T.length - (intOf i).toNat)
  case atStart => exact ⟨0, Nat.zero_le _, Nat.zero_le _, rfl, rfl, 0, rfl⟩
  case round =>
    obtain ⟨k, hk1, hk2, rfl, HI, m, rfl⟩ := hrel
    by_cases hlt : k < T.length
    · by_cases hlt2 : k < U.length
      · obtain ⟨g, rfl, hc, _⟩ := hU2.r2.rowCell (by intro e; have := congrArg List.length e; rw [rv_len, List.length_nil] at this; omega)
        obtain ⟨g2, rfl, hc2, _⟩ := hU2.rowCell (by intro e; have := congrArg List.length e; rw [rv_len, List.length_nil] at this; omega)
        have d1 := hc k (by rw [rv_len]; exact hlt)
        have d2 := hc2 k (by rw [rv_len]; exact hlt2)
        rw [rv_get T k hlt] at d1
        rw [rv_get U k hlt2] at d2
        have HS := Lib.hid (cmp_step T U k hlt hlt2)
        obtain ⟨x, hx⟩ : ∃ x, (T[k]).1 = x := ⟨_, rfl⟩
        obtain ⟨y, hy⟩ : ∃ x, (U[k]).1 = x := ⟨_, rfl⟩
        rw [hx] at d1
        rw [hy] at d2
        have HC : Hid (NM.cmpT T U = if x < y then -1 else if y < x then 1 else NM.cmpT (T.drop (k + 1)) (U.drop (k + 1))) := by show _ = _; rw [HI.out, HS.out, hx, hy]
        clear hc hc2 hx hy HS
        by_cases h1 : x < y
        · have HC2 : Hid (NM.cmpT T U = -1) := by show _ = _; rw [HC.out, if_pos h1]
          have t1 : decide (x < y) = true := decide_eq_true h1
          go_wp2_with fail
          go_quiet (fail)
          go_wp2_with fail
          go_ret
          exact ⟨by rw [HT.out, HU.out, HC2.out]; rfl, ((hU2.drewN _).drewN _).old (by simp)⟩
        · have t1 : decide (x < y) = false := decide_eq_false h1
          by_cases h2 : y < x
          · have HC2 : Hid (NM.cmpT T U = 1) := by show _ = _; rw [HC.out, if_neg h1, if_pos h2]
            have t2 : decide (y < x) = true := decide_eq_true h2
            go_wp2_with fail
            go_quiet (fail)
            go_wp2_with fail
            go_quiet (fail)
            go_wp2_with fail
            go_ret
            exact ⟨by rw [HT.out, HU.out, HC2.out]; rfl, (((hU2.drewN _).drewN _).drewN _).old (by simp)⟩
          · have HC2 : Hid (NM.cmpT T U = NM.cmpT (T.drop (k + 1)) (U.drop (k + 1))) := by show _ = _; rw [HC.out, if_neg h1, if_neg h2]
            have t2 : decide (y < x) = false := decide_eq_false h2
            go_wp2_with fail
            go_quiet (fail)
            go_wp2_with fail
            go_quiet (fail)
            go_wp2_with fail
            go_roundw
            case rel => exact ⟨k + 1, by omega, by omega, by go_num, HC2, _, rfl⟩
            case measure => simp [intOf]; omega
      · have HC : Hid (NM.cmpT T U = 1) := by show _ = _; rw [HI.out, cmp_end2 T U k hlt (by omega)]
        have q1 : ¬ T.length < U.length := by omega
        have q2 : U.length < T.length := by omega
        go_wp2_with fail
        go_ret
        exact ⟨by rw [HT.out, HU.out, HC.out]; rfl, (hU2.drewN _).old (by simp)⟩
    · by_cases hlt2 : k < U.length
      · have HC : Hid (NM.cmpT T U = -1) := by show _ = _; rw [HI.out, cmp_end1 T U k (by omega) hlt2]
        have q1 : T.length < U.length := by omega
        go_wp2_with fail
        go_ret
        exact ⟨by rw [HT.out, HU.out, HC.out]; rfl, (hU2.drewN _).old (by simp)⟩
      · have HC : Hid (NM.cmpT T U = 0) := by show _ = _; rw [HI.out, cmp_end3 T U k (by omega) (by omega)]
        have q1 : ¬ T.length < U.length := by omega
        have q2 : ¬ U.length < T.length := by omega
        go_wp2_with fail
        go_ret
        exact ⟨by rw [HT.out, HU.out, HC.out]; rfl, (hU2.drewN _).old (by simp)⟩
end Go.Proofs.YtpmoanjeoaeabaaDoor
end

section
/- A name is short. -/
set_option linter.unusedVariables false
set_option linter.unusedSimpArgs false
set_option linter.unnecessarySimpa false
namespace Go.Proofs.YtpmoanjeoaeabaaDoor
theorem toks_long : ∀ (n : Nat) (l : List Nat), l.length ≤ n → l.length ≤ 4 * (NM.toks l).length
  | 0, l, h => by omega
  | n + 1, [], h => by simp
  | n + 1, x :: l, h => by
    have h1 : 1 ≤ (NM.dec (x :: l)).2 := NM.dec_n _
    have h4 : (NM.dec (x :: l)).2 ≤ 4 := (NM.dec4_n _ _ _ _).2
    have ih := toks_long n ((x :: l).drop (NM.dec (x :: l)).2) (by rw [List.length_drop]; simp only [List.length_cons] at h ⊢; omega)
    rw [NM.toks_cons]
    rw [List.length_drop] at ih
    simp only [List.length_cons] at ih ⊢
    omega
theorem isT_len : ∀ (T : List NM.Tok) (n : Nat), NM.isT n T = true → T.length + n ≤ 8
  | [], n, h => by
    have := of_decide_eq_true (show decide (1 ≤ n ∧ n ≤ 8) = true from h)
    simp only [List.length_nil]
    omega
  | t :: T, n, h => by
    have h2 : (NM.okT n t.1 && NM.isT (n + 1) T) = true := h
    rw [Bool.and_eq_true] at h2
    have := isT_len T (n + 1) h2.2
    simp only [List.length_cons]
    omega
/-- is a text a name? -/
def isN (s : ByteArray) : Bool := NM.isT 0 (tk s 0)
theorem is_short {s : ByteArray} (h : isN s = true) : s.size ≤ 32 := by
  unfold isN tk at h
  rw [List.drop_zero] at h
  have h1 := isT_len _ _ h
  have h2 := toks_long _ (bs s) (Nat.le_refl _)
  rw [bs_len] at h2
  omega
end Go.Proofs.YtpmoanjeoaeabaaDoor
end

section
/- The document's keys. -/
set_option linter.unusedVariables false
set_option linter.unusedSimpArgs false
set_option linter.unnecessarySimpa false
set_option maxRecDepth 100000
namespace Go.Proofs.YtpmoanjeoaeabaaDoor
open Go.RowKit Go.ChangeShapes Go.WideShapes Go.ChangeAt
def ownN (s : ByteArray) : Nat := sumT (tk s 0) % 4
def cmpN (a b : ByteArray) : Int := NM.cmpT (tk a 0) (tk b 0)
def keyAt (l : List ByteArray) (k : Nat) : ByteArray := l.getD k .empty
def keyOk (l : List ByteArray) (part : Int) (k : Nat) : Prop := isN (keyAt l k) = true ∧ (ownN (keyAt l k) : Int) = part ∧ (0 < k → cmpN (keyAt l (k - 1)) (keyAt l k) < 0)
instance (l : List ByteArray) (p : Int) (k : Nat) : Decidable (keyOk l p k) := by unfold keyOk; infer_instance
def keysB (l : List ByteArray) (part : Int) : Bool := decide (l.length ≤ 2 ∧ ∀ k, k < l.length → keyOk l part k)
def RkRel (W : World) (b : Nat) (V : List Value) (l : List ByteArray) (p : Int) (x : Value) (wr : World) : Prop :=
  ∃ k : Nat, k ≤ l.length ∧ x = .int .i64 k ∧ Sat W wr [Blk b 35 V, Old W] ∧ ∀ j, j < k → keyOk l p j
theorem keys_no {l : List ByteArray} {p : Int} {k : Nat} (hk : k < l.length) (h : ¬ keyOk l p k) : keysB l p = false := decide_eq_false fun g => h (g.2 k hk)
def St.v (s : St) : Value := .agg #[.string s.name, .int .i64 s.kind, .int .i64 s.part, .slice s.kA s.keys.length s.kc, .slice s.nA s.needs.length s.nc]
set_option maxHeartbeats 1600000 in
theorem rkeys_any {w : World} (s : St) (hs : StAt w s) (hz : ∀ k ∈ s.keys, k.size ≤ 140737488351232) :
    Calls Tryd.prog 76 #[s.v] w fun e w' => e = .returned (.bool (keysB s.keys s.part)) ∧ Below w.heap.size w w' := by
  have hE := Lib.hid hs.keys
  have h1 := (Sat.start w).new #[.string s.name, .int .i64 s.kind, .int .i64 s.part, .slice s.kA s.keys.length s.kc, .slice s.nA s.needs.length s.nc] 35
  obtain ⟨b, hb⟩ : ∃ b, w.heap.size = b := ⟨_, rfl⟩
  unfold St.v
  obtain ⟨l, hL⟩ : ∃ l, s.keys = l := ⟨_, rfl⟩
  obtain ⟨p, hP⟩ : ∃ l, s.part = l := ⟨_, rfl⟩
  rw [hL, hP] at h1 ⊢
  rw [hL] at hE hz
  rw [hb] at h1
  have H1 := Lib.hid h1
  have HZ := Lib.hid hz
  clear hL hP h1 hs hz
  by_cases h2 : 2 < l.length
  · have t2 : decide ((2 : Int) < (l.length : Int)) = true := decide_eq_true (by omega)
    have e : keysB l p = false := decide_eq_false fun g => by omega
    go_enter Tryd.func76, Tryd.ntmps76
    go_wp2_with fail
    go_ret
    exact ⟨by first | rfl | (rw [e]; rfl), by have h9 := H1.out.old (by simp); first | exact h9 | (rw [← hb] at h9; exact h9) | (rw [hb] at h9; exact h9) | (simp only [hb] at h9 ⊢; exact h9)⟩
  have t2 : decide ((2 : Int) < (l.length : Int)) = false := decide_eq_false (by omega)
  go_enter Tryd.func76, Tryd.ntmps76
  go_wp2_with fail
  try simp only [hb]
  go_loopw [3] (RkRel w b [.string s.name, .int .i64 s.kind, .int .i64 p, .slice s.kA l.length s.kc, .slice s.nA s.needs.length s.nc] l p) (fun x _ => l.length - (intOf x).toNat)
  case atStart => exact ⟨0, Nat.zero_le _, rfl, H1.out, fun j hj => by omega⟩
  case round =>
    obtain ⟨k, hk, rfl, hT, hok⟩ := hrel
    clear H1
    have h9 := hT.old (List.mem_cons_of_mem _ List.mem_cons_self)
    have b3 : wr.cell? ⟨b, 3, none⟩ = some (.slice s.kA l.length s.kc) := hT.blk.cell 3
    by_cases hlt : k < l.length
    · obtain ⟨b2, o2, hkA, hcell⟩ := key_cells (hE.out.keep h9) (by omega)
      have c0 := hcell k hlt
      have hx : l[k] = keyAt l k := List.getElem_eq_getD (h := hlt) _
      have hzk := HZ.out _ (List.getElem_mem hlt)
      rw [hx] at c0 hzk
      rw [hkA] at b3 ⊢
      have HI := Lib.hid (ris_any (keyAt l k) wr hzk)
      have HNO := Lib.hid (fun h => keys_no (p := p) hlt h)
      by_cases hn : isN (keyAt l k) = true
      · have hsm := is_short hn
        have hn' := hn
        unfold isN at hn'
        rw [hn'] at HI
        have HOW := Lib.hid (fun w1 => rowner_any (keyAt l k) w1 (by omega))
        have HOE : Hid (sumT (tk (keyAt l k) 0) % 4 = ownN (keyAt l k)) := rfl
        rw [HOE.out] at HOW
        have b2c : wr.cell? ⟨b, 2, none⟩ = some (.int .i64 p) := hT.blk.cell 2
        have HT := Lib.hid hT
        have HN := Lib.hid hn
        have HPV : Hid (0 < k → wr.cell? ⟨b2, o2 + (k - 1), none⟩ = some (.string (keyAt l (k - 1)))) := fun h => by
          rw [hcell (k - 1) (by omega)]
          exact congrArg some (congrArg Value.string (List.getElem_eq_getD (h := by omega) _))
        have HSM := Lib.hid hsm
        have HOK := Lib.hid hok
        obtain ⟨x, hX⟩ : ∃ x, keyAt l k = x := ⟨_, rfl⟩
        have HX := Lib.hid hX
        rw [hX] at c0 HI HOW
        obtain ⟨q, hQ⟩ : ∃ q, ownN x = q := ⟨_, rfl⟩
        rw [hQ] at HOW
        have HQ := Lib.hid hQ
        clear hn hn' hzk hX hx hcell hT hok h9 hsm HOE hQ
        go_wp2_with fail
        refine HI.out.mono ?_
        rintro e v1 ⟨rfl, rfl⟩
        go_wp2_with fail
        by_cases hqp : (q : Int) = p
        · have t3 : ((q : Int) != p) = false := by rw [hqp]; simp
          have HQP : Hid ((ownN (keyAt l k) : Int) = p) := by rw [HX.out, HQ.out]; exact hqp
          clear hqp
          go_region_held3 (fun w' => w'.cell? ⟨b, 3, none⟩ = some (.slice (some ⟨b2, o2, none⟩) l.length s.kc) ∧ w'.cell? ⟨b2, o2 + k, none⟩ = some (.string x) ∧ w'.cell? ⟨b, 2, none⟩ = some (.int .i64 p))
            (first | exact ⟨b3, c0, b2c⟩ | exact ⟨y1, y2, y3⟩)
            (first
              | (go_at_call 96; refine (HOW.out _).mono ?_; rintro e w5 ⟨rfl, h5⟩; have y1 := old_cell h5 (show v1.drew.cell? _ = _ from b3); have y2 := old_cell h5 (show v1.drew.cell? _ = _ from c0); have y3 := old_cell h5 (show v1.drew.cell? _ = _ from b2c)))
          all_goals
            have H6 := Lib.hid (HT.out.drew.below h5)
            clear b3 c0 b2c y3
            by_cases h0 : k = 0
            · clear h5
              have tk : decide ((0 : Int) < (k : Int)) = false := decide_eq_false (by omega)
              have tk2 : decide (0 < k) = false := decide_eq_false (by omega)
              have HS : Hid (∀ j, j < k + 1 → keyOk l p j) := fun j hj => by
                obtain rfl : j = k := by omega
                exact ⟨HN.out, HQP.out, fun h => by omega⟩
              clear h0
              go_wp2_with fail
              go_quiet (fail)
              go_wp2_with fail
              go_roundw
              case rel => exact ⟨k + 1, by omega, by go_num, by rw [← hkA]; exact H6.out.drewN _, HS.out⟩
              case measure => simp [intOf]; omega
            · have y0 := old_cell h5 (show v1.drew.cell? _ = _ from HPV.out (by omega))
              have tk1 : decide ((0 : Int) < (k : Int)) = true := decide_eq_true (by omega)
              have tk2 : decide (0 < k) = true := decide_eq_true (by omega)
              have hk0 : 0 < k := by omega
              have sw : IntKind.i64.wrap ((k : Int) - 1) = ((k - 1 : Nat) : Int) := by
                rw [show (k : Int) - 1 = ((k - 1 : Nat) : Int) by omega]
                exact IntWalk.i64_in _ (by omega)
              have i0 : (0 : Int) ≤ ((k - 1 : Nat) : Int) := by omega
              have i1 : ((k - 1 : Nat) : Int) < (l.length : Int) := by omega
              have i2 : (0 : Int) ≤ (k : Int) := by omega
              have i3 : (k : Int) < (l.length : Int) := by omega
              have hzs := is_short (HOK.out (k - 1) (by omega)).1
              have hxs := HSM.out
              rw [HX.out] at hxs
              obtain ⟨z, hZ⟩ : ∃ z, keyAt l (k - 1) = z := ⟨_, rfl⟩
              rw [hZ] at y0 hzs
              have HCM := Lib.hid (fun w1 => rcompare_any z x w1 (by omega) (by omega))
              obtain ⟨cv, hcv⟩ : ∃ c, NM.cmpT (tk z 0) (tk x 0) = c := ⟨_, rfl⟩
              rw [hcv] at HCM
              have HCV : Hid (cmpN (keyAt l (k - 1)) (keyAt l k) = cv) := by rw [hZ, HX.out]; exact hcv
              clear h5 hZ hcv hzs hxs h0
              by_cases hc : 0 ≤ cv
              · have t4 : decide (0 ≤ cv) = true := decide_eq_true hc
                have e : keysB l p = false := HNO.out fun g => by have := g.2.2 hk0; rw [HCV.out] at this; omega
                clear hc
                go_wp2_with fail
                go_region_held3 (fun w' => w'.cell? ⟨b, 3, none⟩ = some (.slice (some ⟨b2, o2, none⟩) l.length s.kc) ∧ w'.cell? ⟨b2, o2 + k, none⟩ = some (.string x) ∧ w'.cell? ⟨b2, o2 + (k - 1), none⟩ = some (.string z))
                  (first | exact ⟨y1, y2, y0⟩ | exact ⟨z1, z2, z3⟩)
                  (first
                    | (go_at_call 91; refine (HCM.out _).mono ?_; rintro e w6 ⟨rfl, h7⟩; have z1 := old_cell h7 (show w5.drew.cell? _ = _ from y1); have z2 := old_cell h7 (show w5.drew.cell? _ = _ from y2); have z3 := old_cell h7 (show w5.drew.cell? _ = _ from y0)))
                all_goals
                  have H8 := Lib.hid (H6.out.drew.below h7)
                  go_wp2_with fail
                  go_ret
                  exact ⟨by first | rfl | (rw [e]; rfl), by have h9 := H8.out.old (by simp); first | exact h9 | (rw [hb] at h9; exact h9)⟩
              · have t4 : decide (0 ≤ cv) = false := decide_eq_false hc
                have HS : Hid (∀ j, j < k + 1 → keyOk l p j) := fun j hj => by
                  by_cases e : j = k
                  · subst e; exact ⟨HN.out, HQP.out, fun _ => by rw [HCV.out]; omega⟩
                  · exact HOK.out j (by omega)
                go_wp2_with fail
                go_region_held3 (fun w' => w'.cell? ⟨b, 3, none⟩ = some (.slice (some ⟨b2, o2, none⟩) l.length s.kc) ∧ w'.cell? ⟨b2, o2 + k, none⟩ = some (.string x) ∧ w'.cell? ⟨b2, o2 + (k - 1), none⟩ = some (.string z))
                  (first | exact ⟨y1, y2, y0⟩ | exact ⟨z1, z2, z3⟩)
                  (first
                    | (go_at_call 91; refine (HCM.out _).mono ?_; rintro e w6 ⟨rfl, h7⟩; have z1 := old_cell h7 (show w5.drew.cell? _ = _ from y1); have z2 := old_cell h7 (show w5.drew.cell? _ = _ from y2); have z3 := old_cell h7 (show w5.drew.cell? _ = _ from y0)))
                all_goals
                  have H8 := Lib.hid (H6.out.drew.below h7)
                  go_wp2_with fail
                  go_roundw
                  case rel => exact ⟨k + 1, by omega, by go_num, by rw [← hkA]; exact H8.out, HS.out⟩
                  case measure => simp [intOf]; omega
        · have t3 : ((q : Int) != p) = true := by rw [bne_iff_ne]; exact hqp
          have e : keysB l p = false := HNO.out fun g => hqp (by rw [← HQ.out, ← HX.out]; exact g.2.1)
          clear hqp
          go_region_held3 (fun w' => w'.cell? ⟨b, 3, none⟩ = some (.slice (some ⟨b2, o2, none⟩) l.length s.kc) ∧ w'.cell? ⟨b2, o2 + k, none⟩ = some (.string x) ∧ w'.cell? ⟨b, 2, none⟩ = some (.int .i64 p))
            (first | exact ⟨b3, c0, b2c⟩ | exact ⟨y1, y2, y3⟩)
            (first
              | (go_at_call 96; refine (HOW.out _).mono ?_; rintro e w5 ⟨rfl, h5⟩; have y1 := old_cell h5 (show v1.drew.cell? _ = _ from b3); have y2 := old_cell h5 (show v1.drew.cell? _ = _ from c0); have y3 := old_cell h5 (show v1.drew.cell? _ = _ from b2c)))
          all_goals
            have H6 := Lib.hid (HT.out.drew.below h5)
            go_wp2_with fail
            go_ret
            exact ⟨by rw [e]; rfl, by have h9 := H6.out.old (by simp); first | exact h9 | (rw [hb] at h9; exact h9)⟩
      · have hn' : isN (keyAt l k) = false := by simpa using hn
        have e : keysB l p = false := HNO.out fun g => hn g.1
        unfold isN at hn'
        rw [hn'] at HI
        obtain ⟨x, hX⟩ : ∃ x, keyAt l k = x := ⟨_, rfl⟩
        rw [hX] at c0 HI
        have H9 := Lib.hid h9
        clear hn hn' hzk hX hx hcell hT hok HNO h9
        go_wp2_with fail
        refine HI.out.mono ?_
        rintro e v1 ⟨rfl, rfl⟩
        go_wp2_with fail
        go_quiet (fail)
        go_wp2_with fail
        go_ret
        exact ⟨by rw [e]; rfl, by have h9 := below_drewN H9.out nq; first | exact h9 | (rw [hb] at h9; exact h9)⟩
    · obtain rfl : k = l.length := by omega
      have e : keysB l p = true := decide_eq_true ⟨by omega, hok⟩
      go_wp2_with fail
      go_ret
      exact ⟨by rw [e]; rfl, by first | exact h9 | (rw [hb] at h9; exact h9)⟩
end Go.Proofs.YtpmoanjeoaeabaaDoor
end

section
/- The program's keys. -/
set_option linter.unusedVariables false
set_option linter.unusedSimpArgs false
set_option linter.unnecessarySimpa false
set_option maxRecDepth 100000
namespace Go.Proofs.YtpmoanjeoaeabaaDoor
open Go.RowKit Go.ChangeShapes Go.WideShapes Go.ChangeAt
set_option maxHeartbeats 1600000 in
theorem keys_any {w : World} (s : St) (hs : StAt w s) (hz : ∀ k ∈ s.keys, k.size ≤ 140737488351232) (hT : Lib.Utf8Tabs 0 1 w) :
    Calls Tryd.prog 67 #[s.v] w fun e w' => e = .returned (.bool (keysB s.keys s.part)) ∧ Below w.heap.size w w' := by
  have hE := Lib.hid hs.keys
  have HU := Lib.hid hT
  have h1 := (Sat.start w).new #[.string s.name, .int .i64 s.kind, .int .i64 s.part, .slice s.kA s.keys.length s.kc, .slice s.nA s.needs.length s.nc] 35
  obtain ⟨b, hb⟩ : ∃ b, w.heap.size = b := ⟨_, rfl⟩
  unfold St.v
  obtain ⟨l, hL⟩ : ∃ l, s.keys = l := ⟨_, rfl⟩
  obtain ⟨p, hP⟩ : ∃ l, s.part = l := ⟨_, rfl⟩
  rw [hL, hP] at h1 ⊢
  rw [hL] at hE hz
  rw [hb] at h1
  have H1 := Lib.hid h1
  have HZ := Lib.hid hz
  clear hL hP h1 hs hz hT
  by_cases h2 : 2 < l.length
  · have t2 : decide ((2 : Int) < (l.length : Int)) = true := decide_eq_true (by omega)
    have e : keysB l p = false := decide_eq_false fun g => by omega
    go_enter Tryd.func67, Tryd.ntmps67
    go_wp2_with fail
    go_ret
    exact ⟨by first | rfl | (rw [e]; rfl), by have h9 := H1.out.old (by simp); first | exact h9 | (rw [← hb] at h9; exact h9) | (rw [hb] at h9; exact h9) | (simp only [hb] at h9 ⊢; exact h9)⟩
  have t2 : decide ((2 : Int) < (l.length : Int)) = false := decide_eq_false (by omega)
  go_enter Tryd.func67, Tryd.ntmps67
  go_wp2_with fail
  try simp only [hb]
  go_loopw [12] (RkRel w b [.string s.name, .int .i64 s.kind, .int .i64 p, .slice s.kA l.length s.kc, .slice s.nA s.needs.length s.nc] l p) (fun x _ => l.length - (intOf x).toNat)
  case atStart => exact ⟨0, Nat.zero_le _, rfl, H1.out, fun j hj => by omega⟩
  case round =>
    obtain ⟨k, hk, rfl, hT, hok⟩ := hrel
    clear H1
    have h9 := hT.old (List.mem_cons_of_mem _ List.mem_cons_self)
    have b3 : wr.cell? ⟨b, 3, none⟩ = some (.slice s.kA l.length s.kc) := hT.blk.cell 3
    by_cases hlt : k < l.length
    · obtain ⟨b2, o2, hkA, hcell⟩ := key_cells (hE.out.keep h9) (by omega)
      have c0 := hcell k hlt
      have hx : l[k] = keyAt l k := List.getElem_eq_getD (h := hlt) _
      have hzk := HZ.out _ (List.getElem_mem hlt)
      rw [hx] at c0 hzk
      have HNO := Lib.hid (fun h => keys_no (p := p) hlt h)
      obtain ⟨V, hV⟩ : ∃ V : List Value, V = [.string s.name, .int .i64 s.kind, .int .i64 p, .slice s.kA l.length s.kc, .slice s.nA s.needs.length s.nc] := ⟨_, rfl⟩
      obtain ⟨L, hL⟩ : ∃ L, L = [Blk b 35 V, Old w] := ⟨_, rfl⟩
      have hIn : Sat w wr L := by rw [hL, hV]; exact hT
      have op : ∀ w', Sat w w' L → Sat w w' [Blk b 35 V, Old w] := fun w' h => by rw [hL] at h; exact h
      have ob : ∀ x : In w L, Below w.heap.size w x.w := fun x => (op _ x.ok).old (by simp)
      have f2 : ∀ x : In w L, x.w.cell? ⟨b, 2, none⟩ = some (.int .i64 p) := fun x => by rw [(op _ x.ok).blk.cell 2, hV]; rfl
      have f3 : ∀ x : In w L, x.w.cell? ⟨b, 3, none⟩ = some (.slice (some ⟨b2, o2, none⟩) l.length s.kc) := fun x => by rw [(op _ x.ok).blk.cell 3, hV, ← hkA]; rfl
      have HIN := Lib.hid hIn
      have HOP := Lib.hid (fun w' (h : Sat w w' L) => show Sat w w' [Blk b 35 V, Old w] from op _ h)
      have HV := Lib.hid hV
      have FPV : Hid (0 < k → ∀ x : In w L, x.w.cell? ⟨b2, o2 + (k - 1), none⟩ = some (.string (keyAt l (k - 1)))) := fun h x => by
        obtain ⟨b3, o3, e3, hc3⟩ := key_cells (hE.out.keep (ob x)) (by omega)
        rw [hkA] at e3
        cases e3
        rw [hc3 (k - 1) (by omega)]
        exact congrArg some (congrArg Value.string (List.getElem_eq_getD (h := by omega) _))
      have HOK := Lib.hid hok
      have HZK := Lib.hid hzk
      have C36 : Hid (∀ x : In w L, Calls Tryd.prog 36 #[.string (keyAt l k)] x.w fun e w' => e = .returned (.bool (isN (keyAt l k))) ∧ ∃ y : In w L, w' = y.w) := fun x => Calls.in_below (is_any (keyAt l k) x.w hzk)
      have C93 : Hid ((keyAt l k).size ≤ 4194304 → ∀ x : In w L, Calls Tryd.prog 93 #[.string (keyAt l k)] x.w fun e w' => e = .returned (.int .i64 (ownN (keyAt l k) : Nat)) ∧ ∃ y : In w L, w' = y.w) := fun h x => Calls.in_below (owner_any (keyAt l k) x.w h)
      have C89 : Hid ((keyAt l (k - 1)).size ≤ 140737488351232 → ∀ x : In w L, Calls Tryd.prog 89 #[.string (keyAt l (k - 1)), .string (keyAt l k)] x.w fun e w' => e = .returned (.int .i64 (cmpN (keyAt l (k - 1)) (keyAt l k))) ∧ ∃ y : In w L, w' = y.w) := fun h x => Calls.in_below (compare_any _ _ x.w (tabs_keep HU.out (ob x)) h hzk)
      haveI hne : Nonempty (In w L) := ⟨⟨_, hIn⟩⟩
      rw [hkA]
      have HS : Hid (keyOk l p k → ∀ j, j < k + 1 → keyOk l p j) := fun g j hj => by
        by_cases e : j = k
        · subst e; exact g
        · exact HOK.out j (by omega)
      have HSH : Hid (isN (keyAt l k) = true → (keyAt l k).size ≤ 32) := fun h => is_short h
      have HSP : Hid (0 < k → (keyAt l (k - 1)).size ≤ 32) := fun h => is_short (hok (k - 1) (by omega)).1
      have HKO : Hid (keyOk l p k ↔ isN (keyAt l k) = true ∧ (ownN (keyAt l k) : Int) = p ∧ (0 < k → cmpN (keyAt l (k - 1)) (keyAt l k) < 0)) := by show _ ↔ _; unfold keyOk; exact Iff.rfl
      clear hV op hIn hT hok h9 b3 hx hcell hzk
      obtain ⟨x, hX⟩ : ∃ x, keyAt l k = x := ⟨_, rfl⟩
      obtain ⟨z, hZ⟩ : ∃ x, keyAt l (k - 1) = x := ⟨_, rfl⟩
      obtain ⟨q, hQ⟩ : ∃ q, ownN x = q := ⟨_, rfl⟩
      obtain ⟨cv, hcv⟩ : ∃ c, cmpN z x = c := ⟨_, rfl⟩
      obtain ⟨iv, hiv⟩ : ∃ c, isN x = c := ⟨_, rfl⟩
      rw [hX] at c0 C36 C93 C89 HSH HKO
      rw [hZ] at FPV C89 HSP HKO
      rw [hQ] at C93 HKO
      rw [hcv] at C89 HKO
      rw [hiv] at C36 HSH HKO
      clear hX hZ hQ hcv hiv hL ob
      cases iv with
      | false =>
        have e : keysB l p = false := HNO.out fun g => by have := (HKO.out.1 g).1; cases this
        have c36 := C36.out
        go_wp2_with fail
        refine wp_region_in HIN.out (by kernel_rfl) (by kernel_rfl) ?_
        repeat go_big_quiet_step ((first | (go_at_call 36; exact c36 _)))
        refine wpQuiet_nil ?_
        intro w7 hw'
        obtain ⟨x7, hw7⟩ := hw'
        have h7 := x7.ok
        rw [← hw7] at h7
        have H8 := Lib.hid (HOP.out _ h7)
        clear hw7 x7 h7 f2 f3 hne c36
        go_wp2_with fail
        go_ret
        exact ⟨by first | rfl | (rw [e]; rfl), by have h9 := H8.out.old (by simp); first | exact h9 | (rw [hb] at h9; exact h9)⟩
      | true =>
        have c36 := C36.out
        have hsh := HSH.out rfl
        have c93 := C93.out (by omega)
        by_cases hqp : (q : Int) = p
        · have t3 : ((q : Int) != p) = false := by rw [hqp]; simp
          have HQP := Lib.hid hqp
          clear hqp
          by_cases h0 : k = 0
          · have tk : decide ((0 : Int) < (k : Int)) = false := decide_eq_false (by omega)
            have tk2 : decide (0 < k) = false := decide_eq_false (by omega)
            have H0 := Lib.hid h0
            clear h0
            go_wp2_with fail
            refine wp_region_in HIN.out (by kernel_rfl) (by kernel_rfl) ?_
            repeat go_big_quiet_step ((first | (go_at_call 36; exact c36 _) | (go_at_call 93; exact c93 _)))
            refine wpQuiet_nil ?_
            intro w7 hw'
            obtain ⟨x7, hw7⟩ := hw'
            have h7 := x7.ok
            rw [← hw7] at h7
            have H8 := Lib.hid (HOP.out _ h7)
            clear hw7 x7 h7 f2 f3 hne c36 c93
            go_wp2_with fail
            go_roundw
            case rel => exact ⟨k + 1, by omega, by go_num, by rw [← hkA, ← HV.out]; exact H8.out, HS.out (HKO.out.2 ⟨by first | trivial | rfl, HQP.out, fun h => by have := H0.out; omega⟩)⟩
            case measure => simp [intOf]; omega
          · have f4 := FPV.out (by omega)
            have hsp := HSP.out (by omega)
            have c89 := C89.out (by omega)
            have tk1 : decide ((0 : Int) < (k : Int)) = true := decide_eq_true (by omega)
            have tk2 : decide (0 < k) = true := decide_eq_true (by omega)
            have hk0 : 0 < k := by omega
            have sw : IntKind.i64.wrap ((k : Int) - 1) = ((k - 1 : Nat) : Int) := by
              rw [show (k : Int) - 1 = ((k - 1 : Nat) : Int) by omega]
              exact IntWalk.i64_in _ (by omega)
            have i0 : (0 : Int) ≤ ((k - 1 : Nat) : Int) := by omega
            have i1 : ((k - 1 : Nat) : Int) < (l.length : Int) := by omega
            have i2 : (0 : Int) ≤ (k : Int) := by omega
            have i3 : (k : Int) < (l.length : Int) := by omega
            clear h0 hsh hsp
            by_cases hc : 0 ≤ cv
            · have t4 : decide (0 ≤ cv) = true := decide_eq_true hc
              have e : keysB l p = false := HNO.out fun g => by have := (HKO.out.1 g).2.2 hk0; omega
              clear hc
              go_wp2_with fail
              refine wp_region_in HIN.out (by kernel_rfl) (by kernel_rfl) ?_
              repeat go_big_quiet_step ((first | (go_at_call 36; exact c36 _) | (go_at_call 93; exact c93 _) | (go_at_call 89; exact c89 _)))
              refine wpQuiet_nil ?_
              intro w7 hw'
              obtain ⟨x7, hw7⟩ := hw'
              have h7 := x7.ok
              rw [← hw7] at h7
              have H8 := Lib.hid (HOP.out _ h7)
              clear hw7 x7 h7 f2 f3 hne c36 c93 c89 f4
              go_wp2_with fail
              go_ret
              exact ⟨by first | rfl | (rw [e]; rfl), by have h9 := H8.out.old (by simp); first | exact h9 | (rw [hb] at h9; exact h9)⟩
            · have t4 : decide (0 ≤ cv) = false := decide_eq_false hc
              have HC := Lib.hid hc
              clear hc
              go_wp2_with fail
              refine wp_region_in HIN.out (by kernel_rfl) (by kernel_rfl) ?_
              repeat go_big_quiet_step ((first | (go_at_call 36; exact c36 _) | (go_at_call 93; exact c93 _) | (go_at_call 89; exact c89 _)))
              refine wpQuiet_nil ?_
              intro w7 hw'
              obtain ⟨x7, hw7⟩ := hw'
              have h7 := x7.ok
              rw [← hw7] at h7
              have H8 := Lib.hid (HOP.out _ h7)
              clear hw7 x7 h7 f2 f3 hne c36 c93 c89 f4
              go_wp2_with fail
              go_roundw
              case rel => exact ⟨k + 1, by omega, by go_num, by rw [← hkA, ← HV.out]; exact H8.out, HS.out (HKO.out.2 ⟨by first | trivial | rfl, HQP.out, fun _ => by have := HC.out; omega⟩)⟩
              case measure => simp [intOf]; omega
        · have t3 : ((q : Int) != p) = true := by rw [bne_iff_ne]; exact hqp
          have e : keysB l p = false := HNO.out fun g => hqp (HKO.out.1 g).2.1
          clear hqp
          go_wp2_with fail
          refine wp_region_in HIN.out (by kernel_rfl) (by kernel_rfl) ?_
          repeat go_big_quiet_step ((first | (go_at_call 36; exact c36 _) | (go_at_call 93; exact c93 _)))
          refine wpQuiet_nil ?_
          intro w7 hw'
          obtain ⟨x7, hw7⟩ := hw'
          have h7 := x7.ok
          rw [← hw7] at h7
          have H8 := Lib.hid (HOP.out _ h7)
          clear hw7 x7 h7 f2 f3 hne c36 c93
          go_wp2_with fail
          go_ret
          exact ⟨by first | rfl | (rw [e]; rfl), by have h9 := H8.out.old (by simp); first | exact h9 | (rw [hb] at h9; exact h9)⟩
    · obtain rfl : k = l.length := by omega
      have e : keysB l p = true := decide_eq_true ⟨by omega, hok⟩
      go_wp2_with fail
      go_ret
      exact ⟨by first | rfl | (rw [e]; rfl), by first | exact h9 | (rw [hb] at h9; exact h9)⟩
end Go.Proofs.YtpmoanjeoaeabaaDoor
end
