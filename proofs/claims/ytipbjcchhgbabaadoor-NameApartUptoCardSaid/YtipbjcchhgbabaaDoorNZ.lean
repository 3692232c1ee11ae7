/- Words: the program's. -/
import Derived.Test.YtipbjcchhgbabaaDoorNY
set_option linter.unusedVariables false
set_option linter.unusedSimpArgs false
namespace Go.Proofs.YtipbjcchhgbabaaDoor
open Go.RowKit Go.ChangeShapes Go.WideShapes Go.ChangeAt
def strOf (l : List Nat) : ByteArray := ⟨(l.map UInt8.ofNat).toArray⟩
theorem strOf_bs (s : ByteArray) : strOf (bs s) = s := by
  unfold strOf bs
  rw [List.map_map]
  have : ∀ l : List UInt8, l.map (UInt8.ofNat ∘ fun x => x.toNat) = l := by
    intro l
    induction l with
    | nil => rfl
    | cons x l ih => rw [List.map_cons, ih]; simp
  rw [this]
theorem bs_inj {a b : ByteArray} (h : bs a = bs b) : a = b := by rw [← strOf_bs a, h, strOf_bs]
def wordsS (s : ByteArray) : List ByteArray := (NM.words (bs s)).map strOf
def wv (M : List ByteArray) : List Value := M.map Value.string
theorem wv_len (M : List ByteArray) : (wv M).length = M.length := by simp [wv]
theorem wv_one (M : List ByteArray) : ∀ u ∈ wv M, u.oneCell' = true := by
  intro u hu
  obtain ⟨x, _, rfl⟩ := List.mem_map.1 hu
  rfl
/-- the words so far, and where the word under way began -/
def WAt (s : ByteArray) (D : List ByteArray) (f p : Nat) : Prop :=
  ∃ cur : List NM.Tok, wordsS s = D ++ ((NM.wordsT cur (tk s p)).map NM.cat).map strOf ∧ NM.cat cur = ((bs s).drop f).take (p - f) ∧ f ≤ p ∧ (cur = [] ↔ f = p)
theorem WAt.start (s : ByteArray) : WAt s [] 0 0 := ⟨[], by simp [wordsS, NM.words, tk], by simp [NM.cat_nil], Nat.le_refl _, by simp⟩
section
variable {s : ByteArray} {D : List ByteArray} {f p r n : Nat}
theorem WAt.le (h : WAt s D f p) : f ≤ p := by obtain ⟨_, _, _, h, _⟩ := h; exact h
theorem WAt.plain (h : WAt s D f p) (ht : tk s p = (r, ((bs s).drop p).take n) :: tk s (p + n)) (hn : 1 ≤ n) (hb : NM.blankP r = false) : WAt s D f (p + n) := by
  obtain ⟨cur, h1, h2, h3, h4⟩ := h
  refine ⟨cur ++ [(r, ((bs s).drop p).take n)], ?_, ?_, by omega, ?_⟩
  · rw [h1, ht, NM.wordsT_cons, if_neg (by rw [hb]; simp)]
  · rw [NM.cat_append, h2, show NM.cat [(r, ((bs s).drop p).take n)] = ((bs s).drop p).take n by simp [NM.cat], show p + n - f = (p - f) + n by omega, List.take_add, List.drop_drop, show f + (p - f) = p by omega]
  · constructor
    · intro e; simp at e
    · intro e; omega
theorem WAt.blank0 (h : WAt s D f p) (ht : tk s p = (r, ((bs s).drop p).take n) :: tk s (p + n)) (hb : NM.blankP r = true) (hf : f = p) : WAt s D (p + n) (p + n) := by
  obtain ⟨cur, h1, h2, h3, h4⟩ := h
  refine ⟨[], ?_, by simp [NM.cat_nil], Nat.le_refl _, by simp⟩
  rw [h1, ht, NM.wordsT_cons, if_pos hb, if_pos (h4.2 hf)]
theorem cat_str {cur : List NM.Tok} (h : NM.cat cur = ((bs s).drop f).take (p - f)) : strOf (NM.cat cur) = s.extract f p := by
  rw [h, ← bs_extract, strOf_bs]
theorem WAt.blank1 (h : WAt s D f p) (ht : tk s p = (r, ((bs s).drop p).take n) :: tk s (p + n)) (hb : NM.blankP r = true) (hf : f < p) : WAt s (D ++ [s.extract f p]) (p + n) (p + n) := by
  obtain ⟨cur, h1, h2, h3, h4⟩ := h
  refine ⟨[], ?_, by simp [NM.cat_nil], Nat.le_refl _, by simp⟩
  rw [h1, ht, NM.wordsT_cons, if_pos hb, if_neg (fun e => by have := h4.1 e; omega), List.map_cons, List.map_cons, cat_str h2, List.append_assoc]
  rfl
theorem WAt.end0 (h : WAt s D f p) (hp : s.size ≤ p) (hf : f = p) : wordsS s = D := by
  obtain ⟨cur, h1, h2, h3, h4⟩ := h
  rw [h1, tk_end s p hp, NM.wordsT_nil, if_pos (h4.2 hf)]
  simp
theorem WAt.end1 (h : WAt s D f p) (hp : s.size ≤ p) (hf : f < p) : wordsS s = D ++ [s.extract f p] := by
  obtain ⟨cur, h1, h2, h3, h4⟩ := h
  rw [h1, tk_end s p hp, NM.wordsT_nil, if_neg (fun e => by have := h4.1 e; omega)]
  simp [cat_str h2]
end
theorem blank_len (s : ByteArray) (p : Nat) (h : p < s.size) (hb : NM.blankP (Utf8.decode s p).1 = true) : Lib.runeLen (Utf8.decode s p).1 = ((Utf8.decode s p).2 : Nat) := by
  have hn := decode_n s p h
  have ht := tk_step s p h
  have he := (NM.toks_enc ((bs s).drop p) _ (by show _ ∈ tk s p; rw [ht]; exact .head _)).2
  have hr : (Utf8.decode s p).1 = 9 ∨ (Utf8.decode s p).1 = 32 ∨ (Utf8.decode s p).1 = 160 ∨ (Utf8.decode s p).1 = 8195 := by unfold NM.blankP at hb; simpa using hb
  have hl := congrArg List.length (he (by simp only; omega))
  simp only [List.length_take, List.length_drop, bs_len] at hl
  rw [Nat.min_eq_left (by omega)] at hl
  rw [hl]
  rcases hr with e | e | e | e <;> rw [e] <;> decide
theorem info9 : (Tryd.prog.info? 9).map (fun i => (i.zero, i.size, i.bytes)) = some (some (.string ⟨#[]⟩), 1, 16) := by kernel_rfl
def WRel (w0 : World) (F : List HP) (g : Nat) (s : ByteArray) (out from_ : Value) (wr : World) : Prop :=
  ∃ (p f : Nat) (D : List ByteArray) (A : Option Addr) (c : Nat), p ≤ s.size ∧ D.length ≤ p ∧ WAt s D f p ∧ from_ = .int .i64 f ∧ out = .slice A D.length c ∧ Sat w0 wr (Row 9 1 A D.length c (wv D) :: BlkO g (.stringIter s p) :: F)
set_option maxRecDepth 100000 in
set_option maxHeartbeats 1600000 in
theorem words_any (s : ByteArray) (w0 w : World) (F : List HP) (hS : Sat w0 w F) (hs : s.size ≤ 4194304) :
    Calls Tryd.prog 22 #[.string s] w fun e w' => ∃ A c, e = .returned (.slice A (wordsS s).length c) ∧ Sat w0 w' (Row 9 1 A (wordsS s).length c (wv (wordsS s)) :: F) := by
  obtain ⟨i, hi, hz, hsz, hby⟩ := info_parts info9
  have hS0 := (hS.iter s).nilRow 9 1
  go_enter Tryd.func22, Tryd.ntmps22
  go_wp2_with fail
  go_loopw [3, 4] (WRel w0 F w.heap.size s) (fun _ _ wr => s.size - iterPos wr w.heap.size)
  case atStart => exact ⟨0, 0, [], none, 0, Nat.zero_le _, Nat.le_refl _, WAt.start s, rfl, rfl, hS0⟩
  case round =>
    obtain ⟨p, f, D, A, c, hp, hDp, hW, rfl, rfl, hT⟩ := hrel
    clear hS0 hS
    have hfp := hW.le
    by_cases hlt : p < s.size
    · have hst := tk_step s p hlt
      obtain ⟨hn1, hn2⟩ := decode_n s p hlt
      have hr := decode_lt s p hlt
      have hbl := blank_len s p hlt
      have hpos := Lib.hid hT.r2.iterPos
      obtain ⟨r, hrr⟩ : ∃ r, (Utf8.decode s p).1 = r := ⟨_, rfl⟩
      obtain ⟨n, hnn⟩ : ∃ n, (Utf8.decode s p).2 = n := ⟨_, rfl⟩
      have HR := Lib.hid hrr
      have HN := Lib.hid hnn
      rw [hrr, hnn] at hst hbl
      rw [hrr] at hr
      rw [hnn] at hn1 hn2
      have HST := Lib.hid hst
      clear hst hrr hnn
      cases hb : NM.blankP r with
      | false =>
        have HW := hW.plain HST.out hn1 hb
        have hb2 : blankB r = false := hb
        clear hbl
        go_wp2_with (first
          | (refine wpList_next rfl (.tmp 8) rfl (by rfl) hT.r2 hlt ?_; intro w2 hT2; rw [HR.out]; rw [HN.out] at hT2)
          | (go_at_call 32; refine (blank_any r _ hr).mono ?_; rintro e w3 ⟨rfl, rfl⟩; rw [hb2]))
        refine ⟨⟨p + n, f, D, A, c, by omega, by omega, HW, rfl, rfl, hT2.r2⟩, ?_⟩
        rw [hT2.iterPos, hpos.out]; omega
      | true =>
        have hb2 : blankB r = true := hb
        have HL := Lib.hid (hbl hb)
        clear hbl
        have swn : IntKind.i64.wrap ((p : Int) + (n : Int)) = ((p + n : Nat) : Int) := by rw [IntWalk.i64_in _ (by omega)]; omega
        by_cases hf : f = p
        · have HW := hW.blank0 HST.out hb hf
          have t1 : ¬ f < p := by omega
          clear hf
          go_wp2_with (first
            | (refine wpList_next rfl (.tmp 8) rfl (by rfl) hT.r2 hlt ?_; intro w2 hT2; rw [HR.out]; rw [HN.out] at hT2)
            | (go_at_call 32; refine (blank_any r _ hr).mono ?_; rintro e w3 ⟨rfl, rfl⟩; rw [hb2])
            | (go_at_call 33; refine (Tryd.utf8_RuneLen r _).mono ?_; rintro e w3 ⟨rfl, rfl⟩; rw [HL.out]))
          refine ⟨⟨p + n, p + n, D, A, c, by omega, by omega, HW, by first | rfl | go_num, rfl, hT2.r2⟩, ?_⟩
          rw [hT2.iterPos, hpos.out]; omega
        · have t1 : f < p := by omega
          have HW := hW.blank1 HST.out hb t1
          have h4 : D.length + 1 ≤ maxLen := by unfold maxLen; omega
          have h5 : (D.length + 1) * 16 ≤ 140737488355328 := by omega
          go_wp2_with (first
            | (refine wpList_next rfl (.tmp 8) rfl (by rfl) hT.r2 hlt ?_; intro w2 hT2; rw [HR.out]; rw [HN.out] at hT2)
            | (go_at_call 32; refine (blank_any r _ hr).mono ?_; rintro e w3 ⟨rfl, rfl⟩; rw [hb2])
            | (at_builtin; refine wpList_app1 rfl (.tmp 19) (.tmp 24) 28 rfl 9 i (.string ⟨#[]⟩) 1 16 Tryd.underlying28 hi hz hsz hby rfl (by decide) rfl (hT2.r2.new #[.string (s.extract f p)] 9) (by rfl) rfl (wv_one [s.extract f p]) h4 h5 ?_; intro A' c' w' hT3)
            | (go_at_call 33; refine (Tryd.utf8_RuneLen r _).mono ?_; rintro e w3 ⟨rfl, rfl⟩; rw [HL.out]))
          refine ⟨⟨p + n, p + n, D ++ [s.extract f p], A', c', by omega, by simp; omega, HW, by first | rfl | go_num, by simp, by simpa [wv] using hT3⟩, ?_⟩
          rw [hT3.r2.iterPos, hpos.out]; omega
    · by_cases hf : f = p
      · have HW := Lib.hid (hW.end0 (by omega) hf)
        have t1 : ¬ f < s.size := by omega
        clear hf hW
        go_wp2_with (refine wpList_next_end rfl (.tmp 8) rfl (by rfl) hT.r2 hlt ?_)
        go_ret
        exact ⟨A, c, by rw [HW.out]; rfl, by rw [HW.out]; exact hT.r2.tail⟩
      · have hps : p = s.size := by omega
        have HW := Lib.hid (hps ▸ hW.end1 (by omega) (by omega) : wordsS s = D ++ [s.extract f s.size])
        have t1 : f < s.size := by omega
        have h4 : D.length + 1 ≤ maxLen := by unfold maxLen; omega
        have h5 : (D.length + 1) * 16 ≤ 140737488355328 := by omega
        clear hf hW
        go_wp2_with (first
          | (refine wpList_next_end rfl (.tmp 8) rfl (by rfl) hT.r2 hlt ?_)
          | (at_builtin; refine wpList_app1 rfl (.tmp 34) (.tmp 38) 28 rfl 9 i (.string ⟨#[]⟩) 1 16 Tryd.underlying28 hi hz hsz hby rfl (by decide) rfl (hT.new #[.string (s.extract f s.size)] 9) (by rfl) rfl (wv_one [s.extract f s.size]) h4 h5 ?_; intro A' c' w' hT3))
        go_ret
        refine ⟨A', c', ?_, ?_⟩
        · rw [HW.out, List.length_append]; rfl
        · rw [HW.out, List.length_append]; simpa [wv] using hT3.r2.tail
end Go.Proofs.YtipbjcchhgbabaaDoor
