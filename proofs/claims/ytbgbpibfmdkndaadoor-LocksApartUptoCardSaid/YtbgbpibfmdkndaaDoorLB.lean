/- A rune of two bytes, read by the library; Compare; how far the tape is drawn. -/
import Derived.Test.YtbgbpibfmdkndaaDoorLA
set_option linter.unusedVariables false
set_option linter.unusedSimpArgs false
set_option linter.unnecessarySimpa false
set_option maxRecDepth 100000
namespace Go.Proofs.YtbgbpibfmdkndaaDoor
open Go.RowKit Go.ChangeShapes Go.WideShapes Go.ChangeAt
/-- blocks below the heap's end stand; the tape was drawn on, never back -/
def Drawn (w w' : World) : Prop := Below w.heap.size w w' ∧ w.drawn ≤ w'.drawn
set_option maxHeartbeats 1600000 in
theorem slow_two (s : ByteArray) (x0 x1 : UInt8) (h2 : 2 ≤ s.size) (e0 : s[0]'(by omega) = x0) (e1 : s[1]'(by omega) = x1) (l0 : 194 ≤ x0.toNat) (u0 : x0.toNat < 224) (l1 : 128 ≤ x1.toNat) (u1 : x1.toNat ≤ 191) (w : World) (hT : Lib.Utf8Tabs 0 1 w) :
    Calls Tryd.prog 54 #[.string s] w fun e w' => e = .returned (.tuple #[.int .i32 ((x0.toNat % 32 * 64 + x1.toNat % 64 : Nat) : Int), .int .i64 2]) ∧ Drawn w w' := by
  have f0 := hT.1 x0.toNat (by omega)
  have f1 := hT.2 0 (by decide)
  have hft : Lib.firstT x0.toNat = 2 := by unfold Lib.firstT; rw [if_neg (by omega), if_neg (by omega), if_pos (by omega)]
  rw [hft] at f0
  obtain ⟨f1, f2⟩ := f1
  have f3 : w.cell? ⟨1, 0, none⟩ = some (.int .u8 128) := f1
  have f4 : w.cell? ⟨1, 1, none⟩ = some (.int .u8 191) := f2
  clear f1 f2 hft hT
  have hz0 : ¬ (s.size : Int) < 1 := by omega
  have hz1 : ¬ (s.size : Int) < 2 := by omega
  have hz2 : 0 < s.size := by omega
  have hz3 : 1 < s.size := by omega
  have b0 : ¬ (x1.toNat : Int) < 128 := by omega
  have b1 : ¬ (191 : Int) < (x1.toNat : Int) := by omega
  go_enter Tryd.func54, Tryd.ntmps54
  go_wp2_with fail

  go_ret2
  exact ⟨by simp, (Below.refl _ _).alloc (Nat.le_refl _) _, Nat.le_refl _⟩
theorem isN_T {s : ByteArray} (h : isN s = true) : NM.isT 0 (tk s 0) = true := h
theorem get_bs (s : ByteArray) (i : Nat) (h : i < s.size) : (s[i]'h).toNat = (bs s).getD i 0 := by
  unfold bs
  have h' : i < s.data.toList.length := by simpa using h
  rw [List.getD, List.getElem?_map, List.getElem?_eq_getElem h']
  rfl
/-- what stands at the head of the tokens of a name -/
theorem head_tok {c : ByteArray} {n : Nat} (h : NM.isT n (tk c 0) = true) (h0 : 0 < c.size) : ∃ r m, Utf8.decode c 0 = (r, m) ∧ NM.isT (n + 1) (tk c m) = true ∧
    ((m = 1 ∧ r < 128 ∧ (c[0]'h0).toNat = r) ∨ (m = 2 ∧ ∃ h1 : 1 < c.size, 194 ≤ (c[0]'h0).toNat ∧ (c[0]'h0).toNat < 224 ∧ 128 ≤ (c[1]'h1).toNat ∧ (c[1]'h1).toNat ≤ 191 ∧ (c[0]'h0).toNat % 32 * 64 + (c[1]'h1).toNat % 64 = r)) := by
  obtain ⟨hn1, hn2⟩ := decode_n c 0 h0
  have hst := tk_step c 0 h0
  have henc := NM.toks_enc ((bs c).drop 0) (((Utf8.decode c 0).1, ((bs c).drop 0).take (Utf8.decode c 0).2)) (by show _ ∈ tk c 0; rw [hst]; exact List.mem_cons_self)
  rw [hst] at h
  simp only [NM.isT, Bool.and_eq_true] at h
  obtain ⟨hok, hrest⟩ := h
  obtain ⟨r, hr⟩ : ∃ r, (Utf8.decode c 0).1 = r := ⟨_, rfl⟩
  obtain ⟨m, hm⟩ : ∃ m, (Utf8.decode c 0).2 = m := ⟨_, rfl⟩
  simp only [hr, hm, List.drop_zero] at henc hok hrest hn1 hn2
  have he := henc.2 (NM.okT_small hok).2
  have hr2 : r < 2048 := by
    unfold NM.okT NM.letterP at hok
    simp at hok
    omega
  rw [Nat.zero_add] at hrest
  refine ⟨r, m, Prod.ext hr hm, hrest, ?_⟩
  have hlen : (bs c).length = c.size := bs_len c
  unfold NM.enc at he
  by_cases h1 : r < 128
  · rw [if_pos h1] at he
    have hl := congrArg List.length he
    rw [List.length_take, hlen] at hl
    simp at hl
    have hm1 : m = 1 := by omega
    subst hm1
    refine .inl ⟨rfl, h1, ?_⟩
    rw [get_bs c 0 h0]
    have h2 := congrArg (fun l => l.getD 0 0) he
    simp [List.getD, List.getElem?_take] at h2
    simp [List.getD]
    exact h2
  · rw [if_neg h1, if_pos hr2] at he
    have hl := congrArg List.length he
    rw [List.length_take, hlen] at hl
    simp at hl
    have hm1 : m = 2 := by omega
    subst hm1
    have h1s : 1 < c.size := by omega
    have a0 : (c[0]'h0).toNat = 192 + r / 64 := by
      rw [get_bs c 0 h0]
      have h2 := congrArg (fun l => l.getD 0 0) he
      simp [List.getD, List.getElem?_take] at h2
      simp [List.getD]
      exact h2
    have a1 : (c[1]'h1s).toNat = 128 + r % 64 := by
      rw [get_bs c 1 h1s]
      have h2 := congrArg (fun l => l.getD 1 0) he
      simp [List.getD, List.getElem?_take] at h2
      simp [List.getD]
      exact h2
    have hr3 : 128 ≤ r := by omega
    have hr4 : r < 1024 := by
      unfold NM.okT NM.letterP at hok
      simp at hok
      omega
    exact .inr ⟨rfl, h1s, by rw [a0]; omega, by rw [a0]; omega, by rw [a1]; omega, by rw [a1]; omega, by rw [a0, a1]; omega⟩
theorem decode_empty_no {c : ByteArray} (h0 : 0 < c.size) : Lib.decodeGo c = Utf8.decode c 0 := by unfold Lib.decodeGo; rw [if_neg (by omega)]
set_option maxHeartbeats 1600000 in
theorem dec_tok {c : ByteArray} {n : Nat} (h : NM.isT n (tk c 0) = true) (h0 : 0 < c.size) (w : World) (hT : Lib.Utf8Tabs 0 1 w) :
    Calls Tryd.prog 41 #[.string c] w fun e w' => e = .returned (.tuple #[.int .i32 (Lib.decodeGo c).1, .int .i64 (Lib.decodeGo c).2]) ∧ Drawn w w' := by
  obtain ⟨r, m, hd, _, hcase⟩ := head_tok h h0
  rw [decode_empty_no h0, hd]
  rcases hcase with ⟨rfl, hr, hx⟩ | ⟨rfl, h1, l0, u0, l1, u1, hv⟩
  · have hx0 : c.data.toList[0]? = some (c[0]'h0) := by
      have h' : 0 < c.data.toList.length := by simpa using h0
      rw [List.getElem?_eq_getElem h']
      rfl
    refine (Tryd.utf8_DecodeRuneInString_ascii c (c[0]'h0) w hx0 (by rw [hx]; exact hr)).mono ?_
    rintro e w' ⟨rfl, rfl⟩
    exact ⟨by rw [hx]; rfl, Below.refl _ _, Nat.le_refl _⟩
  · obtain ⟨x0, hx0⟩ : ∃ x, c[0]'h0 = x := ⟨_, rfl⟩
    obtain ⟨x1, hx1⟩ : ∃ x, c[1]'h1 = x := ⟨_, rfl⟩
    rw [hx0] at l0 u0 hv
    rw [hx1] at l1 u1 hv
    have HS := Lib.hid (slow_two c x0 x1 (by omega) hx0 hx1 l0 u0 l1 u1 w hT)
    have he : c.toList.isEmpty = false := empty_no c (by omega)
    have t1 : ¬ (x0.toNat : Int) < 128 := by omega
    rw [hv] at HS
    clear hT hd l1 u1 hv h
    go_enter Tryd.func41, Tryd.ntmps41
    go_wp2_with fail
    refine HS.out.mono ?_
    rintro e w' ⟨rfl, hb⟩
    have HB := Lib.hid hb
    clear hb HS
    go_wp2_with fail
    go_ret2
    exact ⟨rfl, HB.out⟩
theorem wpList_nextD {P : Program} {w0 w : World} {L : List HP} {g pos : Nat} {s : ByteArray} {ops : Array Oper} {rest : List Oper} {o : Oper} {a : Act} {Q : Exit → Act → World → Prop} (hgd : o.guard = none) (x : Operand) (ho : o.op = .next x true)
    (hx : a.eval x = .pointer (some ⟨g, 0, none⟩)) (hS : Sat w0 w (BlkO g (.stringIter s pos) :: L)) (hp : pos < s.size)
    (h : ∀ w', Sat w0 w' (BlkO g (.stringIter s (pos + (Utf8.decode s pos).2)) :: L) → w.drawn ≤ w'.drawn → wpList P ops Q rest (a.put o.dst (.tuple #[.bool true, .int .i64 pos, .int .i32 (Utf8.decode s pos).1])) w') : wpList P ops Q (o :: rest) a w := by
  refine wpList_plain hgd fun K hK => ?_
  have hb := hS.blkO
  have hg : g < w.heap.size := (Array.getElem?_eq_some_iff.1 hb).1
  have hS2 : Sat w0 { w with heap := w.heap.setIfInBounds g (.stringIter s (pos + (Utf8.decode s pos).2)) } (BlkO g (.stringIter s (pos + (Utf8.decode s pos).2)) :: L) :=
    Sat.update hS rfl rfl rfl (by simp) (by simp [hg]) fun k _ hk => by simp [Array.getElem?_setIfInBounds, Ne.symm hk]
  unfold Oper.wp execOp
  simp only [ho, hx, Instr.next, getObj, setObj, Sem.run_bind, Sem.run, hb, Result.andThen, hp, if_true]
  simp [goInt, Sem.run, hb, Oper.upon]
  exact hK _ _ (h _ hS2 (Nat.le_refl _))
def CmpRelD (w : World) (a b : ByteArray) (v : Value) (wr : World) : Prop :=
  ∃ (p : Nat) (c : ByteArray) (nn : Nat), NM.isT nn (tk c 0) = true ∧ w.drawn ≤ wr.drawn ∧ p ≤ a.size ∧ c.size ≤ 140737488351232 ∧ v = .string c ∧ NM.cmpT (tk a 0) (tk b 0) = NM.cmpT (tk a p) (tk c 0) ∧ Sat w wr [BlkO w.heap.size (.stringIter a p), Old w]
set_option maxRecDepth 100000 in
set_option maxHeartbeats 1600000 in
theorem compareD_any (a b : ByteArray) (w : World) (hbN : isN b = true) (hT : Lib.Utf8Tabs 0 1 w) (ha : a.size ≤ 140737488351232) (hb : b.size ≤ 140737488351232) :
    Calls Tryd.prog 32 #[.string a, .string b] w fun e w' => e = .returned (.int .i64 (NM.cmpT (tk a 0) (tk b 0))) ∧ Drawn w w' := by
  have hS := (Sat.start w).iter a
  have HT := Lib.hid hT
  have HBN := Lib.hid (isN_T hbN)
  clear hT hbN
  go_enter Tryd.func32, Tryd.ntmps32
  go_wp2_with fail
  go_loopw [1] (CmpRelD w a b) (fun _ wr => a.size - iterPos wr w.heap.size)
  case atStart => exact ⟨0, b, 0, HBN.out, Nat.le_refl _, Nat.zero_le _, hb, rfl, rfl, hS⟩
  case round =>
    obtain ⟨p, c, nn, hisT, hdr, hp, hc, rfl, hI, hT⟩ := hrel
    have HIST := Lib.hid hisT
    have HDR := Lib.hid hdr
    clear hisT hdr
    clear hS
    have HI := Lib.hid hI
    clear hI
    by_cases hlt : p < a.size
    · have hst := tk_step a p hlt
      obtain ⟨hn1, hn2⟩ := decode_n a p hlt
      have hr := decode_lt a p hlt
      have hpos := Lib.hid hT.iterPos
      obtain ⟨r, hrr⟩ : ∃ r, (Utf8.decode a p).1 = r := ⟨_, rfl⟩
      obtain ⟨n, hnn⟩ : ∃ n, (Utf8.decode a p).2 = n := ⟨_, rfl⟩
      have HR := Lib.hid hrr
      have HN := Lib.hid hnn
      rw [hrr, hnn] at hst
      rw [hrr] at hr
      rw [hnn] at hn1 hn2
      have HST := Lib.hid hst
      clear hst hrr hnn
      by_cases h0 : c.size = 0
      · have he := empty_yes c h0
        have HE : Hid (NM.cmpT (tk a 0) (tk b 0) = 1) := by show _ = _; rw [HI.out, HST.out, tk_end c 0 (by omega)]; rfl
        clear h0
        go_wp2_with (refine wpList_nextD rfl (.tmp 10) rfl (by rfl) hT hlt ?_; intro w2 hT2 hd2; have HD2 := Lib.hid hd2; clear hd2; rw [HR.out]; rw [HN.out] at hT2)
        go_ret
        exact ⟨by rw [HE.out]; rfl, hT2.old (by simp), Nat.le_trans HDR.out HD2.out⟩
      · have he := empty_no c h0
        have hclt : 0 < c.size := by omega
        have HCLT := Lib.hid hclt
        have hstc := tk_step c 0 hclt
        have hdc := decode_n c 0 hclt
        have hyl := decode_lt c 0 hclt
        have hgo : Lib.decodeGo c = Utf8.decode c 0 := by unfold Lib.decodeGo; rw [if_neg h0]
        have HNX : Hid (NM.isT (nn + 1) (tk (c.extract (Utf8.decode c 0).2 c.size) 0) = true) := by
          show _ = _
          obtain ⟨r', m', hd', hrest, _⟩ := head_tok HIST.out hclt
          rw [tk_extract, hd']
          exact hrest
        obtain ⟨y, hyy⟩ : ∃ r, (Utf8.decode c 0).1 = r := ⟨_, rfl⟩
        obtain ⟨m, hmm⟩ : ∃ n, (Utf8.decode c 0).2 = n := ⟨_, rfl⟩
        rw [hyy, hmm, Nat.zero_add] at hstc
        rw [hyy] at hyl
        rw [hmm] at hdc HNX
        have HD : Hid ((Lib.decodeGo c).1 = y ∧ (Lib.decodeGo c).2 = m) := by show _ ∧ _; rw [hgo]; exact ⟨hyy, hmm⟩
        have HC : Hid (NM.cmpT (tk a 0) (tk b 0) = if r < y then -1 else if y < r then 1 else NM.cmpT (tk a (p + n)) (tk (c.extract m c.size) 0)) := by
          show _ = _; rw [HI.out, HST.out, hstc, NM.cmpT, tk_extract]
        have hmc : m ≤ c.size := by omega
        have hcs : (c.extract m c.size).size ≤ 140737488351232 := by simp; omega
        have hcs2 := Lib.hid hcs
        clear hstc hgo hyy hmm h0 hdc hcs
        by_cases h1 : r < y
        · have HC2 : Hid (NM.cmpT (tk a 0) (tk b 0) = -1) := by show _ = _; rw [HC.out, if_pos h1]
          have t1 : decide ((r : Int) < (y : Int)) = true := decide_eq_true (by omega)
          go_wp2_with (first
            | (refine wpList_nextD rfl (.tmp 10) rfl (by rfl) hT hlt ?_; intro w2 hT2 hd2; have HD2 := Lib.hid hd2; clear hd2; rw [HR.out]; rw [HN.out] at hT2)
            | (go_at_call 41; refine (dec_tok HIST.out HCLT.out _ (tabs_keep HT.out (hT2.old (by simp)))).mono ?_; rintro e w3 ⟨rfl, hb3, hd3⟩; have HD3 := Lib.hid hd3; clear hd3; rw [HD.out.1, HD.out.2]; have hT3 := hT2.below hb3; clear hb3))
          go_ret
          exact ⟨by rw [HC2.out]; rfl, hT3.old (by simp), Nat.le_trans (Nat.le_trans HDR.out HD2.out) HD3.out⟩
        · by_cases h2 : y < r
          · have HC2 : Hid (NM.cmpT (tk a 0) (tk b 0) = 1) := by show _ = _; rw [HC.out, if_neg h1, if_pos h2]
            go_wp2_with (first
              | (refine wpList_nextD rfl (.tmp 10) rfl (by rfl) hT hlt ?_; intro w2 hT2 hd2; have HD2 := Lib.hid hd2; clear hd2; rw [HR.out]; rw [HN.out] at hT2)
              | (go_at_call 41; refine (dec_tok HIST.out HCLT.out _ (tabs_keep HT.out (hT2.old (by simp)))).mono ?_; rintro e w3 ⟨rfl, hb3, hd3⟩; have HD3 := Lib.hid hd3; clear hd3; rw [HD.out.1, HD.out.2]; have hT3 := hT2.below hb3; clear hb3))
            go_ret
            exact ⟨by rw [HC2.out]; rfl, hT3.old (by simp), Nat.le_trans (Nat.le_trans HDR.out HD2.out) HD3.out⟩
          · have HC2 : Hid (NM.cmpT (tk a 0) (tk b 0) = NM.cmpT (tk a (p + n)) (tk (c.extract m c.size) 0)) := by show _ = _; rw [HC.out, if_neg h1, if_neg h2]
            go_wp2_with (first
              | (refine wpList_nextD rfl (.tmp 10) rfl (by rfl) hT hlt ?_; intro w2 hT2 hd2; have HD2 := Lib.hid hd2; clear hd2; rw [HR.out]; rw [HN.out] at hT2)
              | (go_at_call 41; refine (dec_tok HIST.out HCLT.out _ (tabs_keep HT.out (hT2.old (by simp)))).mono ?_; rintro e w3 ⟨rfl, hb3, hd3⟩; have HD3 := Lib.hid hd3; clear hd3; rw [HD.out.1, HD.out.2]; have hT3 := hT2.below hb3; clear hb3))
            refine ⟨⟨p + n, c.extract m c.size, nn + 1, HNX.out, Nat.le_trans (Nat.le_trans HDR.out HD2.out) HD3.out, by omega, hcs2.out, rfl, HC2.out, hT3⟩, ?_⟩
            rw [hT3.iterPos, hpos.out]; omega
    · by_cases h0 : c.size = 0
      · have he := empty_yes c h0
        have HE : Hid (NM.cmpT (tk a 0) (tk b 0) = 0) := by show _ = _; rw [HI.out, tk_end a p (by omega), tk_end c 0 (by omega)]; rfl
        clear h0
        go_wp2_with (refine wpList_next_end rfl (.tmp 10) rfl (by rfl) hT hlt ?_)
        go_ret
        exact ⟨by rw [HE.out]; rfl, hT.old (by simp), HDR.out⟩
      · have he := empty_no c h0
        have HE : Hid (NM.cmpT (tk a 0) (tk b 0) = -1) := by show _ = _; rw [HI.out, tk_end a p (by omega), tk_step c 0 (by omega)]; rfl
        clear h0
        go_wp2_with (refine wpList_next_end rfl (.tmp 10) rfl (by rfl) hT hlt ?_)
        go_ret
        exact ⟨by rw [HE.out]; rfl, hT.old (by simp), HDR.out⟩
end Go.Proofs.YtbgbpibfmdkndaaDoor
