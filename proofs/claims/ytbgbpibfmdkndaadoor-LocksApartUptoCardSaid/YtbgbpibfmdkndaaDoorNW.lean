/- Compare: the program's and the document's. -/
import Derived.Test.YtbgbpibfmdkndaaDoorNV
import Derived.Test.YtbgbpibfmdkndaaDoorShelf
set_option linter.unusedVariables false
set_option linter.unusedSimpArgs false
namespace Go.Proofs.YtbgbpibfmdkndaaDoor
open Go.RowKit Go.ChangeShapes Go.WideShapes Go.ChangeAt
theorem bs_extract (s : ByteArray) (a b : Nat) : bs (s.extract a b) = ((bs s).drop a).take (b - a) := by
  unfold bs
  rw [ByteArray.data_extract, Array.toList_extract, List.extract_eq_take_drop, List.map_take, List.map_drop]
theorem tk_extract (s : ByteArray) (n : Nat) : tk (s.extract n s.size) 0 = tk s n := by
  unfold tk
  rw [bs_extract, List.drop_zero, List.take_of_length_le (by rw [List.length_drop, bs_len]; omega)]
theorem empty_yes (s : ByteArray) (h : s.size = 0) : s.toList.isEmpty = true := by
  rw [ByteArray.toList_eq]
  have : s.data.toList = [] := List.eq_nil_of_length_eq_zero (by simpa using h)
  rw [this]; rfl
theorem empty_no (s : ByteArray) (h : s.size ≠ 0) : s.toList.isEmpty = false := by
  rw [ByteArray.toList_eq]
  cases hd : s.data.toList with
  | nil => have := congrArg List.length hd; simp at this; exact absurd this (by simpa using h)
  | cons _ _ => rfl
theorem tabs_keep {w w' : World} (hT : Lib.Utf8Tabs 0 1 w) (hb : Below w.heap.size w w') : Lib.Utf8Tabs 0 1 w' :=
  ⟨fun c hc => old_cell hb (hT.1 c hc), fun i hi => ⟨old_cell hb (hT.2 i hi).1, old_cell hb (hT.2 i hi).2⟩⟩
theorem ret_int {a b : Int} (h : a = b) : Ending.returned (.int .i64 a) = .returned (.int .i64 b) := by rw [h]
def CmpRel (w : World) (a b : ByteArray) (v : Value) (wr : World) : Prop :=
  ∃ (p : Nat) (c : ByteArray), p ≤ a.size ∧ c.size ≤ 140737488351232 ∧ v = .string c ∧ NM.cmpT (tk a 0) (tk b 0) = NM.cmpT (tk a p) (tk c 0) ∧ Sat w wr [BlkO w.heap.size (.stringIter a p), Old w]
set_option maxRecDepth 100000 in
set_option maxHeartbeats 1600000 in
theorem compare_any (a b : ByteArray) (w : World) (hT : Lib.Utf8Tabs 0 1 w) (ha : a.size ≤ 140737488351232) (hb : b.size ≤ 140737488351232) :
    Calls Tryd.prog 32 #[.string a, .string b] w fun e w' => e = .returned (.int .i64 (NM.cmpT (tk a 0) (tk b 0))) ∧ Below w.heap.size w w' := by
  have hS := (Sat.start w).iter a
  have HT := Lib.hid hT
  clear hT
  go_enter Tryd.func32, Tryd.ntmps32
  go_wp2_with fail
  go_loopw [1] (CmpRel w a b) (fun _ wr => a.size - iterPos wr w.heap.size)
  case atStart => exact ⟨0, b, Nat.zero_le _, hb, rfl, rfl, hS⟩
  case round =>
    obtain ⟨p, c, hp, hc, rfl, hI, hT⟩ := hrel
    clear hS
    have HI := Lib.hid hI
    clear hI
    by_cases hlt : p < a.size
    · have hst := tk_step a p hlt
      obtain ⟨hn1, hn2⟩ := decode_n a p hlt
      have hr := decode_lt a p hlt
      have hpos := Lib.hid hT.iterPos
      obtain ⟨r, hrr⟩ : ∃ r, (Utf8.decode a p).1 = r := ⟨_, rfl⟩
      obtain ⟨n, hnn⟩ : ∃ n, (Utf8.decode a p).2 = n := ⟨_, rfl⟩
      have HR := Lib.hid hrr
      have HN := Lib.hid hnn
      rw [hrr, hnn] at hst
      rw [hrr] at hr
      rw [hnn] at hn1 hn2
      have HST := Lib.hid hst
      clear hst hrr hnn
      by_cases h0 : c.size = 0
      · have he := empty_yes c h0
        have HE : Hid (NM.cmpT (tk a 0) (tk b 0) = 1) := by show _ = _; rw [HI.out, HST.out, tk_end c 0 (by omega)]; rfl
        clear h0
        go_wp2_with (refine wpList_next rfl (.tmp 10) rfl (by rfl) hT hlt ?_; intro w2 hT2; rw [HR.out]; rw [HN.out] at hT2)
        go_ret
        exact ⟨by rw [HE.out]; rfl, hT2.old (by simp)⟩
      · have he := empty_no c h0
        have hclt : 0 < c.size := by omega
        have hstc := tk_step c 0 hclt
        have hdc := decode_n c 0 hclt
        have hyl := decode_lt c 0 hclt
        have hgo : Lib.decodeGo c = Utf8.decode c 0 := by unfold Lib.decodeGo; rw [if_neg h0]
        obtain ⟨y, hyy⟩ : ∃ r, (Utf8.decode c 0).1 = r := ⟨_, rfl⟩
        obtain ⟨m, hmm⟩ : ∃ n, (Utf8.decode c 0).2 = n := ⟨_, rfl⟩
        rw [hyy, hmm, Nat.zero_add] at hstc
        rw [hyy] at hyl
        rw [hmm] at hdc
        have HD : Hid ((Lib.decodeGo c).1 = y ∧ (Lib.decodeGo c).2 = m) := by show _ ∧ _; rw [hgo]; exact ⟨hyy, hmm⟩
        have HC : Hid (NM.cmpT (tk a 0) (tk b 0) = if r < y then -1 else if y < r then 1 else NM.cmpT (tk a (p + n)) (tk (c.extract m c.size) 0)) := by
          show _ = _; rw [HI.out, HST.out, hstc, NM.cmpT, tk_extract]
        have hmc : m ≤ c.size := by omega
        have hcs : (c.extract m c.size).size ≤ 140737488351232 := by simp; omega
        have hcs2 := Lib.hid hcs
        clear hstc hgo hyy hmm h0 hdc hcs
        by_cases h1 : r < y
        · have HC2 : Hid (NM.cmpT (tk a 0) (tk b 0) = -1) := by show _ = _; rw [HC.out, if_pos h1]
          have t1 : decide ((r : Int) < (y : Int)) = true := decide_eq_true (by omega)
          go_wp2_with (first
            | (refine wpList_next rfl (.tmp 10) rfl (by rfl) hT hlt ?_; intro w2 hT2; rw [HR.out]; rw [HN.out] at hT2)
            | (go_at_call 41; refine (Tryd.utf8_DecodeRuneInString c _ (tabs_keep HT.out (hT2.old (by simp)))).mono ?_; rintro e w3 ⟨rfl, hb3⟩; rw [HD.out.1, HD.out.2]; have hT3 := hT2.below hb3; clear hb3))
          go_ret
          exact ⟨by rw [HC2.out]; rfl, hT3.old (by simp)⟩
        · by_cases h2 : y < r
          · have HC2 : Hid (NM.cmpT (tk a 0) (tk b 0) = 1) := by show _ = _; rw [HC.out, if_neg h1, if_pos h2]
            go_wp2_with (first
              | (refine wpList_next rfl (.tmp 10) rfl (by rfl) hT hlt ?_; intro w2 hT2; rw [HR.out]; rw [HN.out] at hT2)
              | (go_at_call 41; refine (Tryd.utf8_DecodeRuneInString c _ (tabs_keep HT.out (hT2.old (by simp)))).mono ?_; rintro e w3 ⟨rfl, hb3⟩; rw [HD.out.1, HD.out.2]; have hT3 := hT2.below hb3; clear hb3))
            go_ret
            exact ⟨by rw [HC2.out]; rfl, hT3.old (by simp)⟩
          · have HC2 : Hid (NM.cmpT (tk a 0) (tk b 0) = NM.cmpT (tk a (p + n)) (tk (c.extract m c.size) 0)) := by show _ = _; rw [HC.out, if_neg h1, if_neg h2]
            go_wp2_with (first
              | (refine wpList_next rfl (.tmp 10) rfl (by rfl) hT hlt ?_; intro w2 hT2; rw [HR.out]; rw [HN.out] at hT2)
              | (go_at_call 41; refine (Tryd.utf8_DecodeRuneInString c _ (tabs_keep HT.out (hT2.old (by simp)))).mono ?_; rintro e w3 ⟨rfl, hb3⟩; rw [HD.out.1, HD.out.2]; have hT3 := hT2.below hb3; clear hb3))
            refine ⟨⟨p + n, c.extract m c.size, by omega, hcs2.out, rfl, HC2.out, hT3⟩, ?_⟩
            rw [hT3.iterPos, hpos.out]; omega
    · by_cases h0 : c.size = 0
      · have he := empty_yes c h0
        have HE : Hid (NM.cmpT (tk a 0) (tk b 0) = 0) := by show _ = _; rw [HI.out, tk_end a p (by omega), tk_end c 0 (by omega)]; rfl
        clear h0
        go_wp2_with (refine wpList_next_end rfl (.tmp 10) rfl (by rfl) hT hlt ?_)
        go_ret
        exact ⟨by rw [HE.out]; rfl, hT.old (by simp)⟩
      · have he := empty_no c h0
        have HE : Hid (NM.cmpT (tk a 0) (tk b 0) = -1) := by show _ = _; rw [HI.out, tk_end a p (by omega), tk_step c 0 (by omega)]; rfl
        clear h0
        go_wp2_with (refine wpList_next_end rfl (.tmp 10) rfl (by rfl) hT hlt ?_)
        go_ret
        exact ⟨by rw [HE.out]; rfl, hT.old (by simp)⟩
end Go.Proofs.YtbgbpibfmdkndaaDoor
