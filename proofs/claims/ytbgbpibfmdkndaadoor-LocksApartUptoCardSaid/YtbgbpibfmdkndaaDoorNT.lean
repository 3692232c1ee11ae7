/- Is: the program's and the document's. -/
import Derived.Test.YtbgbpibfmdkndaaDoorNS
set_option linter.unusedVariables false
set_option linter.unusedSimpArgs false
namespace Go.Proofs.YtbgbpibfmdkndaaDoor
open Go.RowKit Go.ChangeShapes Go.WideShapes Go.ChangeAt
theorem isT_step (s : ByteArray) (p n : Nat) (h : p < s.size) : NM.isT n (tk s p) = (NM.okT n (Utf8.decode s p).1 && NM.isT (n + 1) (tk s (p + (Utf8.decode s p).2))) := by rw [tk_step s p h]; rfl
def IsRel (w : World) (s : ByteArray) (n : Value) (wr : World) : Prop :=
  ∃ p k : Nat, p ≤ s.size ∧ k ≤ p ∧ n = .int .i64 k ∧ NM.isT 0 (tk s 0) = NM.isT k (tk s p) ∧ Sat w wr [BlkO w.heap.size (.stringIter s p), Old w]
/-- the cases of a token -/
theorem okT_cases (n r : Nat) : (letterB r = true ∧ NM.okT n r = true) ∨ (letterB r = false ∧ n = 0 ∧ NM.okT n r = false) ∨ (letterB r = false ∧ 0 < n ∧ r = 45 ∧ NM.okT n r = true) ∨
    (letterB r = false ∧ 0 < n ∧ r ≠ 45 ∧ r < 48 ∧ NM.okT n r = false) ∨ (letterB r = false ∧ 0 < n ∧ r ≠ 45 ∧ 48 ≤ r ∧ 57 < r ∧ NM.okT n r = false) ∨ (letterB r = false ∧ 0 < n ∧ r ≠ 45 ∧ 48 ≤ r ∧ r ≤ 57 ∧ NM.okT n r = true) := by
  have e : NM.letterP r = letterB r := rfl
  unfold NM.okT
  rw [e]
  cases letterB r with
  | true => left; exact ⟨rfl, rfl⟩
  | false =>
    right
    simp only [true_and, Bool.false_or]
    by_cases h0 : n = 0
    · left; subst h0; simp
    · have : 0 < n := by omega
      right
      by_cases h1 : r = 45
      · left; subst h1; simp [this]
      · right
        by_cases h2 : r < 48
        · left; refine ⟨this, h1, h2, ?_⟩; simp [h1]; omega
        · right
          by_cases h3 : 57 < r
          · left; refine ⟨this, h1, by omega, h3, ?_⟩; simp [h1]; omega
          · right; refine ⟨this, h1, by omega, by omega, ?_⟩; simp [this]; omega
set_option maxRecDepth 100000 in
set_option maxHeartbeats 1600000 in
theorem is_any (s : ByteArray) (w : World) (hs : s.size ≤ 140737488351232) :
    Calls Tryd.prog 28 #[.string s] w fun e w' => e = .returned (.bool (NM.isT 0 (tk s 0))) ∧ Below w.heap.size w w' := by
  have hS := (Sat.start w).iter s
  go_enter Tryd.func28, Tryd.ntmps28
  go_wp2_with fail
  go_loopw [3] (IsRel w s) (fun _ wr => s.size - iterPos wr w.heap.size)
  case atStart => exact ⟨0, 0, Nat.zero_le _, Nat.le_refl _, rfl, rfl, hS⟩
  case round =>
    obtain ⟨p, k, hp, hkp, rfl, hI, hT⟩ := hrel
    clear hS
    by_cases hlt : p < s.size
    · have hI2 := Lib.hid (hI.trans (isT_step s p k hlt))
      obtain ⟨hn1, hn2⟩ := decode_n s p hlt
      have hr := decode_lt s p hlt
      have hpos := Lib.hid hT.iterPos
      obtain ⟨r, hrr⟩ : ∃ r, (Utf8.decode s p).1 = r := ⟨_, rfl⟩
      obtain ⟨n, hnn⟩ : ∃ n, (Utf8.decode s p).2 = n := ⟨_, rfl⟩
      have HR := Lib.hid hrr
      have HN := Lib.hid hnn
      rw [hrr] at hr
      rw [hnn] at hn1 hn2
      have hI3 : Hid (NM.isT 0 (tk s 0) = (NM.okT k r && NM.isT (k + 1) (tk s (p + n)))) := by show _ = _; rw [hI2.out, hrr, hnn]
      clear hI hI2 hrr hnn
      rcases okT_cases k r with ⟨hl, ho⟩ | ⟨hl, h0, ho⟩ | ⟨hl, h0, h1, ho⟩ | ⟨hl, h0, h1, h2, ho⟩ | ⟨hl, h0, h1, h2, h3, ho⟩ | ⟨hl, h0, h1, h2, h3, ho⟩
      · have HO := Lib.hid ho
        clear ho
        go_wp2_with (first
          | (refine wpList_next rfl (.tmp 7) rfl (by rfl) hT hlt ?_; intro w2 hT2; rw [HR.out]; rw [HN.out] at hT2)
          | (go_at_call 35; refine (letter_any r _ hr).mono ?_; rintro e w3 ⟨rfl, rfl⟩; rw [hl]))
        refine ⟨⟨p + n, k + 1, by omega, by omega, by go_num, hI3.out.trans (by rw [HO.out]; simp), hT2⟩, ?_⟩
        rw [hT2.iterPos, hpos.out]; omega
      · have HO := Lib.hid ho
        clear ho
        have t0 : ((k : Int) == 0) = true := by simp [h0]
        clear h0
        go_wp2_with (first
          | (refine wpList_next rfl (.tmp 7) rfl (by rfl) hT hlt ?_; intro w2 hT2; rw [HR.out]; rw [HN.out] at hT2)
          | (go_at_call 35; refine (letter_any r _ hr).mono ?_; rintro e w3 ⟨rfl, rfl⟩; rw [hl]))
        go_ret
        exact ⟨by rw [hI3.out, HO.out]; rfl, hT2.old (by simp)⟩
      · have HO := Lib.hid ho
        clear ho
        have t0 : ((k : Int) == 0) = false := by rw [beq_eq_false_iff_ne]; omega
        have t1 : ((r : Int) != 45) = false := by simp [h1]
        clear h0 h1
        go_wp2_with (first
          | (refine wpList_next rfl (.tmp 7) rfl (by rfl) hT hlt ?_; intro w2 hT2; rw [HR.out]; rw [HN.out] at hT2)
          | (go_at_call 35; refine (letter_any r _ hr).mono ?_; rintro e w3 ⟨rfl, rfl⟩; rw [hl]))
        refine ⟨⟨p + n, k + 1, by omega, by omega, by go_num, hI3.out.trans (by rw [HO.out]; simp), hT2⟩, ?_⟩
        rw [hT2.iterPos, hpos.out]; omega
      · have HO := Lib.hid ho
        clear ho
        have t0 : ((k : Int) == 0) = false := by rw [beq_eq_false_iff_ne]; omega
        have t1 : ((r : Int) != 45) = true := by rw [bne_iff_ne]; omega
        have t2 : decide ((r : Int) < 48) = true := decide_eq_true (by omega)
        clear h0 h1 h2
        go_wp2_with (first
          | (refine wpList_next rfl (.tmp 7) rfl (by rfl) hT hlt ?_; intro w2 hT2; rw [HR.out]; rw [HN.out] at hT2)
          | (go_at_call 35; refine (letter_any r _ hr).mono ?_; rintro e w3 ⟨rfl, rfl⟩; rw [hl]))
        go_ret
        exact ⟨by rw [hI3.out, HO.out]; rfl, hT2.old (by simp)⟩
      · have HO := Lib.hid ho
        clear ho
        have t0 : ((k : Int) == 0) = false := by rw [beq_eq_false_iff_ne]; omega
        have t1 : ((r : Int) != 45) = true := by rw [bne_iff_ne]; omega
        have t2 : decide ((r : Int) < 48) = false := decide_eq_false (by omega)
        have t3 : decide ((57 : Int) < (r : Int)) = true := decide_eq_true (by omega)
        clear h0 h1 h2 h3
        go_wp2_with (first
          | (refine wpList_next rfl (.tmp 7) rfl (by rfl) hT hlt ?_; intro w2 hT2; rw [HR.out]; rw [HN.out] at hT2)
          | (go_at_call 35; refine (letter_any r _ hr).mono ?_; rintro e w3 ⟨rfl, rfl⟩; rw [hl]))
        go_ret
        exact ⟨by rw [hI3.out, HO.out]; rfl, hT2.old (by simp)⟩
      · have HO := Lib.hid ho
        clear ho
        have t0 : ((k : Int) == 0) = false := by rw [beq_eq_false_iff_ne]; omega
        have t1 : ((r : Int) != 45) = true := by rw [bne_iff_ne]; omega
        have t2 : decide ((r : Int) < 48) = false := decide_eq_false (by omega)
        have t3 : decide ((57 : Int) < (r : Int)) = false := decide_eq_false (by omega)
        clear h0 h1 h2 h3
        go_wp2_with (first
          | (refine wpList_next rfl (.tmp 7) rfl (by rfl) hT hlt ?_; intro w2 hT2; rw [HR.out]; rw [HN.out] at hT2)
          | (go_at_call 35; refine (letter_any r _ hr).mono ?_; rintro e w3 ⟨rfl, rfl⟩; rw [hl]))
        refine ⟨⟨p + n, k + 1, by omega, by omega, by go_num, hI3.out.trans (by rw [HO.out]; simp), hT2⟩, ?_⟩
        rw [hT2.iterPos, hpos.out]; omega
    · have HE : Hid (NM.isT k (tk s p) = decide (1 ≤ k ∧ k ≤ 8)) := by show _ = _; rw [tk_end s p (by omega)]; rfl
      have HI := Lib.hid hI
      clear hI
      have key : (k = 0 ∧ decide (1 ≤ k ∧ k ≤ 8) = false) ∨ (0 < k ∧ k ≤ 8 ∧ decide (1 ≤ k ∧ k ≤ 8) = true) ∨ (0 < k ∧ 8 < k ∧ decide (1 ≤ k ∧ k ≤ 8) = false) := by
        by_cases h0 : k = 0
        · left; subst h0; exact ⟨rfl, by decide⟩
        · right
          by_cases h8 : k ≤ 8
          · left; exact ⟨by omega, h8, by apply decide_eq_true; omega⟩
          · right; exact ⟨by omega, by omega, by apply decide_eq_false; omega⟩
      rcases key with ⟨h0, hd⟩ | ⟨h0, h8, hd⟩ | ⟨h0, h8, hd⟩
      · subst h0
        have HD := Lib.hid hd
        clear hd
        go_wp2_with (refine wpList_next_end rfl (.tmp 7) rfl (by rfl) hT hlt ?_)
        go_ret
        exact ⟨by rw [HI.out, HE.out, HD.out]; rfl, hT.old (by simp)⟩
      · have HD := Lib.hid hd
        have t0 : decide (0 < k) = true := decide_eq_true (by omega)
        have t1 : decide ((k : Int) ≤ 8) = true := decide_eq_true (by omega)
        clear hd h0 h8
        go_wp2_with (refine wpList_next_end rfl (.tmp 7) rfl (by rfl) hT hlt ?_)
        go_ret
        exact ⟨by rw [HI.out, HE.out, HD.out]; rfl, hT.old (by simp)⟩
      · have HD := Lib.hid hd
        have t0 : decide (0 < k) = true := decide_eq_true (by omega)
        have t1 : decide ((k : Int) ≤ 8) = false := decide_eq_false (by omega)
        clear hd h0 h8
        go_wp2_with (refine wpList_next_end rfl (.tmp 7) rfl (by rfl) hT hlt ?_)
        go_ret
        exact ⟨by rw [HI.out, HE.out, HD.out]; rfl, hT.old (by simp)⟩
end Go.Proofs.YtbgbpibfmdkndaaDoor
