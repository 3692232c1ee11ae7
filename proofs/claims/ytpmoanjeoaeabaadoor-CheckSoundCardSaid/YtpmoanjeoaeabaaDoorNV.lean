/- The runes of a text; Owner: the program's and the document's. -/
import Derived.Test.YtpmoanjeoaeabaaDoorNU
set_option linter.unusedVariables false
set_option linter.unusedSimpArgs false
namespace Go.Proofs.YtpmoanjeoaeabaaDoor
open Go.RowKit Go.ChangeShapes Go.WideShapes Go.ChangeAt
def rv (T : List NM.Tok) : List Value := T.map fun t => .int .i64 t.1
theorem rv_len (T : List NM.Tok) : (rv T).length = T.length := by simp [rv]
theorem rv_one (T : List NM.Tok) : ∀ u ∈ rv T, u.oneCell' = true := by
  intro u hu
  obtain ⟨x, _, rfl⟩ := List.mem_map.1 hu
  rfl
theorem info3 : (Tryd.prog.info? 3).map (fun i => (i.zero, i.size, i.bytes)) = some (some (.int .i64 0), 1, 8) := by kernel_rfl
theorem int_eq {a b : Int} (h : a = b) : Value.int .i64 a = .int .i64 b := by rw [h]
def RunRel (w0 : World) (F : List HP) (s : ByteArray) (l at_ : Value) (wr : World) : Prop :=
  ∃ (p : Nat) (T : List NM.Tok) (A : Option Addr) (c : Nat), p ≤ s.size ∧ T.length ≤ p ∧ at_ = .int .i64 p ∧ T ++ tk s p = tk s 0 ∧ l = .slice A T.length c ∧ Sat w0 wr (Row 3 1 A T.length c (rv T) :: F)
set_option maxRecDepth 100000 in
set_option maxHeartbeats 1600000 in
theorem runes_any (s : ByteArray) (w0 w : World) (F : List HP) (hS : Sat w0 w F) (hs : s.size ≤ 4194304) :
    Calls Tryd.prog 100 #[.string s] w fun e w' => ∃ A c, e = .returned (.slice A (tk s 0).length c) ∧ Sat w0 w' (Row 3 1 A (tk s 0).length c (rv (tk s 0)) :: F) := by
  obtain ⟨i, hi, hz, hsz, hby⟩ := info_parts info3
  have hS0 := hS.nilRow 3 1
  go_enter Tryd.func100, Tryd.ntmps100
  go_wp2_with fail
  go_loopw [3, 4] (RunRel w0 F s) (fun _ a _ => s.size - (intOf a).toNat)
  case atStart => exact ⟨0, [], none, 0, Nat.zero_le _, Nat.le_refl _, rfl, rfl, rfl, hS0⟩
  case round =>
    obtain ⟨p, T, A, c, hp, hTp, rfl, hT, rfl, hU⟩ := hrel
    clear hS0 hS
    by_cases hlt : p < s.size
    · have hI2 := tk_next s p hlt
      obtain ⟨hn1, hn2⟩ := next_n s p hlt
      obtain ⟨⟨r, n, ok⟩, hX⟩ : ∃ X, NM.next s p = X := ⟨_, rfl⟩
      rw [hX] at hI2 hn1 hn2
      simp only at hI2 hn1 hn2
      have HX := Lib.hid hX
      have HT : Hid (T ++ [(r, ((bs s).drop p).take n)] ++ tk s (p + n) = tk s 0) := by show _ = _; rw [← hT, hI2]; simp
      clear hI2 hX hT
      have swn : IntKind.i64.wrap ((p : Int) + (n : Int)) = ((p + n : Nat) : Int) := by rw [IntWalk.i64_in _ (by omega)]; omega
      have h4 : T.length + 1 ≤ maxLen := by unfold maxLen; omega
      have h5 : (T.length + 1) * 8 ≤ 140737488355328 := by omega
      go_wp2_with (first
        | (go_at_call 73; refine (next_at s p r n _ _ hlt (by omega) HX.out).mono ?_; rintro e w1 ⟨rfl, rfl⟩)
        | (at_builtin; refine wpList_app1 rfl (.tmp 19) (.tmp 21) 33 rfl 3 i (.int .i64 0) 1 8 Tryd.underlying33 hi hz hsz hby rfl (by decide) rfl (hU.new #[.int .i64 r] 3) (by rfl) rfl (rv_one [(r, [])]) h4 h5 ?_; intro A' c' w' hU2))
      go_roundw
      case rel => exact ⟨p + n, T ++ [(r, ((bs s).drop p).take n)], A', c', by omega, by simp; omega, by first | rfl | go_num, HT.out, by simp, by simpa [rv] using hU2⟩
      case measure => simp [intOf]; omega
    · have HT : Hid (T = tk s 0) := by show _ = _; rw [← hT, tk_end s p (by omega), List.append_nil]
      clear hT
      go_wp2
      go_ret
      exact ⟨A, c, by rw [← HT.out]; rfl, by rw [← HT.out]; exact hU⟩
def sumT (T : List NM.Tok) : Nat := (T.map (·.1)).sum
def OwnRel (w : World) (s : ByteArray) (n : Value) (wr : World) : Prop :=
  ∃ p k : Nat, p ≤ s.size ∧ k ≤ p * 1114112 ∧ n = .int .i64 k ∧ k + sumT (tk s p) = sumT (tk s 0) ∧ Sat w wr [BlkO w.heap.size (.stringIter s p), Old w]
set_option maxRecDepth 100000 in
set_option maxHeartbeats 1600000 in
theorem owner_any (s : ByteArray) (w : World) (hs : s.size ≤ 4194304) :
    Calls Tryd.prog 93 #[.string s] w fun e w' => e = .returned (.int .i64 (sumT (tk s 0) % 4 : Nat)) ∧ Below w.heap.size w w' := by
  have hS := (Sat.start w).iter s
  go_enter Tryd.func93, Tryd.ntmps93
  go_wp2_with fail
  go_loopw [3] (OwnRel w s) (fun _ wr => s.size - iterPos wr w.heap.size)
  case atStart => exact ⟨0, 0, Nat.zero_le _, Nat.zero_le _, rfl, by simp, hS⟩
  case round =>
    obtain ⟨p, k, hp, hkp, rfl, hI, hT⟩ := hrel
    clear hS
    by_cases hlt : p < s.size
    · have hst := tk_step s p hlt
      obtain ⟨hn1, hn2⟩ := decode_n s p hlt
      have hr := decode_lt s p hlt
      have hpos := Lib.hid hT.iterPos
      obtain ⟨r, hrr⟩ : ∃ r, (Utf8.decode s p).1 = r := ⟨_, rfl⟩
      obtain ⟨n, hnn⟩ : ∃ n, (Utf8.decode s p).2 = n := ⟨_, rfl⟩
      have HR := Lib.hid hrr
      have HN := Lib.hid hnn
      rw [hrr, hnn] at hst
      rw [hrr] at hr
      rw [hnn] at hn1 hn2
      have HI : Hid (k + r + sumT (tk s (p + n)) = sumT (tk s 0)) := by show _ = _; rw [← hI, hst]; simp [sumT]; omega
      have swn : IntKind.i64.wrap ((k : Int) + (r : Int)) = ((k + r : Nat) : Int) := by rw [IntWalk.i64_in _ (by omega)]; omega
      have swr : IntKind.i64.wrap (r : Int) = (r : Int) := IntWalk.i64_in _ (by omega)
      clear hst hrr hnn hI
      go_wp2_with (refine wpList_next rfl (.tmp 7) rfl (by rfl) hT hlt ?_; intro w2 hT2; rw [HR.out]; rw [HN.out] at hT2)
      refine ⟨⟨p + n, k + r, by omega, by omega, by first | rfl | go_num, HI.out, hT2⟩, ?_⟩
      rw [hT2.iterPos, hpos.out]; omega
    · have HI : Hid (k = sumT (tk s 0)) := by show _ = _; rw [← hI, tk_end s p (by omega)]; simp [sumT]
      clear hI
      go_wp2_with (refine wpList_next_end rfl (.tmp 7) rfl (by rfl) hT hlt ?_)
      go_ret
      exact ⟨by rw [← HI.out]; first | rfl | exact congrArg Ending.returned (int_eq (by omega)), hT.old (by simp)⟩
theorem rv_get (T : List NM.Tok) (k : Nat) (h : k < T.length) : (rv T)[k]? = some (.int .i64 (T[k]).1) := by
  rw [rv, List.getElem?_map, List.getElem?_eq_getElem h]; rfl
theorem sumT_take (T : List NM.Tok) (k : Nat) (h : k < T.length) : sumT (T.take (k + 1)) = sumT (T.take k) + (T[k]).1 := by
  unfold sumT
  rw [List.take_succ_eq_append_getElem h, List.map_append, List.sum_append]
  rfl
theorem tok_lt (s : ByteArray) : ∀ n p, s.size - p ≤ n → ∀ t ∈ tk s p, t.1 < 1114112 := by
  intro n
  induction n with
  | zero => intro p h; rw [tk_end s p (by omega)]; intro t ht; cases ht
  | succ n ih =>
    intro p h
    by_cases hlt : p < s.size
    · rw [tk_step s p hlt]
      intro t ht
      cases ht with
      | head => exact decode_lt s p hlt
      | tail _ ht => exact ih _ (by have := (decode_n s p hlt).1; omega) t ht
    · rw [tk_end s p (by omega)]; intro t ht; cases ht
set_option maxRecDepth 100000 in
set_option maxHeartbeats 1600000 in
theorem rowner_any (s : ByteArray) (w : World) (hs : s.size ≤ 4194304) :
    Calls Tryd.prog 96 #[.string s] w fun e w' => e = .returned (.int .i64 (sumT (tk s 0) % 4 : Nat)) ∧ Below w.heap.size w w' := by
  have hlt4 := tok_lt s s.size 0 (by omega)
  have hlen : (tk s 0).length ≤ s.size := by
    have : ∀ n p, s.size - p ≤ n → (tk s p).length ≤ s.size - p := by
      intro n
      induction n with
      | zero => intro p h; rw [tk_end s p (by omega)]; simp
      | succ n ih =>
        intro p h
        by_cases hl : p < s.size
        · rw [tk_step s p hl, List.length_cons]
          have h1 := decode_n s p hl
          have := ih (p + (Utf8.decode s p).2) (by omega)
          omega
        · rw [tk_end s p (by omega)]; simp
    exact this s.size 0 (by omega)
  have HL4 := Lib.hid hlt4
  clear hlt4
  go_enter Tryd.func96, Tryd.ntmps96
  go_wp2_with fail
  refine (runes_any s w _ _ (Sat.start w) hs).mono ?_
  rintro e w1 ⟨A, c, rfl, hU⟩
  obtain ⟨T, hT⟩ : ∃ T, tk s 0 = T := ⟨_, rfl⟩
  rw [hT] at hU hlen ⊢
  have HT := Lib.hid hT
  clear hT
  go_wp2_with fail
  go_loop [4, 5] (fun n i => ∃ k : Nat, k ≤ T.length ∧ i = .int .i64 k ∧ n = .int .i64 (sumT (T.take k) % 4 : Nat)) (fun _ i => T.length - (intOf i).toNat)
  case atStart => exact ⟨0, Nat.zero_le _, rfl, rfl⟩
  case round =>
    obtain ⟨k, hk, rfl, rfl⟩ := hrel
    by_cases hlt : k < T.length
    · obtain ⟨b, rfl, hc, _⟩ := hU.rowCell (by intro e; have := congrArg List.length e; rw [rv_len, List.length_nil] at this; omega)
      have d := hc k (by rw [rv_len]; exact hlt)
      rw [rv_get T k hlt] at d
      have hr : (T[k]).1 < 1114112 := HL4.out _ (by rw [HT.out]; exact List.getElem_mem _)
      have HS : Hid (sumT (T.take (k + 1)) = sumT (T.take k) + (T[k]).1) := sumT_take T k hlt
      obtain ⟨r, hrr⟩ : ∃ r, (T[k]).1 = r := ⟨_, rfl⟩
      obtain ⟨q, hq⟩ : ∃ q, sumT (T.take k) % 4 = q := ⟨_, rfl⟩
      have HS2 : Hid (sumT (T.take (k + 1)) % 4 = (q + r) % 4) := by show _ = _; rw [HS.out, hrr, ← hq]; omega
      have hq4 : q < 4 := by omega
      rw [hrr] at d hr
      rw [hq]
      have swn : IntKind.i64.wrap ((q : Int) + (r : Int)) = ((q + r : Nat) : Int) := by rw [IntWalk.i64_in _ (by omega)]; omega
      clear hc hrr hq HS
      go_wp2
      go_round
      case rel => exact ⟨k + 1, by omega, by go_num, by rw [HS2.out]; refine int_eq ?_; simp⟩
      case measure => simp [intOf]; omega
    · have HE : Hid (T.take k = T) := List.take_of_length_le (by omega)
      go_wp2
      go_ret
      exact ⟨by rw [HT.out]; rw [HE.out]; rfl, hU.old (by simp)⟩
end Go.Proofs.YtpmoanjeoaeabaaDoor
