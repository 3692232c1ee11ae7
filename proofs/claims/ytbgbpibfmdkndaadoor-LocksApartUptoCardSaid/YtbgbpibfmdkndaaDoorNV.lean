/- The runes of a text; Owner: the program's and the document's. -/
import Derived.Test.YtbgbpibfmdkndaaDoorNU
set_option linter.unusedVariables false
set_option linter.unusedSimpArgs false
namespace Go.Proofs.YtbgbpibfmdkndaaDoor
open Go.RowKit Go.ChangeShapes Go.WideShapes Go.ChangeAt
def rv (T : List NM.Tok) : List Value := T.map fun t => .int .i64 t.1
theorem rv_len (T : List NM.Tok) : (rv T).length = T.length := by simp [rv]
theorem rv_one (T : List NM.Tok) : ∀ u ∈ rv T, u.oneCell' = true := by
  intro u hu
  obtain ⟨x, _, rfl⟩ := List.mem_map.1 hu
  rfl
theorem info3 : (Tryd.prog.info? 3).map (fun i => (i.zero, i.size, i.bytes)) = some (some (.int .i64 0), 1, 8) := by kernel_rfl
theorem int_eq {a b : Int} (h : a = b) : Value.int .i64 a = .int .i64 b := by rw [h]
def RunRel (w0 : World) (F : List HP) (s : ByteArray) (l at_ : Value) (wr : World) : Prop :=
  ∃ (p : Nat) (T : List NM.Tok) (A : Option Addr) (c : Nat), p ≤ s.size ∧ T.length ≤ p ∧ at_ = .int .i64 p ∧ T ++ tk s p = tk s 0 ∧ l = .slice A T.length c ∧ Sat w0 wr (Row 3 1 A T.length c (rv T) :: F)
set_option maxRecDepth 100000 in
set_option maxHeartbeats 1600000 in
theorem runes_any (s : ByteArray) (w0 w : World) (F : List HP) (hS : Sat w0 w F) (hs : s.size ≤ 4194304) :
    Calls Tryd.prog 38 #[.string s] w fun e w' => ∃ A c, e = .returned (.slice A (tk s 0).length c) ∧ Sat w0 w' (Row 3 1 A (tk s 0).length c (rv (tk s 0)) :: F) := by
  obtain ⟨i, hi, hz, hsz, hby⟩ := info_parts info3
  have hS0 := hS.nilRow 3 1
  go_enter Tryd.func38, Tryd.ntmps38
  go_wp2_with fail
  go_loopw [3, 4] (RunRel w0 F s) (fun _ a _ => s.size - (intOf a).toNat)
  case atStart => exact ⟨0, [], none, 0, Nat.zero_le _, Nat.le_refl _, rfl, rfl, rfl, hS0⟩
  case round =>
    obtain ⟨p, T, A, c, hp, hTp, rfl, hT, rfl, hU⟩ := hrel
    clear hS0 hS
    by_cases hlt : p < s.size
    · have hI2 := tk_next s p hlt
      obtain ⟨hn1, hn2⟩ := next_n s p hlt
      obtain ⟨⟨r, n, ok⟩, hX⟩ : ∃ X, NM.next s p = X := ⟨_, rfl⟩
      rw [hX] at hI2 hn1 hn2
      simp only at hI2 hn1 hn2
      have HX := Lib.hid hX
      have HT : Hid (T ++ [(r, ((bs s).drop p).take n)] ++ tk s (p + n) = tk s 0) := by show _ = _; rw [← hT, hI2]; simp
      clear hI2 hX hT
      have swn : IntKind.i64.wrap ((p : Int) + (n : Int)) = ((p + n : Nat) : Int) := by rw [IntWalk.i64_in _ (by omega)]; omega
      have h4 : T.length + 1 ≤ maxLen := by unfold maxLen; omega
      have h5 : (T.length + 1) * 8 ≤ 140737488355328 := by omega
      go_wp2_with (first
        | (go_at_call 36; refine (next_at s p r n _ _ hlt (by omega) HX.out).mono ?_; rintro e w1 ⟨rfl, rfl⟩)
        | (at_builtin; refine wpList_app1 rfl (.tmp 19) (.tmp 21) 64 rfl 3 i (.int .i64 0) 1 8 Tryd.underlying64 hi hz hsz hby rfl (by decide) rfl (hU.new #[.int .i64 r] 3) (by rfl) rfl (rv_one [(r, [])]) h4 h5 ?_; intro A' c' w' hU2))
      go_roundw
      case rel => exact ⟨p + n, T ++ [(r, ((bs s).drop p).take n)], A', c', by omega, by simp; omega, by first | rfl | go_num, HT.out, by simp, by simpa [rv] using hU2⟩
      case measure => simp [intOf]; omega
    · have HT : Hid (T = tk s 0) := by show _ = _; rw [← hT, tk_end s p (by omega), List.append_nil]
      clear hT
      go_wp2
      go_ret
      exact ⟨A, c, by rw [← HT.out]; rfl, by rw [← HT.out]; exact hU⟩
def sumT (T : List NM.Tok) : Nat := (T.map (·.1)).sum
theorem rv_get (T : List NM.Tok) (k : Nat) (h : k < T.length) : (rv T)[k]? = some (.int .i64 (T[k]).1) := by
  rw [rv, List.getElem?_map, List.getElem?_eq_getElem h]; rfl
theorem sumT_take (T : List NM.Tok) (k : Nat) (h : k < T.length) : sumT (T.take (k + 1)) = sumT (T.take k) + (T[k]).1 := by
  unfold sumT
  rw [List.take_succ_eq_append_getElem h, List.map_append, List.sum_append]
  rfl
theorem tok_lt (s : ByteArray) : ∀ n p, s.size - p ≤ n → ∀ t ∈ tk s p, t.1 < 1114112 := by
  intro n
  induction n with
  | zero => intro p h; rw [tk_end s p (by omega)]; intro t ht; cases ht
  | succ n ih =>
    intro p h
    by_cases hlt : p < s.size
    · rw [tk_step s p hlt]
      intro t ht
      cases ht with
      | head => exact decode_lt s p hlt
      | tail _ ht => exact ih _ (by have := (decode_n s p hlt).1; omega) t ht
    · rw [tk_end s p (by omega)]; intro t ht; cases ht
end Go.Proofs.YtbgbpibfmdkndaaDoor
