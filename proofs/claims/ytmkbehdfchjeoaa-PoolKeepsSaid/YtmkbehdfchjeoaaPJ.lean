/- The law's count. -/
import Derived.Test.YtmkbehdfchjeoaaPI
namespace Go.Proofs.Ytmkbehdfchjeoaa
open Go.RowKit Go.ChangeShapes Go.WideShapes Go.ChangeAt
theorem str_no {a b : ByteArray} (h : ¬ a = b) : (a.toList == b.toList) = false := by
  rw [beq_eq_false_iff_ne, ByteArray.toList_eq, ByteArray.toList_eq]
  intro e
  exact h (ByteArray.ext (Array.ext' e))
theorem str_yes {a b : ByteArray} (h : a = b) : (a.toList == b.toList) = true := by rw [h]; exact beq_self_eq_true _
def cnt (L : List ByteArray) (s : ByteArray) : Nat := L.countP fun x => decide (x = s)
theorem cnt_snoc (L : List ByteArray) (x s : ByteArray) : cnt (L ++ [x]) s = cnt L s + if x = s then 1 else 0 := by
  unfold cnt
  rw [List.countP_append]
  by_cases h : x = s <;> simp [List.countP_cons, h]
theorem cnt_le (L : List ByteArray) (s : ByteArray) : cnt L s ≤ L.length := List.countP_le_length
theorem cnt_erase (L : List ByteArray) (k : Nat) (h : k < L.length) (s : ByteArray) : cnt (L.eraseIdx k) s + (if L[k] = s then 1 else 0) = cnt L s := by
  have e : L = L.take k ++ L[k] :: L.drop (k + 1) := by rw [List.getElem_cons_drop, List.take_append_drop]
  have e2 : cnt L s = cnt (L.take k ++ L[k] :: L.drop (k + 1)) s := congrArg (fun l => cnt l s) e
  rw [e2, List.eraseIdx_eq_take_drop_succ]
  unfold cnt
  rw [List.countP_append, List.countP_append, List.countP_cons]
  by_cases hx : L[k] = s <;> simp [hx] <;> omega
theorem count_any (A : Option Addr) (c : Nat) (L : List ByteArray) (s : ByteArray) (w0 w : World) (F : List HP) (hS : Sat w0 w (Row 9 1 A L.length c (strs L) :: F)) (hm : L.length ≤ 140737488351232) :
    Calls Try.prog 32 #[.slice A L.length c, .string s] w fun e w' => e = .returned (.int .i64 (cnt L s)) ∧ w' = w := by
  have key : ∃ g, (L ≠ [] → A = some ⟨g, 0, none⟩) ∧ ∀ k (hk : k < L.length), w.cell? ⟨g, k, none⟩ = some (.string L[k]) := by
    by_cases hL : L = []
    · subst hL; exact ⟨0, fun h => absurd rfl h, fun k hk => by simp at hk⟩
    · obtain ⟨g, e1, hc1, _⟩ := hS.rowCell (by simpa [strs] using hL)
      refine ⟨g, fun _ => e1, fun k hk => ?_⟩
      have d1 := hc1 k (by rw [strs_len]; exact hk)
      rw [strs, List.getElem?_map, List.getElem?_eq_getElem hk, Option.map_some] at d1
      exact d1
  obtain ⟨g, hA, hc⟩ := key
  have HC := Lib.hid hc
  clear hc
  have hA2 : ∃ A', A = A' ∧ (L ≠ [] → A' = some ⟨g, 0, none⟩) := ⟨A, rfl, hA⟩
  clear hA hS
  by_cases hL : L = []
  · subst hL
    clear hA2
    go_enter Try.func32, Try.ntmps32
    go_wp2
    go_loop [5, 6] (fun n i => i = .int .i64 0 ∧ n = .int .i64 0) (fun _ _ => 0)
    case atStart => exact ⟨rfl, rfl⟩
    case round =>
      obtain ⟨rfl, rfl⟩ := hrel
      go_wp2
      go_ret
      exact ⟨rfl, rfl⟩
  · obtain ⟨A', rfl, h⟩ := hA2
    obtain rfl := h hL
    clear h
    go_enter Try.func32, Try.ntmps32
    go_wp2
    go_loop [5, 6] (fun n i => ∃ k : Nat, k ≤ L.length ∧ i = .int .i64 k ∧ n = .int .i64 (cnt (L.take k) s)) (fun _ i => L.length - (intOf i).toNat)
    case atStart => exact ⟨0, Nat.zero_le _, rfl, by simp [cnt]⟩
    case round =>
      obtain ⟨k, hk, rfl, rfl⟩ := hrel
      by_cases hlt : k < L.length
      · have d1 := HC.out k hlt
        have HN : Hid (cnt (L.take (k + 1)) s = cnt (L.take k) s + if L[k] = s then 1 else 0) := by show _ = _; rw [List.take_succ_eq_append_getElem hlt]; exact cnt_snoc _ _ _
        have hle : cnt (L.take k) s ≤ L.length := Nat.le_trans (cnt_le _ _) (List.length_take_le' ..)
        by_cases he : L[k] = s
        · have HN2 : Hid (cnt (L.take (k + 1)) s = cnt (L.take k) s + 1) := by show _ = _; rw [HN.out, if_pos he]
          have ts := str_yes he
          clear he HN
          go_wp2
          go_round
          case rel => exact ⟨k + 1, by omega, by go_num, by rw [HN2.out]; go_num⟩
          case measure => simp [intOf]; omega
        · have HN2 : Hid (cnt (L.take (k + 1)) s = cnt (L.take k) s) := by show _ = _; rw [HN.out, if_neg he]; rfl
          have ts := str_no he
          clear he HN
          go_wp2
          go_round
          case rel => exact ⟨k + 1, by omega, by go_num, by rw [HN2.out]⟩
          case measure => simp [intOf]; omega
      · have HN : Hid (L.take k = L) := List.take_of_length_le (by omega)
        go_wp2
        go_ret
        exact ⟨by rw [HN.out]; rfl, rfl⟩
end Go.Proofs.Ytmkbehdfchjeoaa
