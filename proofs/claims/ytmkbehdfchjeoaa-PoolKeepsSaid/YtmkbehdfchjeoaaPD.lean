/- The document's Take; pick, same, count, live of the laws of package pool. -/
import Derived.Test.YtmkbehdfchjeoaaPB
import Derived.Test.YtmkbehdfchjeoaaPC
namespace Go.Proofs.Ytmkbehdfchjeoaa
open Go.RowKit Go.ChangeShapes Go.WideShapes Go.ChangeAt
def IntIn (lo hi : Int) (w : World) (e : Ending) (w' : World) : Prop := ∃ n : Int, lo ≤ n ∧ n < hi ∧ e = .returned (.int .i64 n) ∧ w' = w
theorem pick_any (c n : Int) (w : World) (h1 : -9223372036854775808 ≤ c) (h2 : c ≤ 9223372036854775807) (h3 : 0 < n) (h4 : n ≤ 1000000) : Calls Try.prog 10 #[.int .i64 c, .int .i64 n] w (IntIn 0 n w) := by
  have hn : (n == 0) = false := by rw [beq_eq_false_iff_ne]; omega
  by_cases h : c < 0
  · go_enter Try.func10, Try.ntmps10
    go_wp2
    go_ret
    refine ⟨_, ?_, ?_, rfl, rfl⟩
    · rw [← Int.neg_tmod]; exact Int.tmod_nonneg _ (by omega)
    · rw [← Int.neg_tmod]; exact Int.tmod_lt_of_pos _ h3
  · go_enter Try.func10, Try.ntmps10
    go_wp2
    go_ret
    refine ⟨_, ?_, ?_, rfl, rfl⟩
    · exact Int.emod_nonneg _ (by omega)
    · exact Int.emod_lt_of_pos _ h3
theorem same_yes (A B : Option Addr) (ca cb : Nat) (L : List ByteArray) (w0 w : World) (F : List HP) (hS : Sat w0 w (Row 9 1 A L.length ca (strs L) :: Row 9 1 B L.length cb (strs L) :: F)) (hm : L.length ≤ 1000000) :
    Calls Try.prog 28 #[.slice A L.length ca, .slice B L.length cb] w fun e w' => e = .returned (.bool true) ∧ ∃ m, w' = w.drewN m := by
  have key : ∃ g b, (L ≠ [] → A = some ⟨g, 0, none⟩ ∧ B = some ⟨b, 0, none⟩) ∧ ∀ k (hk : k < L.length), w.cell? ⟨g, k, none⟩ = some (.string L[k]) ∧ w.cell? ⟨b, k, none⟩ = some (.string L[k]) := by
    by_cases hL : L = []
    · subst hL; exact ⟨0, 0, fun h => absurd rfl h, fun k hk => by simp at hk⟩
    · have hne : strs L ≠ [] := by simpa [strs] using hL
      obtain ⟨g, e1, hc1, _⟩ := hS.rowCell hne
      obtain ⟨b, e2, hc2, _⟩ := hS.r2.rowCell hne
      refine ⟨g, b, fun _ => ⟨e1, e2⟩, fun k hk => ?_⟩
      have d1 := hc1 k (by rw [strs_len]; exact hk)
      have d2 := hc2 k (by rw [strs_len]; exact hk)
      rw [strs, List.getElem?_map, List.getElem?_eq_getElem hk, Option.map_some] at d1 d2
      exact ⟨d1, d2⟩
  obtain ⟨g, b, hAB, hc⟩ := key
  have HC := Lib.hid hc
  clear hc
  by_cases hL : L = []
  · subst hL
    clear hAB
    go_enter Try.func28, Try.ntmps28
    go_wp2
    go_loopw [5] (fun i wr => i = .int .i64 0 ∧ ∃ m, wr = w.drewN m) (fun _ _ => 0)
    case atStart => exact ⟨rfl, 0, rfl⟩
    case round =>
      obtain ⟨rfl, m, rfl⟩ := hrel
      go_wp2
      go_ret
      exact ⟨rfl, m, rfl⟩
  · obtain ⟨rfl, rfl⟩ := hAB hL
    clear hAB hL hS
    go_enter Try.func28, Try.ntmps28
    go_wp2
    go_loopw [5] (fun i wr => ∃ k : Nat, k ≤ L.length ∧ i = .int .i64 k ∧ ∃ m, wr = w.drewN m) (fun i _ => L.length - (intOf i).toNat)
    case atStart => exact ⟨0, Nat.zero_le _, rfl, 0, rfl⟩
    case round =>
      obtain ⟨k, hk, rfl, m, rfl⟩ := hrel
      by_cases hlt : k < L.length
      · obtain ⟨d1, d2⟩ := HC.out k hlt
        go_wp2
        go_quiet (fail)
        go_wp2
        go_roundw
        case rel => exact ⟨k + 1, by omega, by go_num, _, rfl⟩
        case measure => simp [intOf]; omega
      · go_wp2
        go_ret
        exact ⟨rfl, m, rfl⟩
/-- what is left behind a Take, as far as k -/
def restT (L : List ByteArray) (i k : Nat) : List ByteArray := (L.take k).eraseIdx i
theorem restT_eq (L : List ByteArray) (i : Nat) (h : i < L.length) : restT L i (i + 1) = restT L i i := by
  unfold restT
  rw [List.eraseIdx_eq_self.2 (show (L.take i).length ≤ i by simp; omega)]
  rw [List.take_succ_eq_append_getElem h, List.eraseIdx_append_of_length_le (by simp; omega)]
  simp [Nat.min_eq_left (Nat.le_of_lt h)]
theorem restT_ne (L : List ByteArray) (i k : Nat) (h : k < L.length) (hne : k ≠ i) : restT L i (k + 1) = restT L i k ++ [L[k]] := by
  unfold restT
  rw [List.take_succ_eq_append_getElem h]
  by_cases hlt : k < i
  · rw [List.eraseIdx_eq_self.2 (by simp; omega), List.eraseIdx_eq_self.2 (by simp; omega)]
  · rw [List.eraseIdx_append_of_lt_length (by simp; omega)]
theorem restT_len (L : List ByteArray) (i k : Nat) : (restT L i k).length ≤ k := by
  unfold restT
  exact Nat.le_trans (List.length_eraseIdx_le ..) (List.length_take_le _ _)
theorem qtake_none (g : Nat) (room : Int) (L : List ByteArray) (k : Int) (w0 w : World) (F : List HP) (hS : Sat w0 w (PoolC g 87 room L :: F)) (h : ¬ (0 ≤ k ∧ k < L.length)) :
    Calls Try.prog 45 #[.pointer (some ⟨g, 0, none⟩), .int .i64 k] w fun e w' => e = .returned (.tuple #[.string ⟨#[]⟩, .int .i64 91]) ∧ w' = w := by
  obtain ⟨A, c, hS⟩ := hS.openP
  have c1 := hS.blk.cell 1
  by_cases h0 : 0 ≤ k
  · have h1 : ¬ k < (L.length : Int) := fun h1 => h ⟨h0, h1⟩
    clear h
    go_enter Try.func45, Try.ntmps45
    go_wp2
    go_ret2
    exact ⟨rfl, rfl⟩
  · clear h
    go_enter Try.func45, Try.ntmps45
    go_wp2
    go_ret2
    exact ⟨rfl, rfl⟩
def TakeRel (w0 : World) (F : List HP) (g b c : Nat) (room : Int) (L : List ByteArray) (k : Nat) (v j : Value) (wr : World) : Prop :=
  ∃ (q : Nat) (A' : Option Addr) (c' : Nat), q ≤ L.length ∧ j = .int .i64 q ∧ v = .slice A' (restT L k q).length c' ∧ Sat w0 wr (Row 9 1 A' (restT L k q).length c' (strs (restT L k q)) :: Blk g 87 [.int .i64 room, .slice (some ⟨b, 0, none⟩) L.length c] :: Row 9 1 (some ⟨b, 0, none⟩) L.length c (strs L) :: F)
set_option maxHeartbeats 1000000 in
theorem qtake_ok (g : Nat) (room : Int) (L : List ByteArray) (k : Nat) (w0 w : World) (F : List HP) (hS : Sat w0 w (PoolC g 87 room L :: F)) (h : k < L.length) (hm : L.length ≤ 200) :
    Calls Try.prog 45 #[.pointer (some ⟨g, 0, none⟩), .int .i64 k] w fun e w' => e = .returned (.tuple #[.string L[k], .int .i64 0]) ∧ Sat w0 w' (PoolC g 87 room (L.eraseIdx k) :: F) := by
  obtain ⟨A, c, hS⟩ := hS.openP
  obtain ⟨i, hi, hz, hsz, hby⟩ := info_parts info9
  have hne : strs L ≠ [] := by intro e; rw [strs, List.map_eq_nil_iff] at e; subst e; simp at h
  obtain ⟨b, rfl, hc, _⟩ := hS.r2.rowCell hne
  have d := hc k (by rw [strs_len]; exact h)
  rw [strs, List.getElem?_map, List.getElem?_eq_getElem h, Option.map_some] at d
  clear hc
  have c1 := hS.blk.cell 1
  have HS := Lib.hid (hS.nilRow 9 1)
  go_enter Try.func45, Try.ntmps45
  go_wp2
  go_loopw [7, 8] (TakeRel w0 F g b c room L k) (fun _ j _ => L.length - (intOf j).toNat)
  case atStart => exact ⟨0, none, 0, Nat.zero_le _, rfl, rfl, HS.out⟩
  case round =>
    obtain ⟨q, A', c', hq, rfl, rfl, hT⟩ := hrel
    clear d c1 HS hS
    have e1 := hT.r2.blk.cell 1
    by_cases hlt : q < L.length
    · obtain ⟨b', e, hc, _⟩ := hT.r3.rowCell hne
      cases e
      have d := hc q (by rw [strs_len]; exact hlt)
      rw [strs, List.getElem?_map, List.getElem?_eq_getElem hlt, Option.map_some] at d
      clear hc
      by_cases hqk : q = k
      · have HE : Hid (restT L k (q + 1) = restT L k q) := by show _ = _; rw [hqk]; exact restT_eq L k h
        have t : ((q : Int) != (k : Int)) = false := by simp [hqk]
        clear hqk
        go_wp2
        go_roundw
        case rel => exact ⟨q + 1, A', c', by omega, by go_num, by rw [HE.out], by rw [HE.out]; exact hT⟩
        case measure => simp [intOf]; omega
      · have HE : Hid (restT L k (q + 1) = restT L k q ++ [L[q]]) := restT_ne L k q hlt hqk
        have t : ((q : Int) != (k : Int)) = true := by rw [bne_iff_ne]; omega
        have hl := restT_len L k q
        have h4 : (restT L k q).length + 1 ≤ maxLen := by unfold maxLen; omega
        have h5 : ((restT L k q).length + 1) * 16 ≤ 140737488355328 := by omega
        clear hqk
        go_wp2_with (at_builtin; refine wpList_app1 rfl (.tmp 39) (.tmp 47) 22 rfl 9 i (.string ⟨#[]⟩) 1 16 Try.underlying22 hi hz hsz hby rfl (by decide) rfl (hT.new #[.string L[q]] 9) (by rfl) rfl (strs_one [L[q]]) h4 h5 ?_; intro A2 c2 w2 hS2; clear d e1)
        go_roundw
        case rel => exact ⟨q + 1, A2, c2, by omega, by go_num, by rw [HE.out, List.length_append]; rfl, by rw [HE.out, List.length_append, strs, List.map_append]; exact hS2⟩
        case measure => simp [intOf]; omega
    · have HE : Hid (restT L k q = L.eraseIdx k) := by show _ = _; unfold restT; rw [List.take_of_length_le (by omega)]
      have f1 := hT.r2.blk.free 1
      go_wp2
      go_ret2
      refine ⟨rfl, Sat.closeP (n := (restT L k q).length) (A := A') (c := c') (by rw [HE.out]) ?_⟩
      rw [← HE.out]
      have := (hT.r2.set 1 (.slice A' (restT L k q).length c')).perm (List.Perm.refl _)
      exact (this.r3.tail).r2.r2
end Go.Proofs.Ytmkbehdfchjeoaa
