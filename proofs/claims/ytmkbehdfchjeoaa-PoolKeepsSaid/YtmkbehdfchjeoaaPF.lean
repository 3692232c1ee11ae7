/- does: a call on both pools. -/
import Derived.Test.YtmkbehdfchjeoaaPE
namespace Go.Proofs.Ytmkbehdfchjeoaa
open Go.RowKit Go.ChangeShapes Go.WideShapes Go.ChangeAt
def stepL (room : Int) (L : List ByteArray) (d n : Int) (s : ByteArray) : List ByteArray := if d = 0 then sendL room L s else if d = 1 then takeL L n else if d = 2 then dblL room L n else L
def FillRel (w0 : World) (F : List HP) (A : Option Addr) (n c : Nat) (i : Value) (wr : World) : Prop :=
  ∃ (k : Nat) (ys : List Value), k ≤ n ∧ i = .int .i64 k ∧ ys.length = n ∧ Sat w0 wr (Row 9 1 A n c ys :: F)
set_option maxHeartbeats 1600000 in
set_option maxRecDepth 100000 in
theorem does_any (p q : Nat) (room : Int) (L : List ByteArray) (d n : Int) (s : ByteArray) (w0 w : World) (F : List HP) (hS : Sat w0 w (PoolC p 70 room L :: PoolC q 87 room L :: F)) (hm : L.length ≤ room) (h3 : room ≤ 200) :
    Calls Try.prog 27 #[.pointer (some ⟨p, 0, none⟩), .pointer (some ⟨q, 0, none⟩), .agg #[.int .i64 d, .int .i64 n, .string s]] w fun e w' => e = .returned (.bool true) ∧ Sat w0 w' (PoolC p 70 room (stepL room L d n s) :: PoolC q 87 room (stepL room L d n s) :: F) := by
  have hb := (hS.new #[.int .i64 d, .int .i64 n, .string s] 62).drew
  by_cases h0 : d = 0
  · have HL : Hid (stepL room L d n s = sendL room L s) := by show _ = _; unfold stepL; rw [if_pos h0]
    have t : (d == 0) = true := by rw [beq_iff_eq]; exact h0
    clear h0
    go_enter Try.func27, Try.ntmps27
    go_wp2_with fail
    go_region_with (first
      | (go_at_call 13; refine (send_any p room L w0 _ _ s hb.r2 h3).mono ?_; rintro e w1 ⟨rfl, hS1⟩; have c2 := hS1.r2.blk.cell 2)
      | (go_at_call 44; refine (qsend_any q room L w0 _ _ s hS1.r3 h3).mono ?_; rintro e w2 ⟨rfl, hS2⟩))
    all_goals
      go_wp2_with fail
      go_ret
      rw [HL.out]
      exact ⟨rfl, hS2.r2.r3.tail⟩
  have t0 : (d == 0) = false := by rw [beq_eq_false_iff_ne]; exact h0
  have hm2 : L.length ≤ 200 := by omega
  by_cases h1 : d = 1
  · have HL : Hid (stepL room L d n s = takeL L n) := by show _ = _; unfold stepL; rw [if_neg h0, if_pos h1]
    have t : (d == 1) = true := by rw [beq_iff_eq]; exact h1
    clear h0 h1
    have hb' := hS.new #[.int .i64 d, .int .i64 n, .string s] 62
    go_enter Try.func27, Try.ntmps27
    go_wp2_with fail
    refine (take_any' p room L w0 _ _ n hb'.r2 hm2).mono ?_
    rintro e w1 ⟨rfl, hS1⟩
    have c1 := hS1.r2.blk.cell 1
    go_wp2_with fail
    refine (qtake_any q room L w0 _ _ n hS1.r3 hm2).mono ?_
    rintro e w2 ⟨rfl, hS2⟩
    clear c1
    go_wp2
    go_ret
    rw [HL.out]
    exact ⟨by simp, hS2.r2.r3.tail⟩
  have t1 : (d == 1) = false := by rw [beq_eq_false_iff_ne]; exact h1
  by_cases h2 : d = 2
  · have HL : Hid (stepL room L d n s = dblL room L n) := by show _ = _; unfold stepL; rw [if_neg h0, if_neg h1, if_pos h2]
    have t : (d == 2) = true := by rw [beq_iff_eq]; exact h2
    clear h0 h1 h2
    go_enter Try.func27, Try.ntmps27
    go_wp2_with fail
    go_region_with (first
      | (go_at_call 31; refine (double_any p room L w0 _ _ n hb.r2 hm h3).mono ?_; rintro e w1 ⟨rfl, hS1⟩; have c2 := hS1.r2.blk.cell 1)
      | (go_at_call 46; refine (qdouble_any q room L w0 _ _ n hS1.r3 hm h3).mono ?_; rintro e w2 ⟨rfl, hS2⟩))
    all_goals
      go_wp2_with fail
      go_ret
      rw [HL.out]
      exact ⟨rfl, hS2.r2.r3.tail⟩
  have t2 : (d == 2) = false := by rw [beq_eq_false_iff_ne]; exact h2
  have HL : Hid (stepL room L d n s = L) := by show _ = _; unfold stepL; rw [if_neg h0, if_neg h1, if_neg h2]
  have hb' := hS.new #[.int .i64 d, .int .i64 n, .string s] 62
  clear h0 h1 h2 hb hS
  go_enter Try.func27, Try.ntmps27
  go_wp2_with fail
  refine (all_any p room L w0 _ _ hb'.r2 (by omega)).mono ?_
  rintro e w1 ⟨A, c, rfl, hS1⟩
  go_wp2_with fail
  go_loopw [12] (FillRel w0 (PoolC p 70 room L :: Blk w.heap.size 62 [.int .i64 d, .int .i64 n, .string s] :: PoolC q 87 room L :: F) A L.length c) (fun i _ => L.length - (intOf i).toNat)
  case atStart => exact ⟨0, strs L, Nat.zero_le _, rfl, strs_len L, hS1⟩
  case round =>
    obtain ⟨k, ys, hk, rfl, hy, hT⟩ := hrel
    clear hS1 hb'
    by_cases hlt : k < L.length
    · have hne : ys ≠ [] := by rintro rfl; simp at hy; omega
      obtain ⟨g, rfl, hc, hf⟩ := hT.rowCell hne
      have c0 := hc k (by omega)
      rw [List.getElem?_eq_getElem (by omega)] at c0
      have f0 := hf k
      have hT2 := hT.rowSet k (.string ⟨#[120]⟩)
      clear hc hf hne
      go_wp2_with fail
      go_roundw
      case rel => exact ⟨k + 1, ys.set k (.string ⟨#[120]⟩), by omega, by go_num, by simpa using hy, hT2⟩
      case measure => simp [intOf]; omega
    · go_wp2_with fail
      go_ret
      rw [HL.out]
      exact ⟨rfl, hT.tail.r2.tail⟩
end Go.Proofs.Ytmkbehdfchjeoaa
