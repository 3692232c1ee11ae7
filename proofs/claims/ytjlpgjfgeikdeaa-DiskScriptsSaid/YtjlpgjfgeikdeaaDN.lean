/- pick; a crash keeps a disk in order. -/
import Derived.Test.YtjlpgjfgeikdeaaDM
set_option linter.unusedVariables false
set_option linter.unusedSimpArgs false
set_option linter.unnecessarySimpa false
namespace Go.Proofs.Ytjlpgjfgeikdeaa
open Go.RowKit Go.ChangeShapes Go.WideShapes Go.ChangeAt
def pickN (c : Int) (n : Nat) : Nat := (if c < 0 then -(c + 1) else c).toNat % n
theorem pickN_lt (c : Int) (n : Nat) (h : 0 < n) : pickN c n < n := Nat.mod_lt _ h
theorem pick_any (c : Int) (n : Nat) (w : World) (hc : wf64 c) (hn : 0 < n) (hn2 : n ≤ 1048576) : Calls Try.prog 16 #[.int .i64 c, .int .i64 n] w fun e w' => e = .returned (.int .i64 (pickN c n : Nat)) ∧ w' = w := by
  unfold wf64 at hc
  have t0 : ((n : Int) == 0) = false := by rw [beq_eq_false_iff_ne]; omega
  have t1 : ¬ (n : Int) = 0 := by omega
  by_cases h : c < 0
  · obtain ⟨m, hm⟩ : ∃ m : Nat, -(c + 1) = (m : Int) := ⟨(-(c + 1)).toNat, by omega⟩
    have HX : Hid (pickN c n = m % n) := by show _ = _; unfold pickN; rw [if_pos h, hm, Int.toNat_natCast]
    have sw1 : IntKind.i64.wrap (c + 1) = c + 1 := IntWalk.i64_in _ (by omega)
    have sw2 : IntKind.i64.wrap (-(c + 1)) = (m : Int) := by rw [IntWalk.i64_in _ (by omega)]; exact hm
    have t2 : decide (c < 0) = true := decide_eq_true h
    go_enter Try.func16, Try.ntmps16
    go_wp2
    go_ret
    exact ⟨by rw [HX.out]; first | rfl | exact congrArg (fun x => Ending.returned (Value.int .i64 x)) (by omega), rfl⟩
  · obtain ⟨m, rfl⟩ : ∃ m : Nat, c = (m : Int) := ⟨c.toNat, by omega⟩
    have HX : Hid (pickN (m : Int) n = m % n) := by show _ = _; unfold pickN; rw [if_neg h, Int.toNat_natCast]
    have t2 : decide ((m : Int) < 0) = false := decide_eq_false h
    go_enter Try.func16, Try.ntmps16
    go_wp2
    go_ret
    exact ⟨by rw [HX.out]; first | rfl | exact congrArg (fun x => Ending.returned (Value.int .i64 x)) (by omega), rfl⟩
theorem crashTo_ok {M : MD} (h : M.Ok) (L : Nat) : ∀ n, n ≤ 4 → (crashTo M L n).1.Ok := by
  intro n
  induction n with
  | zero => intro _; exact h
  | succ n ih =>
    intro hn
    have h1 := ih (by omega)
    obtain ⟨s1, s2⟩ := ok_size h n (by omega)
    have e : (crashTo M L n).1.f n = M.f n := crashTo_later M L n n (Nat.le_refl _)
    have hk : keptOf (M.f n) (crashTo M L n).2 ≤ (M.f n).b.size - (M.f n).safe := by unfold keptOf; omega
    refine ok_set h1 (by omega) ?_ ?_
    · rw [e]
      obtain ⟨_, _, h3, _⟩ := h1
      simp only [crashF, ByteArray.size_extract]
      omega
    · simp only [crashF, ByteArray.size_extract]
      omega
theorem crash_ok {M : MD} (h : M.Ok) (L : Nat) : (crashM M L).Ok := crashTo_ok h L 4 (Nat.le_refl _)
end Go.Proofs.Ytjlpgjfgeikdeaa
