/- Crash of the document's disk. -/
import Derived.Test.YtjlpgjfgeikdeaaDX
set_option linter.unusedVariables false
set_option linter.unusedSimpArgs false
set_option linter.unnecessarySimpa false
namespace Go.Proofs.Ytjlpgjfgeikdeaa
open Go.RowKit Go.ChangeShapes Go.WideShapes Go.ChangeAt
theorem cellsR_set_both (M : MD) (n : Nat) (h : n < 4) (b : ByteArray) (s : Nat) : ((cellsR M).set (n * 2) (.string b)).set (n * 2 + 1) (.int .i64 s) = cellsR (M.set n ⟨b, s⟩) := by
  have : n = 0 ∨ n = 1 ∨ n = 2 ∨ n = 3 := by omega
  rcases this with rfl | rfl | rfl | rfl <;> simp [cellsR, MD.set]
def RcRel (w0 : World) (F : List HP) (r : Nat) (M : MD) (L : Nat) (left i : Value) (wr : World) : Prop :=
  ∃ k : Nat, k ≤ 4 ∧ i = .int .i64 k ∧ left = .int .i64 (crashTo M L k).2 ∧ Sat w0 wr (Blk r 69 (cellsR (crashTo M L k).1) :: F)
set_option maxRecDepth 100000 in
set_option maxHeartbeats 1600000 in
theorem rcrash_any (r : Nat) (M : MD) (keep : Int) (w0 w : World) (F : List HP) (hS : Sat w0 w (Blk r 69 (cellsR M) :: F)) (hok : M.Ok) (hk : wf64 keep) :
    Calls Try.prog 36 #[.pointer (some ⟨r, 0, none⟩), .int .i64 keep] w fun e w' => e = .returned (.tuple #[]) ∧ Sat w0 w' (Blk r 69 (cellsR (crashM M keep.toNat)) :: F) := by
  have hmax : ∃ L : Nat, L = keep.toNat ∧ (L : Int) ≤ 9223372036854775807 := ⟨keep.toNat, rfl, by unfold wf64 at hk; omega⟩
  obtain ⟨L, hL, hL2⟩ := hmax
  rw [← hL]
  have HU : Hid (∀ k, k < 4 → (M.f k).b.size ≤ 1048576 ∧ (M.f k).safe ≤ (M.f k).b.size) := fun k hk4 => ok_size hok k hk4
  have start : RcRel w0 F r M L (.int .i64 L) (.int .i64 0) w := ⟨0, by omega, rfl, rfl, hS⟩
  clear hok hS
  by_cases h0 : 0 ≤ keep
  case' pos => have hkL : keep = (L : Int) := by omega
  case' pos => subst hkL
  case' neg => have hL0 : Hid ((0 : Int) = (L : Int)) := by show _ = _; omega
  all_goals
    clear hL hk
    go_enter Try.func36, Try.ntmps36
    go_wp2_with fail
    go_loopw [4, 5] (RcRel w0 F r M L) (fun _ i _ => 4 - (intOf i).toNat)
    case atStart => first | exact start | (have st := start; rw [← hL0.out] at st; exact st)
    obtain ⟨k, hk, rfl, rfl, hT⟩ := hrel
    clear start
    by_cases hlt : k < 4
    · obtain ⟨hs1, hs2⟩ := HU.out k hlt
      have hfM := crashTo_later M L k k (Nat.le_refl _)
      have hle := crashTo_less M L k
      have hst := crash_step M L k
      obtain ⟨⟨Mk, left⟩, hX⟩ : ∃ X, crashTo M L k = X := ⟨_, rfl⟩
      rw [hX] at hT hfM hle hst ⊢
      simp only at hT hfM hle hst ⊢
      have m0 := hT.blk.cell (k * 2)
      rw [cellsR_row _ k hlt] at m0
      have m1 := hT.blk.cell (k * 2 + 1)
      rw [cellsR_safe _ k hlt] at m1
      have f0 := hT.blk.free (k * 2)
      have f1 := hT.blk.free (k * 2 + 1)
      have hrl := hT.lt
      rw [hfM] at m0 m1
      have hcb := cellsR_set_both Mk k hlt
      obtain ⟨⟨b, sf⟩, hb⟩ : ∃ b, M.f k = b := ⟨_, rfl⟩
      rw [hb] at hs1 hs2 m0 m1 hst
      simp only at hs1 hs2 m0 m1 hst
      obtain ⟨D, hD⟩ : ∃ D, b.size - sf = D := ⟨_, rfl⟩
      have hDD : sf + D = b.size := by omega
      have sw1 : IntKind.i64.wrap ((b.size : Int) - (sf : Int)) = (D : Int) := by rw [IntWalk.i64_in _ (by omega)]; omega
      have hq1 : (b.size : Int) - (sf : Int) = (D : Int) := by omega
      have hkept : ∀ z, keptOf ⟨b, sf⟩ z = min z D := fun z => by unfold keptOf; simp only; rw [hD]
      have HST := Lib.hid hst
      have HCB := Lib.hid hcb
      have HKP := Lib.hid hkept
      have HQ1 := Lib.hid hq1
      clear hX hfM hst hb hD hcb hkept hq1
      by_cases hc : left ≤ D
      case' pos =>
        obtain ⟨K, hK⟩ : ∃ K, left = K := ⟨_, rfl⟩
        have hmin : min left D = K := by omega
      case' neg =>
        obtain ⟨K, hK⟩ : ∃ K, D = K := ⟨_, rfl⟩
        have hmin : min left D = K := by omega
      all_goals
        have hKb : sf + K ≤ b.size := by omega
        have hKl : K ≤ left := by omega
        have HKL : Hid (K ≤ left) := hKl
        have HS2 : Hid (crashTo M L (k + 1) = (Mk.set k ⟨b.extract 0 (sf + K), sf + K⟩, left - K)) := HST.out K (by rw [HKP.out, hmin])
        have hmin2 : min (sf + K) b.size = sf + K := by omega
        have sw3 : IntKind.i64.wrap ((sf : Int) + (K : Int)) = ((sf + K : Nat) : Int) := by rw [IntWalk.i64_in _ (by omega)]; omega
        have sw4 : IntKind.i64.wrap ((left : Int) - (K : Int)) = ((left - K : Nat) : Int) := by rw [IntWalk.i64_in _ (by omega)]; omega
        clear hmin HST HKP hKl hDD
      case pos =>
        subst hK
        have hFin := fun (sx : ByteArray) => (((hT.set (k * 2) (.string (b.extract 0 (sf + left)))).set (k * 2 + 1) (.int .i64 ((sf + left : Nat) : Int))).new #[.string (b.extract 0 (sf + left)), .int .i64 ((sf + left : Nat) : Int)] 66).tail
        rw [HCB.out] at hFin
        have HFIN := Lib.hid hFin
        clear hFin
        go_wp2_with fail
        go_region
        all_goals
          go_wp2_with fail
          go_roundw
          case rel =>
            refine ⟨k + 1, by omega, by go_num, ?_, ?_⟩
            · rw [HS2.out]; simp
            · rw [HS2.out]; exact (HFIN.out b).drewN 1
          case measure => simp [intOf]; omega
      case neg =>
        subst hK
        have hFin := fun (sx : ByteArray) => (((hT.set (k * 2) (.string (b.extract 0 (sf + D)))).set (k * 2 + 1) (.int .i64 ((sf + D : Nat) : Int))).new #[.string (b.extract 0 (sf + D)), .int .i64 ((sf + D : Nat) : Int)] 66).tail
        rw [HCB.out] at hFin
        have HFIN := Lib.hid hFin
        clear hFin
        go_wp2_with fail
        go_region
        all_goals
          go_wp2_with fail
          go_roundw
          case rel =>
            refine ⟨k + 1, by omega, by go_num, ?_, ?_⟩
            · rw [HS2.out]; try exact nat_val (by have := HKL.out; simp only; omega)
            · rw [HS2.out]; exact (HFIN.out b).drewN 1
          case measure => simp [intOf]; omega
    · have hk4 : k = 4 := by omega
      subst hk4
      go_wp2_with fail
      go_end0
      exact ⟨rfl, hT⟩
end Go.Proofs.Ytjlpgjfgeikdeaa
