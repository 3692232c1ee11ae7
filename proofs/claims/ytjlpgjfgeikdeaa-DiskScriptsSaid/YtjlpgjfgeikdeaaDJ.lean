/- Crash of the program's disk. -/
import Derived.Test.YtjlpgjfgeikdeaaDI
set_option linter.unusedVariables false
set_option linter.unusedSimpArgs false
set_option linter.unnecessarySimpa false
namespace Go.Proofs.Ytjlpgjfgeikdeaa
open Go.RowKit Go.ChangeShapes Go.WideShapes Go.ChangeAt
def wf64 (n : Int) : Prop := -9223372036854775808 ≤ n ∧ n ≤ 9223372036854775807
/-- what a file keeps of what is not safe -/
def keptOf (f : MF) (left : Nat) : Nat := min left (f.b.size - f.safe)
def crashF (f : MF) (left : Nat) : MF := ⟨f.b.extract 0 (f.safe + keptOf f left), f.safe + keptOf f left⟩
/-- a crash, file by file -/
def crashTo (M : MD) (left : Nat) : Nat → MD × Nat
  | 0 => (M, left)
  | n + 1 => ((crashTo M left n).1.set n (crashF (M.f n) (crashTo M left n).2), (crashTo M left n).2 - keptOf (M.f n) (crashTo M left n).2)
def crashM (M : MD) (left : Nat) : MD := (crashTo M left 4).1
theorem crashTo_later (M : MD) (left : Nat) : ∀ n i, n ≤ i → (crashTo M left n).1.f i = M.f i := by
  intro n
  induction n with
  | zero => intro i _; rfl
  | succ n ih =>
    intro i hi
    unfold crashTo MD.set
    simp only
    rw [if_neg (by omega)]
    exact ih i (by omega)
theorem crashTo_room (M : MD) (left : Nat) : ∀ n, (crashTo M left n).1.room = M.room := by
  intro n
  induction n with
  | zero => rfl
  | succ n ih => exact ih
theorem crashTo_less (M : MD) (left : Nat) : ∀ n, (crashTo M left n).2 ≤ left := by
  intro n
  induction n with
  | zero => exact Nat.le_refl _
  | succ n ih => unfold crashTo; simp only; omega
theorem Works.refl {w : World} {d : Nat} {v : Nat → Value} {M : MD} (h : DiskAt w d v M) : Works d v M w w := ⟨v, h, ChgS.refl _ _, fun _ hk => .inl hk⟩
theorem Works.chain {d : Nat} {v v1 : Nat → Value} {M' : MD} {w w1 w2 : World} (c : ChgS (footD d v) w w1) (f : ∀ k, footD d v1 k → footD d v k ∨ w.heap.size ≤ k) (h : Works d v1 M' w1 w2) : Works d v M' w w2 := by
  obtain ⟨v2, hD, hc, hf⟩ := h
  refine ⟨v2, hD, ⟨hc.os.trans c.os, hc.tape.trans c.tape, hc.output.trans c.output, Nat.le_trans c.size hc.size, fun k hk hn => ?_⟩, fun k hk => ?_⟩
  · refine (hc.block k (Nat.lt_of_lt_of_le hk c.size) fun h1 => ?_).trans (c.block k hk hn)
    rcases f k h1 with h2 | h2
    · exact hn h2
    · omega
  · rcases hf k hk with h1 | h1
    · exact f k h1
    · exact .inr (Nat.le_trans c.size h1)
theorem Works.drewN {d : Nat} {v : Nat → Value} {M' : MD} {w w' : World} (h : Works d v M' w w') (m : Nat) : Works d v M' w (w'.drewN m) := by
  obtain ⟨v', hD, hc, hf⟩ := h
  exact ⟨v', hD.drewN m, hc.drewN m, hf⟩
theorem cut_full (b : ByteArray) (m : Nat) (h : m ≤ b.size) : (b.extract 0 m).size = m := by simp; omega
theorem step_safe {w w1 : World} {d : Nat} {v : Nat → Value} {M : MD} {n m s : Nat} {b : ByteArray} (hn : n < 4) (h : Works d v (M.set n ⟨b, s⟩) w w1) (hb : b.size = m) : Works d v (M.set n ⟨b, m⟩) w (w1.setCell ⟨d, n * 2 + 1, none⟩ (.int .i64 m)) := by
  obtain ⟨v1, hD, hc, hf⟩ := h
  have h2 := hD.setSafe n hn m
  rw [set_set] at h2
  have e : ((M.set n ⟨b, s⟩).f n).b = b := by simp [MD.set]
  rw [e] at h2
  exact ⟨v1, h2, hc.set (p := ⟨d, n * 2 + 1, none⟩) (.inl (.inl rfl)) _, hf⟩
def CrRel (d : Nat) (v : Nat → Value) (M : MD) (L : Nat) (w : World) (keep i : Value) (wr : World) : Prop :=
  ∃ k : Nat, k ≤ 4 ∧ i = .int .i64 k ∧ keep = .int .i64 (crashTo M L k).2 ∧ Works d v (crashTo M L k).1 w wr
theorem crash_step (M : MD) (L k : Nat) (K : Nat) (hK : K = keptOf (M.f k) (crashTo M L k).2) : crashTo M L (k + 1) = ((crashTo M L k).1.set k ⟨(M.f k).b.extract 0 ((M.f k).safe + K), (M.f k).safe + K⟩, (crashTo M L k).2 - K) := by
  subst hK; rfl
theorem nat_val {a : Int} {b : Nat} (h : a = b) : Value.int .i64 a = .int .i64 (b : Nat) := by rw [h]
set_option maxRecDepth 100000 in
set_option maxHeartbeats 3200000 in
theorem crash_any (d : Nat) (v : Nat → Value) (M : MD) (keep : Int) (w : World) (hD : DiskAt w d v M) (hok : M.Ok) (hk : wf64 keep) :
    Calls Try.prog 15 #[.pointer (some ⟨d, 0, none⟩), .int .i64 keep] w fun e w' => e = .returned (.tuple #[]) ∧ Works d v (crashM M keep.toNat) w w' := by
  have hmax : ∃ L : Nat, L = keep.toNat ∧ (L : Int) ≤ 9223372036854775807 := ⟨keep.toNat, rfl, by unfold wf64 at hk; omega⟩
  obtain ⟨L, hL, hL2⟩ := hmax
  rw [← hL]
  have hused : ∀ k, k < 4 → (M.f k).b.size ≤ 1048576 ∧ (M.f k).safe ≤ (M.f k).b.size := by
    obtain ⟨h1, h2, h3, h4⟩ := hok
    intro k hk4
    refine ⟨?_, h4 k hk4⟩
    have : k = 0 ∨ k = 1 ∨ k = 2 ∨ k = 3 := by omega
    unfold MD.used at h3
    rcases this with rfl | rfl | rfl | rfl <;> omega
  have HU := Lib.hid hused
  have start : CrRel d v M L w (.int .i64 L) (.int .i64 0) w := ⟨0, by omega, rfl, rfl, Works.refl hD⟩
  clear hused hok hD
  by_cases h0 : 0 ≤ keep
  case' pos => have hkL : keep = (L : Int) := by omega
  case' pos => subst hkL
  case' neg => have hL0 : Hid ((0 : Int) = (L : Int)) := by show _ = _; omega
  all_goals
    clear hL hk
    go_enter Try.func15, Try.ntmps15
    go_wp2_with fail
    go_loopw [1, 9] (CrRel d v M L w) (fun _ i _ => 4 - (intOf i).toNat)
    case atStart => first | exact start | (have st := start; rw [← hL0.out] at st; exact st)
    obtain ⟨k, hk, rfl, rfl, hW⟩ := hrel
    clear start
    by_cases hlt : k < 4
    · obtain ⟨vk, hDk, hck, hfk⟩ := hW
      obtain ⟨hs1, hs2⟩ := HU.out k hlt
      have hfM := crashTo_later M L k k (Nat.le_refl _)
      have hle := crashTo_less M L k
      have hst := crash_step M L k
      obtain ⟨⟨Mk, left⟩, hX⟩ : ∃ X, crashTo M L k = X := ⟨_, rfl⟩
      rw [hX] at hDk hfM hle hst ⊢
      simp only at hDk hfM hle hst ⊢
      obtain ⟨A, c, hv⟩ := hDk.slice k hlt
      have m0 := hDk.at_.cell (k * 2)
      rw [cellsD_row _ _ k hlt, hv] at m0
      have m1 := hDk.at_.cell (k * 2 + 1)
      rw [cellsD_safe _ _ k hlt] at m1
      have HDk := Lib.hid hDk
      have HCK := Lib.hid hck
      have HFK := Lib.hid hfk
      have HST := Lib.hid hst
      rw [hfM] at m0 m1
      have HFM := Lib.hid hfM
      obtain ⟨b, hb⟩ : ∃ b, (M.f k).b = b := ⟨_, rfl⟩
      obtain ⟨sf, hsf⟩ : ∃ b, (M.f k).safe = b := ⟨_, rfl⟩
      rw [hb, hsf] at hs2
      rw [hb] at hs1 m0
      rw [hsf] at m1
      have HB := Lib.hid hb
      have HSF := Lib.hid hsf
      obtain ⟨D, hD⟩ : ∃ D, D = b.size - sf := ⟨_, rfl⟩
      have HDD := Lib.hid hD
      have sw1 : IntKind.i64.wrap ((b.size : Int) - (sf : Int)) = (D : Int) := by rw [IntWalk.i64_in _ (by omega)]; omega
      have cutAny : ∀ (K : Nat) (q : Nat), sf + K ≤ b.size → Calls Try.prog 31 #[.pointer (some ⟨d, k * 2, none⟩), .int .i64 ((sf + K : Nat) : Int)] (wr.drewN q) fun e w' => e = .returned (.tuple #[]) ∧ Works d vk (Mk.set k ⟨b.extract 0 (sf + K), sf⟩) (wr.drewN q) w' := by
        intro K q hKb
        have := cut1_any d vk Mk k (sf + K) (wr.drewN q) hlt (HDk.out.drewN q) (by rw [HFM.out, HB.out]; exact hKb) (by rw [HFM.out, HB.out]; exact hs1) (by rw [HFM.out, HB.out, HSF.out]; exact hs2)
        rw [HFM.out, HB.out, HSF.out, Nat.min_eq_left (by omega)] at this
        exact this
      have finish : ∀ (K q : Nat) (w2 : World), K = keptOf (M.f k) left → sf + K ≤ b.size → Works d vk (Mk.set k ⟨b.extract 0 (sf + K), sf⟩) (wr.drewN q) w2 → Works d v (crashTo M L (k + 1)).1 w (w2.setCell ⟨d, k * 2 + 1, none⟩ (.int .i64 ((sf + K : Nat) : Int))) := by
        intro K q w2 hK hKb hw2
        rw [HST.out K hK, HB.out, HSF.out]
        exact Works.chain (HCK.out.drewN q) HFK.out (step_safe hlt hw2 (cut_full b (sf + K) hKb))
      have HC := Lib.hid cutAny
      have HF := Lib.hid finish
      clear hX hDk hfM hst hck hfk hb hsf hD cutAny finish
      by_cases hc : left ≤ D
      · have hKb : sf + left ≤ b.size := by have := HDD.out; omega
        have sw3 : IntKind.i64.wrap ((sf : Int) + (left : Int)) = ((sf + left : Nat) : Int) := by rw [IntWalk.i64_in _ (by omega)]; omega
        go_wp2_with fail
        go_quiet (fail)
        go_wp2_with fail
        have hKe : left = keptOf (M.f k) left := by unfold keptOf; rw [HB.out, HSF.out, ← HDD.out]; omega
        have hk2 : (crashTo M L (k + 1)).2 = left - left := by rw [HST.out left hKe]
        have HK2 := Lib.hid hk2
        have HKE := Lib.hid hKe
        clear hk2 hKe m0 m1
        refine (HC.out left _ hKb).mono ?_
        rintro e w2 ⟨rfl, hw2⟩
        have hfin := HF.out left _ w2 HKE.out hKb hw2
        obtain ⟨v2, hD2, hc2, hf2⟩ := hw2
        obtain ⟨A2, c2, hv2⟩ := hD2.slice k hlt
        have n0 := hD2.at_.cell (k * 2)
        rw [cellsD_row _ _ k hlt, hv2] at n0
        have he : ((Mk.set k ⟨b.extract 0 (sf + left), sf⟩).f k).b.size = sf + left := by
          have : ((Mk.set k ⟨b.extract 0 (sf + left), sf⟩).f k).b = b.extract 0 (sf + left) := by simp [MD.set]
          rw [this]; exact cut_full b _ hKb
        rw [he] at n0
        have n1 := hD2.at_.cell (k * 2 + 1)
        rw [cellsD_safe _ _ k hlt] at n1
        have f1 := hD2.at_.free (k * 2 + 1)
        have HFIN := Lib.hid hfin
        clear he hv2 hD2 hc2 hf2 hfin
        go_wp2_with fail
        go_roundw
        case rel => exact ⟨k + 1, by omega, by go_num, by rw [HK2.out]; try (first | rfl | go_num | exact nat_val (by omega)), HFIN.out⟩
        case measure => simp [intOf]; omega
      · have hKb : sf + D ≤ b.size := by have := HDD.out; omega
        have sw3 : IntKind.i64.wrap ((sf : Int) + (D : Int)) = ((sf + D : Nat) : Int) := by rw [IntWalk.i64_in _ (by omega)]; omega
        have sw2 : IntKind.i64.wrap ((left : Int) - (D : Int)) = ((left - D : Nat) : Int) := by rw [IntWalk.i64_in _ (by omega)]; omega
        go_wp2_with fail
        go_quiet (fail)
        go_wp2_with fail
        have hKe : D = keptOf (M.f k) left := by unfold keptOf; rw [HB.out, HSF.out, ← HDD.out]; omega
        have hk2 : (crashTo M L (k + 1)).2 = left - D := by rw [HST.out D hKe]
        have HK2 := Lib.hid hk2
        have HKE := Lib.hid hKe
        clear hk2 hKe m0 m1
        refine (HC.out D _ hKb).mono ?_
        rintro e w2 ⟨rfl, hw2⟩
        have hfin := HF.out D _ w2 HKE.out hKb hw2
        obtain ⟨v2, hD2, hc2, hf2⟩ := hw2
        obtain ⟨A2, c2, hv2⟩ := hD2.slice k hlt
        have n0 := hD2.at_.cell (k * 2)
        rw [cellsD_row _ _ k hlt, hv2] at n0
        have he : ((Mk.set k ⟨b.extract 0 (sf + D), sf⟩).f k).b.size = sf + D := by
          have : ((Mk.set k ⟨b.extract 0 (sf + D), sf⟩).f k).b = b.extract 0 (sf + D) := by simp [MD.set]
          rw [this]; exact cut_full b _ hKb
        rw [he] at n0
        have n1 := hD2.at_.cell (k * 2 + 1)
        rw [cellsD_safe _ _ k hlt] at n1
        have f1 := hD2.at_.free (k * 2 + 1)
        have HFIN := Lib.hid hfin
        clear he hv2 hD2 hc2 hf2 hfin
        go_wp2_with fail
        go_roundw
        case rel => exact ⟨k + 1, by omega, by go_num, by rw [HK2.out]; try (first | rfl | go_num | exact nat_val (by omega)), HFIN.out⟩
        case measure => simp [intOf]; omega
    · have hk4 : k = 4 := by omega
      subst hk4
      go_wp2_with fail
      go_end0
      exact ⟨rfl, hW⟩
end Go.Proofs.Ytjlpgjfgeikdeaa
