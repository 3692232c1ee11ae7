import Derived.Test.YtjlpgjfgeikdeaaDoorD1
import Derived.BigQuiet
import Derived.Deep.CutBlock
import Derived.Laws.CopyOwn
import Derived.Deep.RegionWith
import Derived.Deep.RegionHeld3
import Derived.ProofKit
import Derived.OpenShut
import Derived.SliceStrings
section
/- Cut of the program's disk, and of the document's. -/
set_option linter.unusedVariables false
set_option linter.unusedSimpArgs false
set_option linter.unnecessarySimpa false
set_option maxRecDepth 100000
namespace Go.Proofs.YtjlpgjfgeikdeaaDoor
open Go.RowKit Go.ChangeShapes Go.WideShapes Go.ChangeAt
open Go.Lib (strCells strCells_length)
theorem strCells_cut (b : ByteArray) (m : Nat) : strCells (b.extract 0 m) = (strCells b).take m := by
  unfold strCells
  rw [← List.map_take]
  congr 1
  simp [ByteArray.data_extract]
theorem BRow.cut {w : World} {A : Option Addr} {c : Nat} {b : ByteArray} (h : BRow w (.slice A b.size c) b) (m : Nat) (hm : m ≤ b.size) : BRow w (.slice A m m) (b.extract 0 m) ∧ m ≤ c := by
  rcases h with ⟨e, hb⟩ | ⟨g, cap, cur, e, hg, hnc, hcm, hcs, htake⟩
  · injection e with e1 e2 e3
    subst e1 e3
    have : m = 0 := by omega
    subst this
    exact ⟨.inl ⟨rfl, by simp⟩, Nat.le_refl _⟩
  · injection e with e1 e2 e3
    subst e1 e3
    have hs : (b.extract 0 m).size = m := by simp; omega
    refine ⟨.inr ⟨g, m, cur, by rw [hs], hg, by omega, by omega, by omega, ?_⟩, by omega⟩
    rw [hs, strCells_cut, ← htake, List.take_take, Nat.min_eq_left hm]
theorem own_cut {A : Option Addr} {a c m : Nat} : ∀ k, (Value.slice A m m).ownBlock = some k → (Value.slice A a c).ownBlock = some k := by
  intro k h; cases A <;> simpa [Value.ownBlock] using h
theorem works_cut {w : World} {d : Nat} {v : Nat → Value} {M : MD} (hD : DiskAt w d v M) (n : Nat) (hn : n < 4) {A : Option Addr} {c : Nat} (hv : v n = .slice A (M.f n).b.size c) (m : Nat) (hm : m ≤ (M.f n).b.size) :
    Works d v (M.set n ⟨(M.f n).b.extract 0 m, min (M.f n).safe m⟩) w ((w.setCell ⟨d, n * 2, none⟩ (.slice A m m)).setCell ⟨d, n * 2 + 1, none⟩ (.int .i64 (min (M.f n).safe m : Nat))) := by
  have hr := hD.row n hn
  rw [hv] at hr
  have own : ∀ k, (Value.slice A m m).ownBlock = some k → (v n).ownBlock = some k ∨ w.heap.size ≤ k := fun k hk => .inl (by rw [hv]; exact own_cut k hk)
  have h1 := hD.setRow n hn (.slice A m m) ((M.f n).b.extract 0 m) (hr.cut m hm).1 (World.grownBy.refl w _) own
  have h2 := h1.setSafe n hn (min (M.f n).safe m)
  rw [set_set] at h2
  have e : ((M.set n ⟨(M.f n).b.extract 0 m, (M.f n).safe⟩).f n).b = (M.f n).b.extract 0 m := by simp [MD.set]
  rw [e] at h2
  refine ⟨_, h2, ?_, foot_upd hn own⟩
  exact ((ChgS.refl _ _).set (p := ⟨d, n * 2, none⟩) (.inl (.inl rfl)) _).set (p := ⟨d, n * 2 + 1, none⟩) (.inl (.inl rfl)) _
set_option maxRecDepth 100000 in
theorem cut1_any (d : Nat) (v : Nat → Value) (M : MD) (n m : Nat) (w : World) (hn : n < 4) (hD : DiskAt w d v M) (hm : m ≤ (M.f n).b.size) (hs : (M.f n).b.size ≤ 1048576) (hsf : (M.f n).safe ≤ (M.f n).b.size) :
    Calls Tryd.prog 44 #[.pointer (some ⟨d, n * 2, none⟩), .int .i64 m] w fun e w' => e = .returned (.tuple #[]) ∧ Works d v (M.set n ⟨(M.f n).b.extract 0 m, min (M.f n).safe m⟩) w w' := by
  obtain ⟨A, c, hv⟩ := hD.slice n hn
  have hr := hD.row n hn
  rw [hv] at hr
  have hmc := (hr.cut m hm).2
  have HW := Lib.hid (works_cut hD n hn hv m hm)
  have m0 := hD.at_.cell (n * 2)
  have f0 := hD.at_.free (n * 2)
  have m1 := hD.at_.cell (n * 2 + 1)
  have f1 := hD.at_.free (n * 2 + 1)
  rw [cellsD_row v M n hn, hv] at m0
  rw [cellsD_safe v M n hn] at m1
  clear hr hv hD
  by_cases hle : (M.f n).safe ≤ m
  · have HM := Lib.hid (Nat.min_eq_left hle)
    rw [HM.out] at HW
    go_enter Tryd.func44, Tryd.ntmps44
    go_wp2_with fail
    go_end0
    rw [HM.out]
    exact ⟨rfl, HW.out⟩
  · have HM := Lib.hid (Nat.min_eq_right (Nat.le_of_lt (Nat.lt_of_not_le hle)))
    rw [HM.out] at HW
    go_enter Tryd.func44, Tryd.ntmps44
    go_wp2_with fail
    go_end0
    rw [HM.out]
    exact ⟨rfl, HW.out⟩
/-- Cut: its answer, and the disk behind it -/
def cutOk (M : MD) (n : Nat) (z : Int) : Bool := decide (0 ≤ z) && decide (z ≤ (M.f n).b.size)
set_option maxRecDepth 100000 in
theorem cut_any (d : Nat) (v : Nat → Value) (M : MD) (n m : Nat) (w : World) (hn : n < 4) (hD : DiskAt w d v M) (hm : m ≤ (M.f n).b.size) (hs : (M.f n).b.size ≤ 1048576) (hsf : (M.f n).safe ≤ (M.f n).b.size) :
    Calls Tryd.prog 42 #[.pointer (some ⟨d, 0, none⟩), .int .i64 n, .int .i64 m] w fun e w' => e = .returned (.int .i64 0) ∧ Works d v (M.set n ⟨(M.f n).b.extract 0 m, min (M.f n).safe m⟩) w w' := by
  obtain ⟨A, c, hv⟩ := hD.slice n hn
  have HD := Lib.hid hD
  have m0 := hD.at_.cell (n * 2)
  rw [cellsD_row v M n hn, hv] at m0
  clear hv hD
  go_enter Tryd.func42, Tryd.ntmps42
  go_wp2_with fail
  refine (of_any d n _ hn).mono ?_
  rintro e w1 ⟨rfl, rfl⟩
  go_wp2_with fail
  refine (cut1_any d v M n m _ hn HD.out hm hs hsf).mono ?_
  rintro e w2 ⟨rfl, hw⟩
  have HW := Lib.hid hw
  clear hw
  go_wp2_with fail
  go_ret
  exact ⟨rfl, HW.out⟩
theorem cut_bad (d : Nat) (v : Nat → Value) (M : MD) (n : Nat) (z : Int) (w : World) (hn : n < 4) (hD : DiskAt w d v M) (hs : (M.f n).b.size ≤ 1048576) (hz : ¬ (0 ≤ z ∧ z ≤ (M.f n).b.size)) :
    Calls Tryd.prog 42 #[.pointer (some ⟨d, 0, none⟩), .int .i64 n, .int .i64 z] w fun e w' => e = .returned (.int .i64 1) ∧ w' = w := by
  obtain ⟨A, c, hv⟩ := hD.slice n hn
  have m0 := hD.at_.cell (n * 2)
  rw [cellsD_row v M n hn, hv] at m0
  clear hv hD
  by_cases h0 : 0 ≤ z
  · have h1 : ¬ z ≤ (M.f n).b.size := fun h => hz ⟨h0, h⟩
    clear hz
    go_enter Tryd.func42, Tryd.ntmps42
    go_wp2_with fail
    refine (of_any d n _ hn).mono ?_
    rintro e w1 ⟨rfl, rfl⟩
    go_wp2_with fail
    go_ret
    exact ⟨rfl, rfl⟩
  · clear hz
    go_enter Tryd.func42, Tryd.ntmps42
    go_wp2_with fail
    refine (of_any d n _ hn).mono ?_
    rintro e w1 ⟨rfl, rfl⟩
    go_wp2_with fail
    go_ret
    exact ⟨rfl, rfl⟩
theorem cut_none (d : Nat) (n z : Int) (w : World) (hn : isB n = false) :
    Calls Tryd.prog 42 #[.pointer (some ⟨d, 0, none⟩), .int .i64 n, .int .i64 z] w fun e w' => e = .returned (.int .i64 40) ∧ w' = w := by
  go_enter Tryd.func42, Tryd.ntmps42
  go_wp2_with fail
  refine (of_none d n _ hn).mono ?_
  rintro e w1 ⟨rfl, rfl⟩
  go_wp2_with fail
  go_ret
  exact ⟨rfl, rfl⟩
end Go.Proofs.YtjlpgjfgeikdeaaDoor
end

section
/- Crash of the program's disk. -/
set_option linter.unusedVariables false
set_option linter.unusedSimpArgs false
set_option linter.unnecessarySimpa false
set_option maxRecDepth 100000
namespace Go.Proofs.YtjlpgjfgeikdeaaDoor
open Go.RowKit Go.ChangeShapes Go.WideShapes Go.ChangeAt
def wf64 (n : Int) : Prop := -9223372036854775808 ≤ n ∧ n ≤ 9223372036854775807
/-- what a file keeps of what is not safe -/
def keptOf (f : MF) (left : Nat) : Nat := min left (f.b.size - f.safe)
def crashF (f : MF) (left : Nat) : MF := ⟨f.b.extract 0 (f.safe + keptOf f left), f.safe + keptOf f left⟩
/-- a crash, file by file -/
def crashTo (M : MD) (left : Nat) : Nat → MD × Nat
  | 0 => (M, left)
  | n + 1 => ((crashTo M left n).1.set n (crashF (M.f n) (crashTo M left n).2), (crashTo M left n).2 - keptOf (M.f n) (crashTo M left n).2)
def crashM (M : MD) (left : Nat) : MD := (crashTo M left 4).1
theorem crashTo_later (M : MD) (left : Nat) : ∀ n i, n ≤ i → (crashTo M left n).1.f i = M.f i := by
  intro n
  induction n with
  | zero => intro i _; rfl
  | succ n ih =>
    intro i hi
    unfold crashTo MD.set
    simp only
    rw [if_neg (by omega)]
    exact ih i (by omega)
theorem crashTo_room (M : MD) (left : Nat) : ∀ n, (crashTo M left n).1.room = M.room := by
  intro n
  induction n with
  | zero => rfl
  | succ n ih => exact ih
theorem crashTo_less (M : MD) (left : Nat) : ∀ n, (crashTo M left n).2 ≤ left := by
  intro n
  induction n with
  | zero => exact Nat.le_refl _
  | succ n ih => unfold crashTo; simp only; omega
theorem Works.refl {w : World} {d : Nat} {v : Nat → Value} {M : MD} (h : DiskAt w d v M) : Works d v M w w := ⟨v, h, ChgS.refl _ _, fun _ hk => .inl hk⟩
theorem Works.chain {d : Nat} {v v1 : Nat → Value} {M' : MD} {w w1 w2 : World} (c : ChgS (footD d v) w w1) (f : ∀ k, footD d v1 k → footD d v k ∨ w.heap.size ≤ k) (h : Works d v1 M' w1 w2) : Works d v M' w w2 := by
  obtain ⟨v2, hD, hc, hf⟩ := h
  refine ⟨v2, hD, ⟨hc.os.trans c.os, hc.tape.trans c.tape, hc.output.trans c.output, Nat.le_trans c.size hc.size, fun k hk hn => ?_⟩, fun k hk => ?_⟩
  · refine (hc.block k (Nat.lt_of_lt_of_le hk c.size) fun h1 => ?_).trans (c.block k hk hn)
    rcases f k h1 with h2 | h2
    · exact hn h2
    · omega
  · rcases hf k hk with h1 | h1
    · exact f k h1
    · exact .inr (Nat.le_trans c.size h1)
theorem Works.drewN {d : Nat} {v : Nat → Value} {M' : MD} {w w' : World} (h : Works d v M' w w') (m : Nat) : Works d v M' w (w'.drewN m) := by
  obtain ⟨v', hD, hc, hf⟩ := h
  exact ⟨v', hD.drewN m, hc.drewN m, hf⟩
theorem cut_full (b : ByteArray) (m : Nat) (h : m ≤ b.size) : (b.extract 0 m).size = m := by simp; omega
theorem step_safe {w w1 : World} {d : Nat} {v : Nat → Value} {M : MD} {n m s : Nat} {b : ByteArray} (hn : n < 4) (h : Works d v (M.set n ⟨b, s⟩) w w1) (hb : b.size = m) : Works d v (M.set n ⟨b, m⟩) w (w1.setCell ⟨d, n * 2 + 1, none⟩ (.int .i64 m)) := by
  obtain ⟨v1, hD, hc, hf⟩ := h
  have h2 := hD.setSafe n hn m
  rw [set_set] at h2
  have e : ((M.set n ⟨b, s⟩).f n).b = b := by simp [MD.set]
  rw [e] at h2
  exact ⟨v1, h2, hc.set (p := ⟨d, n * 2 + 1, none⟩) (.inl (.inl rfl)) _, hf⟩
def CrRel (d : Nat) (v : Nat → Value) (M : MD) (L : Nat) (w : World) (keep i : Value) (wr : World) : Prop :=
  ∃ k : Nat, k ≤ 4 ∧ i = .int .i64 k ∧ keep = .int .i64 (crashTo M L k).2 ∧ Works d v (crashTo M L k).1 w wr
theorem crash_step (M : MD) (L k : Nat) (K : Nat) (hK : K = keptOf (M.f k) (crashTo M L k).2) : crashTo M L (k + 1) = ((crashTo M L k).1.set k ⟨(M.f k).b.extract 0 ((M.f k).safe + K), (M.f k).safe + K⟩, (crashTo M L k).2 - K) := by
  subst hK; rfl
theorem nat_val {a : Int} {b : Nat} (h : a = b) : Value.int .i64 a = .int .i64 (b : Nat) := by rw [h]
set_option maxRecDepth 100000 in
set_option maxHeartbeats 3200000 in
theorem crash_any (d : Nat) (v : Nat → Value) (M : MD) (keep : Int) (w : World) (hD : DiskAt w d v M) (hok : M.Ok) (hk : wf64 keep) :
    Calls Tryd.prog 17 #[.pointer (some ⟨d, 0, none⟩), .int .i64 keep] w fun e w' => e = .returned (.tuple #[]) ∧ Works d v (crashM M keep.toNat) w w' := by
  have hmax : ∃ L : Nat, L = keep.toNat ∧ (L : Int) ≤ 9223372036854775807 := ⟨keep.toNat, rfl, by unfold wf64 at hk; omega⟩
  obtain ⟨L, hL, hL2⟩ := hmax
  rw [← hL]
  have hused : ∀ k, k < 4 → (M.f k).b.size ≤ 1048576 ∧ (M.f k).safe ≤ (M.f k).b.size := by
    obtain ⟨h1, h2, h3, h4⟩ := hok
    intro k hk4
    refine ⟨?_, h4 k hk4⟩
    have : k = 0 ∨ k = 1 ∨ k = 2 ∨ k = 3 := by omega
    unfold MD.used at h3
    rcases this with rfl | rfl | rfl | rfl <;> omega
  have HU := Lib.hid hused
  have start : CrRel d v M L w (.int .i64 L) (.int .i64 0) w := ⟨0, by omega, rfl, rfl, Works.refl hD⟩
  clear hused hok hD
  by_cases h0 : 0 ≤ keep
  case' pos => have hkL : keep = (L : Int) := by omega
  case' pos => subst hkL
  case' neg => have hL0 : Hid ((0 : Int) = (L : Int)) := by show _ = _; omega
  all_goals
    clear hL hk
    go_enter Tryd.func17, Tryd.ntmps17
    go_wp2_with fail
    go_loopw [1, 9] (CrRel d v M L w) (fun _ i _ => 4 - (intOf i).toNat)
    case atStart => first | exact start | (have st := start; rw [← hL0.out] at st; exact st)
    obtain ⟨k, hk, rfl, rfl, hW⟩ := hrel
    clear start
    by_cases hlt : k < 4
    · obtain ⟨vk, hDk, hck, hfk⟩ := hW
      obtain ⟨hs1, hs2⟩ := HU.out k hlt
      have hfM := crashTo_later M L k k (Nat.le_refl _)
      have hle := crashTo_less M L k
      have hst := crash_step M L k
      obtain ⟨⟨Mk, left⟩, hX⟩ : ∃ X, crashTo M L k = X := ⟨_, rfl⟩
      rw [hX] at hDk hfM hle hst ⊢
      simp only at hDk hfM hle hst ⊢
      obtain ⟨A, c, hv⟩ := hDk.slice k hlt
      have m0 := hDk.at_.cell (k * 2)
      rw [cellsD_row _ _ k hlt, hv] at m0
      have m1 := hDk.at_.cell (k * 2 + 1)
      rw [cellsD_safe _ _ k hlt] at m1
      have HDk := Lib.hid hDk
      have HCK := Lib.hid hck
      have HFK := Lib.hid hfk
      have HST := Lib.hid hst
      rw [hfM] at m0 m1
      have HFM := Lib.hid hfM
      obtain ⟨b, hb⟩ : ∃ b, (M.f k).b = b := ⟨_, rfl⟩
      obtain ⟨sf, hsf⟩ : ∃ b, (M.f k).safe = b := ⟨_, rfl⟩
      rw [hb, hsf] at hs2
      rw [hb] at hs1 m0
      rw [hsf] at m1
      have HB := Lib.hid hb
      have HSF := Lib.hid hsf
      obtain ⟨D, hD⟩ : ∃ D, D = b.size - sf := ⟨_, rfl⟩
      have HDD := Lib.hid hD
      have sw1 : IntKind.i64.wrap ((b.size : Int) - (sf : Int)) = (D : Int) := by rw [IntWalk.i64_in _ (by omega)]; omega
      have cutAny : ∀ (K : Nat) (q : Nat), sf + K ≤ b.size → Calls Tryd.prog 44 #[.pointer (some ⟨d, k * 2, none⟩), .int .i64 ((sf + K : Nat) : Int)] (wr.drewN q) fun e w' => e = .returned (.tuple #[]) ∧ Works d vk (Mk.set k ⟨b.extract 0 (sf + K), sf⟩) (wr.drewN q) w' := by
        intro K q hKb
        have := cut1_any d vk Mk k (sf + K) (wr.drewN q) hlt (HDk.out.drewN q) (by rw [HFM.out, HB.out]; exact hKb) (by rw [HFM.out, HB.out]; exact hs1) (by rw [HFM.out, HB.out, HSF.out]; exact hs2)
        rw [HFM.out, HB.out, HSF.out, Nat.min_eq_left (by omega)] at this
        exact this
      have finish : ∀ (K q : Nat) (w2 : World), K = keptOf (M.f k) left → sf + K ≤ b.size → Works d vk (Mk.set k ⟨b.extract 0 (sf + K), sf⟩) (wr.drewN q) w2 → Works d v (crashTo M L (k + 1)).1 w (w2.setCell ⟨d, k * 2 + 1, none⟩ (.int .i64 ((sf + K : Nat) : Int))) := by
        intro K q w2 hK hKb hw2
        rw [HST.out K hK, HB.out, HSF.out]
        exact Works.chain (HCK.out.drewN q) HFK.out (step_safe hlt hw2 (cut_full b (sf + K) hKb))
      have HC := Lib.hid cutAny
      have HF := Lib.hid finish
      clear hX hDk hfM hst hck hfk hb hsf hD cutAny finish
      by_cases hc : left ≤ D
      · have hKb : sf + left ≤ b.size := by have := HDD.out; omega
        have sw3 : IntKind.i64.wrap ((sf : Int) + (left : Int)) = ((sf + left : Nat) : Int) := by rw [IntWalk.i64_in _ (by omega)]; omega
        go_wp2_with fail
        go_quiet (fail)
        go_wp2_with fail
        have hKe : left = keptOf (M.f k) left := by unfold keptOf; rw [HB.out, HSF.out, ← HDD.out]; omega
        have hk2 : (crashTo M L (k + 1)).2 = left - left := by rw [HST.out left hKe]
        have HK2 := Lib.hid hk2
        have HKE := Lib.hid hKe
        clear hk2 hKe m0 m1
        refine (HC.out left _ hKb).mono ?_
        rintro e w2 ⟨rfl, hw2⟩
        have hfin := HF.out left _ w2 HKE.out hKb hw2
        obtain ⟨v2, hD2, hc2, hf2⟩ := hw2
        obtain ⟨A2, c2, hv2⟩ := hD2.slice k hlt
        have n0 := hD2.at_.cell (k * 2)
        rw [cellsD_row _ _ k hlt, hv2] at n0
        have he : ((Mk.set k ⟨b.extract 0 (sf + left), sf⟩).f k).b.size = sf + left := by
          have : ((Mk.set k ⟨b.extract 0 (sf + left), sf⟩).f k).b = b.extract 0 (sf + left) := by simp [MD.set]
          rw [this]; exact cut_full b _ hKb
        rw [he] at n0
        have n1 := hD2.at_.cell (k * 2 + 1)
        rw [cellsD_safe _ _ k hlt] at n1
        have f1 := hD2.at_.free (k * 2 + 1)
        have HFIN := Lib.hid hfin
        clear he hv2 hD2 hc2 hf2 hfin
        go_wp2_with fail
        go_roundw
        case rel => exact ⟨k + 1, by omega, by go_num, by rw [HK2.out]; try (first | rfl | go_num | exact nat_val (by omega)), HFIN.out⟩
        case measure => simp [intOf]; omega
      · have hKb : sf + D ≤ b.size := by have := HDD.out; omega
        have sw3 : IntKind.i64.wrap ((sf : Int) + (D : Int)) = ((sf + D : Nat) : Int) := by rw [IntWalk.i64_in _ (by omega)]; omega
        have sw2 : IntKind.i64.wrap ((left : Int) - (D : Int)) = ((left - D : Nat) : Int) := by rw [IntWalk.i64_in _ (by omega)]; omega
        go_wp2_with fail
        go_quiet (fail)
        go_wp2_with fail
        have hKe : D = keptOf (M.f k) left := by unfold keptOf; rw [HB.out, HSF.out, ← HDD.out]; omega
        have hk2 : (crashTo M L (k + 1)).2 = left - D := by rw [HST.out D hKe]
        have HK2 := Lib.hid hk2
        have HKE := Lib.hid hKe
        clear hk2 hKe m0 m1
        refine (HC.out D _ hKb).mono ?_
        rintro e w2 ⟨rfl, hw2⟩
        have hfin := HF.out D _ w2 HKE.out hKb hw2
        obtain ⟨v2, hD2, hc2, hf2⟩ := hw2
        obtain ⟨A2, c2, hv2⟩ := hD2.slice k hlt
        have n0 := hD2.at_.cell (k * 2)
        rw [cellsD_row _ _ k hlt, hv2] at n0
        have he : ((Mk.set k ⟨b.extract 0 (sf + D), sf⟩).f k).b.size = sf + D := by
          have : ((Mk.set k ⟨b.extract 0 (sf + D), sf⟩).f k).b = b.extract 0 (sf + D) := by simp [MD.set]
          rw [this]; exact cut_full b _ hKb
        rw [he] at n0
        have n1 := hD2.at_.cell (k * 2 + 1)
        rw [cellsD_safe _ _ k hlt] at n1
        have f1 := hD2.at_.free (k * 2 + 1)
        have HFIN := Lib.hid hfin
        clear he hv2 hD2 hc2 hf2 hfin
        go_wp2_with fail
        go_roundw
        case rel => exact ⟨k + 1, by omega, by go_num, by rw [HK2.out]; try (first | rfl | go_num | exact nat_val (by omega)), HFIN.out⟩
        case measure => simp [intOf]; omega
    · have hk4 : k = 4 := by omega
      subst hk4
      go_wp2_with fail
      go_end0
      exact ⟨rfl, hW⟩
end Go.Proofs.YtjlpgjfgeikdeaaDoor
end

section
/- A disk as a piece of memory. -/
set_option linter.unusedVariables false
set_option linter.unusedSimpArgs false
set_option linter.unnecessarySimpa false
set_option maxRecDepth 100000
namespace Go.Proofs.YtjlpgjfgeikdeaaDoor
open Go.RowKit Go.ChangeShapes Go.WideShapes Go.ChangeAt
/-- a disk whose files' rows are v: its blocks are this piece's -/
def DiskV (d : Nat) (v : Nat → Value) (M : MD) : HP := fun h => (∀ k, footD d v k → h k ≠ none) ∧ ∀ w : World, h.le (hp w) → DiskAt w d v M
section
variable {w0 w w' : World} {L : List HP} {d : Nat} {v : Nat → Value} {M M' : MD}
theorem Sat.disk (h : Sat w0 w (DiskV d v M :: L)) : DiskAt w d v M := by
  obtain ⟨h1, _, l1, _, _, ⟨_, a⟩, _⟩ := h.own
  exact a w l1
open Classical in
/-- the part of a memory that a disk owns -/
noncomputable def partD (w : World) (d : Nat) (v : Nat → Value) : Hp := fun k => if footD d v k then w.heap[k]? else none
theorem partD_le (w : World) (d : Nat) (v : Nat → Value) : (partD w d v).le (hp w) := fun k o hk => by
  unfold partD at hk
  split at hk
  · exact hk
  · cases hk
theorem DiskAt.piece (h : DiskAt w d v M) : DiskV d v M (partD w d v) := by
  have in_ : ∀ k, footD d v k → partD w d v k = w.heap[k]? := fun k hk => by unfold partD; rw [if_pos hk]
  refine ⟨fun k hk => ?_, fun w' hle => ?_⟩
  · rw [in_ k hk, Array.getElem?_eq_getElem (h.lt k hk)]; simp
  · have keep : ∀ k, footD d v k → w'.heap[k]? = w.heap[k]? := fun k hk => by
      have := h.lt k hk
      rw [Array.getElem?_eq_getElem this]
      exact hle k _ (by rw [in_ k hk, Array.getElem?_eq_getElem this])
    exact ⟨(keep d (.inl rfl)).trans h.at_, fun i hi => (h.row i hi).kept fun k hk => keep k (.inr ⟨i, hi, hk⟩), h.off, h.two⟩
/-- behind a call that changes the disk alone -/
theorem Sat.works (h : Sat w0 w (DiskV d v M :: L)) (hw : Works d v M' w w') : ∃ v', Sat w0 w' (DiskV d v' M' :: L) := by
  obtain ⟨v', hD, hc, hf⟩ := hw
  obtain ⟨h1, h2, l1, l2, dj, ⟨cov, _⟩, s⟩ := h.own
  have none2 : ∀ k, footD d v k → h2 k = none := fun k hk => (dj k).resolve_left (cov k hk)
  refine ⟨v', hc.os.trans h.os, hc.tape.trans h.tape, hc.output.trans h.output, Nat.le_trans h.size hc.size, partD w' d v', h2, partD_le _ _ _, fun k o hk => ?_, fun k => ?_, hD.piece, s⟩
  · have hk2 := l2 k o hk
    exact (hc.block k (Array.getElem?_eq_some_iff.1 hk2).1 fun hfo => by rw [none2 k hfo] at hk; cases hk).trans hk2
  · by_cases hk : footD d v' k
    · right
      rcases hf k hk with h3 | h3
      · exact none2 k h3
      · cases he : h2 k with
        | none => rfl
        | some o =>
          have := (Array.getElem?_eq_some_iff.1 (l2 k o he)).1
          omega
    · left
      unfold partD
      rw [if_neg hk]
/-- a disk that a call has made -/
theorem Sat.diskNew (h : Sat w0 w L) (hb : Below w.heap.size w w') (hD : DiskAt w' d v M) (hf : ∀ k, footD d v k → w.heap.size ≤ k) : Sat w0 w' (DiskV d v M :: L) := by
  have far := h.below hb
  refine ⟨far.os, far.tape, far.output, far.size, partD w' d v, hp w, partD_le _ _ _, fun k o hk => ?_, fun k => ?_, hD.piece, h.own⟩
  · exact (hb.block k (Array.getElem?_eq_some_iff.1 hk).1).trans hk
  · by_cases hk : footD d v k
    · exact .inr (Array.getElem?_eq_none (hf k hk))
    · left
      unfold partD
      rw [if_neg hk]
end
end Go.Proofs.YtjlpgjfgeikdeaaDoor
end

section
/- The calls on a disk, whatever they are handed: what they answer and what they leave. -/
set_option linter.unusedVariables false
set_option linter.unusedSimpArgs false
set_option linter.unnecessarySimpa false
set_option maxRecDepth 100000
namespace Go.Proofs.YtjlpgjfgeikdeaaDoor
open Go.RowKit Go.ChangeShapes Go.WideShapes Go.ChangeAt
def appR (M : MD) (n : Int) (s : ByteArray) : MD × Int :=
  if isB n = true then (if (s.size : Int) ≤ M.room - M.used then (M.set n.toNat ⟨(M.f n.toNat).b ++ s, (M.f n.toNat).safe⟩, 0) else (M, 41)) else (M, 40)
def syncR (M : MD) (n : Int) : MD × Int := if isB n = true then (M.set n.toNat ⟨(M.f n.toNat).b, (M.f n.toNat).b.size⟩, 0) else (M, 40)
def cutR (M : MD) (n z : Int) : MD × Int :=
  if isB n = true then (if 0 ≤ z ∧ z ≤ (M.f n.toNat).b.size then (M.set n.toNat ⟨(M.f n.toNat).b.extract 0 z.toNat, min (M.f n.toNat).safe z.toNat⟩, 0) else (M, 1)) else (M, 40)
theorem used_set (M : MD) (n : Nat) (x : MF) (h : n < 4) : (M.set n x).used + (M.f n).b.size = M.used + x.b.size := by
  have : n = 0 ∨ n = 1 ∨ n = 2 ∨ n = 3 := by omega
  unfold MD.used MD.set
  rcases this with rfl | rfl | rfl | rfl <;> simp <;> omega
theorem ok_set {M : MD} {n : Nat} {x : MF} (h : M.Ok) (hn : n < 4) (hu : (x.b.size : Int) ≤ (M.f n).b.size + (M.room - M.used)) (hs : x.safe ≤ x.b.size) : (M.set n x).Ok := by
  obtain ⟨h1, h2, h3, h4⟩ := h
  have := used_set M n x hn
  refine ⟨h1, h2, ?_, fun i hi => ?_⟩
  · show ((M.set n x).used : Int) ≤ M.room
    omega
  · show (if i = n then x else M.f i).safe ≤ (if i = n then x else M.f i).b.size
    split
    · exact hs
    · exact h4 i hi
theorem ok_size {M : MD} (h : M.Ok) (k : Nat) (hk : k < 4) : (M.f k).b.size ≤ 1048576 ∧ (M.f k).safe ≤ (M.f k).b.size := by
  obtain ⟨h1, h2, h3, h4⟩ := h
  refine ⟨?_, h4 k hk⟩
  have : k = 0 ∨ k = 1 ∨ k = 2 ∨ k = 3 := by omega
  unfold MD.used at h3
  rcases this with rfl | rfl | rfl | rfl <;> omega
theorem isB_lt {n : Int} (h : isB n = true) : n.toNat < 4 ∧ ((n.toNat : Nat) : Int) = n := by
  obtain ⟨m, hm, rfl⟩ := isB_nat h
  exact ⟨hm, rfl⟩
theorem app_ok {M : MD} (h : M.Ok) (n : Int) (s : ByteArray) : (appR M n s).1.Ok := by
  unfold appR
  split
  · rename_i hb
    split
    · rename_i hf
      refine ok_set h (isB_lt hb).1 ?_ ?_
      · simp only [ByteArray.size_append]; omega
      · have := (ok_size h _ (isB_lt hb).1).2
        simp only [ByteArray.size_append]; omega
    · exact h
  · exact h
theorem sync_ok {M : MD} (h : M.Ok) (n : Int) : (syncR M n).1.Ok := by
  unfold syncR
  split
  · rename_i hb
    refine ok_set h (isB_lt hb).1 ?_ (Nat.le_refl _)
    obtain ⟨_, _, h3, _⟩ := h
    simp only; omega
  · exact h
theorem cut_ok {M : MD} (h : M.Ok) (n z : Int) : (cutR M n z).1.Ok := by
  unfold cutR
  split
  · rename_i hb
    split
    · rename_i hz
      refine ok_set h (isB_lt hb).1 ?_ ?_
      · obtain ⟨_, _, h3, _⟩ := h
        simp only [ByteArray.size_extract]; omega
      · simp only [ByteArray.size_extract]; omega
    · exact h
  · exact h
section
variable {w0 w : World} {F : List HP} {d : Nat} {v : Nat → Value} {M : MD}
theorem app_sat (hS : Sat w0 w (DiskV d v M :: F)) (hok : M.Ok) (n : Int) (s : ByteArray) (hs : s.size ≤ 9223372036854775807) :
    Calls Tryd.prog 30 #[.pointer (some ⟨d, 0, none⟩), .int .i64 n, .string s] w fun e w' => e = .returned (.int .i64 (appR M n s).2) ∧ ∃ v', Sat w0 w' (DiskV d v' (appR M n s).1 :: F) := by
  unfold appR
  by_cases hb : isB n = true
  · obtain ⟨m, hm, rfl⟩ := isB_nat hb
    rw [if_pos hb, Int.toNat_natCast]
    by_cases hf : (s.size : Int) ≤ M.room - M.used
    · rw [if_pos hf]
      refine (append_fits d v M m s w hm hS.disk hok hs hf).mono ?_
      rintro e w' ⟨rfl, hw⟩
      exact ⟨rfl, hS.works hw⟩
    · rw [if_neg hf]
      refine (append_full d v M m s w hm hS.disk hok hs hf).mono ?_
      rintro e w' ⟨rfl, hw⟩
      exact ⟨rfl, hS.works hw⟩
  · rw [if_neg hb]
    refine (append_none d n s w (by simpa using hb)).mono ?_
    rintro e w' ⟨rfl, rfl⟩
    exact ⟨rfl, v, hS⟩
theorem sync_sat (hS : Sat w0 w (DiskV d v M :: F)) (n : Int) :
    Calls Tryd.prog 31 #[.pointer (some ⟨d, 0, none⟩), .int .i64 n] w fun e w' => e = .returned (.int .i64 (syncR M n).2) ∧ ∃ v', Sat w0 w' (DiskV d v' (syncR M n).1 :: F) := by
  unfold syncR
  by_cases hb : isB n = true
  · obtain ⟨m, hm, rfl⟩ := isB_nat hb
    rw [if_pos hb, Int.toNat_natCast]
    refine (sync_any d v M m w hm hS.disk).mono ?_
    rintro e w' ⟨rfl, hD, hc⟩
    exact ⟨rfl, hS.works (Works.of hD (hc.mono fun k hk => .inl (.inl hk)))⟩
  · rw [if_neg hb]
    refine (sync_none d n w (by simpa using hb)).mono ?_
    rintro e w' ⟨rfl, rfl⟩
    exact ⟨rfl, v, hS⟩
theorem cut_sat (hS : Sat w0 w (DiskV d v M :: F)) (hok : M.Ok) (n z : Int) :
    Calls Tryd.prog 42 #[.pointer (some ⟨d, 0, none⟩), .int .i64 n, .int .i64 z] w fun e w' => e = .returned (.int .i64 (cutR M n z).2) ∧ ∃ v', Sat w0 w' (DiskV d v' (cutR M n z).1 :: F) := by
  unfold cutR
  by_cases hb : isB n = true
  · obtain ⟨m, hm, rfl⟩ := isB_nat hb
    obtain ⟨h1, h2⟩ := ok_size hok m hm
    rw [if_pos hb, Int.toNat_natCast]
    by_cases hz : 0 ≤ z ∧ z ≤ (M.f m).b.size
    · rw [if_pos hz]
      obtain ⟨y, rfl⟩ : ∃ y : Nat, z = (y : Int) := ⟨z.toNat, by omega⟩
      rw [Int.toNat_natCast]
      refine (cut_any d v M m y w hm hS.disk (by omega) h1 h2).mono ?_
      rintro e w' ⟨rfl, hw⟩
      exact ⟨rfl, hS.works hw⟩
    · rw [if_neg hz]
      refine (cut_bad d v M m z w hm hS.disk h1 hz).mono ?_
      rintro e w' ⟨rfl, rfl⟩
      exact ⟨rfl, v, hS⟩
  · rw [if_neg hb]
    refine (cut_none d n z w (by simpa using hb)).mono ?_
    rintro e w' ⟨rfl, rfl⟩
    exact ⟨rfl, v, hS⟩
theorem crash_sat (hS : Sat w0 w (DiskV d v M :: F)) (hok : M.Ok) (keep : Int) (hk : wf64 keep) :
    Calls Tryd.prog 17 #[.pointer (some ⟨d, 0, none⟩), .int .i64 keep] w fun e w' => e = .returned (.tuple #[]) ∧ ∃ v', Sat w0 w' (DiskV d v' (crashM M keep.toNat) :: F) := by
  refine (crash_any d v M keep w hS.disk hok hk).mono ?_
  rintro e w' ⟨rfl, hw⟩
  exact ⟨rfl, hS.works hw⟩
end
end Go.Proofs.YtjlpgjfgeikdeaaDoor
end

section
/- pick; a crash keeps a disk in order. -/
set_option linter.unusedVariables false
set_option linter.unusedSimpArgs false
set_option linter.unnecessarySimpa false
set_option maxRecDepth 100000
namespace Go.Proofs.YtjlpgjfgeikdeaaDoor
open Go.RowKit Go.ChangeShapes Go.WideShapes Go.ChangeAt
def pickN (c : Int) (n : Nat) : Nat := (if c < 0 then -(c + 1) else c).toNat % n
theorem pickN_lt (c : Int) (n : Nat) (h : 0 < n) : pickN c n < n := Nat.mod_lt _ h
theorem pick_any (c : Int) (n : Nat) (w : World) (hc : wf64 c) (hn : 0 < n) (hn2 : n ≤ 1048576) : Calls Tryd.prog 23 #[.int .i64 c, .int .i64 n] w fun e w' => e = .returned (.int .i64 (pickN c n : Nat)) ∧ w' = w := by
  unfold wf64 at hc
  have t0 : ((n : Int) == 0) = false := by rw [beq_eq_false_iff_ne]; omega
  have t1 : ¬ (n : Int) = 0 := by omega
  by_cases h : c < 0
  · obtain ⟨m, hm⟩ : ∃ m : Nat, -(c + 1) = (m : Int) := ⟨(-(c + 1)).toNat, by omega⟩
    have HX : Hid (pickN c n = m % n) := by show _ = _; unfold pickN; rw [if_pos h, hm, Int.toNat_natCast]
    have sw1 : IntKind.i64.wrap (c + 1) = c + 1 := IntWalk.i64_in _ (by omega)
    have sw2 : IntKind.i64.wrap (-(c + 1)) = (m : Int) := by rw [IntWalk.i64_in _ (by omega)]; exact hm
    have t2 : decide (c < 0) = true := decide_eq_true h
    go_enter Tryd.func23, Tryd.ntmps23
    go_wp2
    go_ret
    exact ⟨by rw [HX.out]; first | rfl | exact congrArg (fun x => Ending.returned (Value.int .i64 x)) (by omega), rfl⟩
  · obtain ⟨m, rfl⟩ : ∃ m : Nat, c = (m : Int) := ⟨c.toNat, by omega⟩
    have HX : Hid (pickN (m : Int) n = m % n) := by show _ = _; unfold pickN; rw [if_neg h, Int.toNat_natCast]
    have t2 : decide ((m : Int) < 0) = false := decide_eq_false h
    go_enter Tryd.func23, Tryd.ntmps23
    go_wp2
    go_ret
    exact ⟨by rw [HX.out]; first | rfl | exact congrArg (fun x => Ending.returned (Value.int .i64 x)) (by omega), rfl⟩
theorem crashTo_ok {M : MD} (h : M.Ok) (L : Nat) : ∀ n, n ≤ 4 → (crashTo M L n).1.Ok := by
  intro n
  induction n with
  | zero => intro _; exact h
  | succ n ih =>
    intro hn
    have h1 := ih (by omega)
    obtain ⟨s1, s2⟩ := ok_size h n (by omega)
    have e : (crashTo M L n).1.f n = M.f n := crashTo_later M L n n (Nat.le_refl _)
    have hk : keptOf (M.f n) (crashTo M L n).2 ≤ (M.f n).b.size - (M.f n).safe := by unfold keptOf; omega
    refine ok_set h1 (by omega) ?_ ?_
    · rw [e]
      obtain ⟨_, _, h3, _⟩ := h1
      simp only [crashF, ByteArray.size_extract]
      omega
    · simp only [crashF, ByteArray.size_extract]
      omega
theorem crash_ok {M : MD} (h : M.Ok) (L : Nat) : (crashM M L).Ok := crashTo_ok h L 4 (Nat.le_refl _)
theorem set_f (M : MD) (n i : Nat) (x : MF) : (M.set n x).f i = if i = n then x else M.f i := rfl
theorem str_yes (a : ByteArray) : (a.toList == a.toList) = true := by simp
theorem str_same (a b : ByteArray) (h : a = b) : (a.toList != b.toList) = false := by subst h; simp
theorem ex_all (b : ByteArray) : b.extract 0 b.size = b := by
  apply ByteArray.ext
  apply Array.toList_inj.1
  simp only [ByteArray.data_extract, Array.toList_extract, List.extract_eq_take_drop, List.drop_zero, Nat.sub_zero]
  exact List.take_of_length_le (by show b.data.toList.length ≤ b.data.size; simp)
theorem ex_append (b x : ByteArray) (n : Nat) (h : n ≤ b.size) : (b ++ x).extract 0 n = b.extract 0 n := by
  apply ByteArray.ext
  have h' : n ≤ b.data.size := h
  apply Array.toList_inj.1
  simp only [ByteArray.data_extract, ByteArray.data_append, Array.toList_extract, Array.toList_append, List.extract_eq_take_drop, List.drop_zero, Nat.sub_zero]
  rw [List.take_append_of_le_length (by simpa using h')]
theorem ex_ex (b : ByteArray) (n m : Nat) (h : n ≤ m) : (b.extract 0 m).extract 0 n = b.extract 0 n := by
  apply ByteArray.ext
  apply Array.toList_inj.1
  simp only [ByteArray.data_extract, Array.toList_extract, List.extract_eq_take_drop, List.drop_zero, Nat.sub_zero]
  rw [List.take_take, Nat.min_eq_left h]
end Go.Proofs.YtjlpgjfgeikdeaaDoor
end

section
/- A region that draws its order, walked once, in the order of the text: whatever its operations and callees leave of memory is one class of worlds, told by the pieces that stand in it. -/
set_option linter.unusedVariables false
set_option linter.unusedSimpArgs false
set_option linter.unnecessarySimpa false
set_option maxRecDepth 100000
namespace Go.Proofs.YtjlpgjfgeikdeaaDoor
open Go.RowKit Go.ChangeShapes Go.WideShapes Go.ChangeAt
/-- a world in which these pieces stand -/
structure In (w0 : World) (L : List HP) where
  w : World
  ok : Sat w0 w L
theorem wp_region_in {P : Program} {id : Nat} {Q : Exit → Act → World → Prop} {a : Act} {w w0 : World} {l : List Oper} {L : List HP} (hS : Sat w0 w L) (hm : P.follows .mixedOrders = true) (hB : Region.lexB .any l.toArray = true)
    (h : wpQuiet P l.toArray (fun w' => ∃ x : In w0 L, w' = x.w) (fun a' => ∀ w', (∃ x : In w0 L, w' = x.w) → Q .normal a' w') l a) : (Code.region id l.toArray true).wp P Q a w :=
  wp_region_quiet (C := fun w' => ∃ x : In w0 L, w' = x.w) hm hB ⟨⟨_, hS.drew⟩, rfl⟩ (by simpa using h)
/-- a callee's contract, in a world of the class -/
theorem Calls.in_ {P : Program} {f : FuncId} {args : Array Value} {w0 : World} {L : List HP} {x : In w0 L} {v : Value} (h : Calls P f args x.w fun e w' => e = .returned v ∧ Sat w0 w' L) :
    Calls P f args x.w fun e w' => e = .returned v ∧ ∃ y : In w0 L, w' = y.w := h.mono fun _ _ ⟨he, hs⟩ => ⟨he, ⟨_, hs⟩, rfl⟩
theorem Calls.in_same {P : Program} {f : FuncId} {args : Array Value} {w0 : World} {L : List HP} {x : In w0 L} {v : Value} (h : Calls P f args x.w fun e w' => e = .returned v ∧ w' = x.w) :
    Calls P f args x.w fun e w' => e = .returned v ∧ ∃ y : In w0 L, w' = y.w := h.mono fun _ _ ⟨he, hs⟩ => ⟨he, x, hs⟩
theorem Calls.in_drewN {P : Program} {f : FuncId} {args : Array Value} {w0 : World} {L : List HP} {x : In w0 L} {v : Value} (h : Calls P f args x.w fun e w' => e = .returned v ∧ ∃ m, w' = x.w.drewN m) :
    Calls P f args x.w fun e w' => e = .returned v ∧ ∃ y : In w0 L, w' = y.w := h.mono fun _ _ ⟨he, m, hs⟩ => ⟨he, ⟨_, x.ok.drewN m⟩, hs⟩
theorem Calls.in_below {P : Program} {f : FuncId} {args : Array Value} {w0 : World} {L : List HP} {x : In w0 L} {v : Value} (h : Calls P f args x.w fun e w' => e = .returned v ∧ Below x.w.heap.size x.w w') :
    Calls P f args x.w fun e w' => e = .returned v ∧ ∃ y : In w0 L, w' = y.w := h.mono fun _ _ ⟨he, hb⟩ => ⟨he, ⟨_, x.ok.below hb⟩, rfl⟩
end Go.Proofs.YtjlpgjfgeikdeaaDoor
end

section
/- The law DiskRoom: the walk. -/
set_option linter.unusedVariables false
set_option linter.unusedSimpArgs false
set_option linter.unnecessarySimpa false
set_option maxRecDepth 100000
namespace Go.Proofs.YtjlpgjfgeikdeaaDoor
open Go.RowKit Go.ChangeShapes Go.WideShapes Go.ChangeAt
theorem app_room (M : MD) (n : Int) (s : ByteArray) : (appR M n s).1.room = M.room := by
  unfold appR
  split
  · split <;> rfl
  · rfl
theorem sync_room (M : MD) (n : Int) : (syncR M n).1.room = M.room := by
  unfold syncR
  split <;> rfl
theorem cut_room (M : MD) (n z : Int) : (cutR M n z).1.room = M.room := by
  unfold cutR
  split
  · split <;> rfl
  · rfl
section
variable {w0 w : World} {F : List HP} {d : Nat} {v : Nat → Value} {M : MD}
theorem used_sat (hS : Sat w0 w (DiskV d v M :: F)) (hok : M.Ok) : Calls Tryd.prog 21 #[.pointer (some ⟨d, 0, none⟩)] w fun e w' => e = .returned (.int .i64 M.used) ∧ Sat w0 w' (DiskV d v M :: F) := by
  refine (used_any d v M w hS.disk (by obtain ⟨_, h2, h3, _⟩ := hok; omega)).mono ?_
  rintro e w' ⟨rfl, hb⟩
  exact ⟨rfl, hS.below hb⟩
end
theorem size_used (M : MD) (f : Nat) (h : f < 4) : (M.f f).b.size ≤ M.used := by
  have : f = 0 ∨ f = 1 ∨ f = 2 ∨ f = 3 := by omega
  unfold MD.used
  rcases this with rfl | rfl | rfl | rfl <;> omega
theorem str_neq {a b : ByteArray} (h : a = b) : (a.toList == b.toList) = true := by subst h; exact str_yes a
end Go.Proofs.YtjlpgjfgeikdeaaDoor
end

section
/- The document's disk: cut off, crashed, copied. -/
set_option linter.unusedVariables false
set_option linter.unusedSimpArgs false
set_option linter.unnecessarySimpa false
set_option maxRecDepth 100000
namespace Go.Proofs.YtjlpgjfgeikdeaaDoor
open Go.RowKit Go.ChangeShapes Go.WideShapes Go.ChangeAt
set_option maxRecDepth 100000 in
theorem rappend_full (r : Nat) (M : MD) (n : Nat) (s : ByteArray) (w : World) (hn : n < 4) (hR : At w r 83 (cellsR M)) (hok : M.Ok) (hs : s.size ≤ 9223372036854775807) (hfit : ¬ (s.size : Int) ≤ M.room - M.used) :
    Calls Tryd.prog 32 #[.pointer (some ⟨r, 0, none⟩), .int .i64 n, .string s] w fun e w' => e = .returned (.int .i64 41) ∧ ∃ m, w' = w.drewN m := by
  obtain ⟨hr1, hr2, hr3, _⟩ := hok
  have HR := Lib.hid hR
  have hu : M.used ≤ 1048576 := by omega
  have m8 : w.cell? ⟨r, 8, none⟩ = some (.int .i64 M.room) := hR.cell 8
  have t : decide (M.room - (M.used : Int) < (s.size : Int)) = true := decide_eq_true (by omega)
  have sw : IntKind.i64.wrap (M.room - (M.used : Int)) = M.room - M.used := IntWalk.i64_in _ (by omega)
  have HI := Lib.hid (isB_of n hn)
  clear hR
  go_enter Tryd.func32, Tryd.ntmps32
  go_wp2_with fail
  refine (is_any n _).mono ?_
  rintro e w1 ⟨rfl, rfl⟩
  rw [HI.out]
  go_wp2_with fail
  go_quiet ((go_at_call 53; exact Calls.quiet_of (rused_any r M _ (HR.out.drewN _) hu)))
  go_wp2_with fail
  go_ret
  exact ⟨rfl, _, rfl⟩
theorem rappend_none (r : Nat) (n : Int) (s : ByteArray) (w : World) (hn : isB n = false) :
    Calls Tryd.prog 32 #[.pointer (some ⟨r, 0, none⟩), .int .i64 n, .string s] w fun e w' => e = .returned (.int .i64 40) ∧ w' = w := by
  have HI := Lib.hid hn
  clear hn
  go_enter Tryd.func32, Tryd.ntmps32
  go_wp2_with fail
  refine (is_any n _).mono ?_
  rintro e w1 ⟨rfl, rfl⟩
  rw [HI.out]
  go_wp2_with fail
  go_ret
  exact ⟨rfl, rfl⟩
theorem rcut_none (r : Nat) (n z : Int) (w : World) (hn : isB n = false) :
    Calls Tryd.prog 60 #[.pointer (some ⟨r, 0, none⟩), .int .i64 n, .int .i64 z] w fun e w' => e = .returned (.int .i64 40) ∧ w' = w := by
  have HI := Lib.hid hn
  clear hn
  go_enter Tryd.func60, Tryd.ntmps60
  go_wp2_with fail
  refine (is_any n _).mono ?_
  rintro e w1 ⟨rfl, rfl⟩
  rw [HI.out]
  go_wp2_with fail
  go_ret
  exact ⟨rfl, rfl⟩
theorem rcut_bad (r : Nat) (M : MD) (n : Nat) (z : Int) (w : World) (hn : n < 4) (hR : At w r 83 (cellsR M)) (hz : ¬ (0 ≤ z ∧ z ≤ (M.f n).b.size)) :
    Calls Tryd.prog 60 #[.pointer (some ⟨r, 0, none⟩), .int .i64 n, .int .i64 z] w fun e w' => e = .returned (.int .i64 1) ∧ w' = w := by
  have m0 := hR.cell (n * 2)
  rw [cellsR_row M n hn] at m0
  have HI := Lib.hid (isB_of n hn)
  clear hR
  obtain ⟨b, hb⟩ : ∃ b, (M.f n).b = b := ⟨_, rfl⟩
  rw [hb] at hz m0
  clear hb
  by_cases h0 : z < 0
  · have t0 : decide (z < 0) = true := decide_eq_true h0
    clear h0
    go_enter Tryd.func60, Tryd.ntmps60
    go_wp2_with fail
    refine (is_any n _).mono ?_
    rintro e w1 ⟨rfl, rfl⟩
    rw [HI.out]
    go_wp2_with fail
    go_ret
    exact ⟨rfl, rfl⟩
  · have t0 : decide (z < 0) = false := decide_eq_false h0
    have t1 : decide ((b.size : Int) < z) = true := decide_eq_true (by omega)
    have t2 : decide (z > (b.size : Int)) = true := decide_eq_true (by omega)
    clear h0 hz
    go_enter Tryd.func60, Tryd.ntmps60
    go_wp2_with fail
    refine (is_any n _).mono ?_
    rintro e w1 ⟨rfl, rfl⟩
    rw [HI.out]
    go_wp2_with fail
    go_ret
    exact ⟨rfl, rfl⟩
set_option maxRecDepth 100000 in
set_option maxHeartbeats 800000 in
theorem rcut_ok (r : Nat) (M : MD) (n y : Nat) (w : World) (hn : n < 4) (hR : At w r 83 (cellsR M)) (hm : y ≤ (M.f n).b.size) (hs : (M.f n).b.size ≤ 1048576) (hsf : (M.f n).safe ≤ (M.f n).b.size) :
    Calls Tryd.prog 60 #[.pointer (some ⟨r, 0, none⟩), .int .i64 n, .int .i64 y] w fun e w' => e = .returned (.int .i64 0) ∧ At w' r 83 (cellsR (M.set n ⟨(M.f n).b.extract 0 y, min (M.f n).safe y⟩)) ∧ Chg r w w' := by
  have m0 := hR.cell (n * 2)
  have m1 := hR.cell (n * 2 + 1)
  have f0 := hR.free (n * 2)
  have f1 := hR.free (n * 2 + 1)
  rw [cellsR_row M n hn] at m0
  rw [cellsR_safe M n hn] at m1
  have HI := Lib.hid (isB_of n hn)
  have HS := Lib.hid (cellsR_set_row M n hn ((M.f n).b.extract 0 y) ▸ hR.set (n * 2) (.string ((M.f n).b.extract 0 y)))
  have HS2 := Lib.hid (cellsR_set_safe (M.set n ⟨(M.f n).b.extract 0 y, (M.f n).safe⟩) n hn (min (M.f n).safe y) ▸ HS.out.set (n * 2 + 1) (.int .i64 (min (M.f n).safe y : Nat)))
  have HMM : Hid ((M.set n ⟨(M.f n).b.extract 0 y, (M.f n).safe⟩).set n ⟨((M.set n ⟨(M.f n).b.extract 0 y, (M.f n).safe⟩).f n).b, min (M.f n).safe y⟩ = M.set n ⟨(M.f n).b.extract 0 y, min (M.f n).safe y⟩) := by
    show _ = _
    rw [set_set]
    simp [MD.set]
  rw [HMM.out] at HS2
  have k1 := (HS.out.cell (n * 2 + 1))
  rw [cellsR_safe _ n hn] at k1
  simp only [set_f, if_true] at k1
  have k2 := (HS.out.free (n * 2 + 1))
  clear hR
  have HP : Hid (∀ w', At w' r 83 (cellsR (M.set n ⟨(M.f n).b.extract 0 y, min (M.f n).safe y⟩)) → At w' r 83 (cellsR (M.set n ⟨(M.f n).b.extract 0 y, min (M.f n).safe y⟩))) := fun _ h => h
  obtain ⟨X, hX⟩ : ∃ X, M.set n ⟨(M.f n).b.extract 0 y, min (M.f n).safe y⟩ = X := ⟨_, rfl⟩
  rw [hX] at HS2 ⊢
  clear hX HP HMM HS
  obtain ⟨⟨b, sf⟩, hb⟩ : ∃ b, M.f n = b := ⟨_, rfl⟩
  rw [hb] at m0 m1 k1 k2 HS2 hm hs hsf
  simp only at m0 m1 k1 k2 HS2 hm hs hsf
  clear hb
  have t0 : decide ((y : Int) < 0) = false := by simp
  have t1 : decide (b.size < y) = false := by simp; omega
  have t2 : decide (y > b.size) = false := by simp; omega
  by_cases h : y < sf
  · rw [Nat.min_eq_right (by omega)] at HS2
    go_enter Tryd.func60, Tryd.ntmps60
    go_wp2_with fail
    refine (is_any n _).mono ?_
    rintro e w1 ⟨rfl, rfl⟩
    rw [HI.out]
    go_wp2_with fail
    go_region
    all_goals
      go_wp2_with fail
      go_region
      all_goals
        go_wp2_with fail
        go_ret
        exact ⟨rfl, HS2.out.drewN 2, (((Chg.refl _ _).set _ _).drew.set _ _).drew⟩
  · rw [Nat.min_eq_left (by omega)] at HS2
    go_enter Tryd.func60, Tryd.ntmps60
    go_wp2_with fail
    refine (is_any n _).mono ?_
    rintro e w1 ⟨rfl, rfl⟩
    rw [HI.out]
    go_wp2_with fail
    go_region
    all_goals
      go_wp2_with fail
      go_region
      all_goals
        go_wp2_with fail
        go_ret
        exact ⟨rfl, HS2.out.drewN 2, (((Chg.refl _ _).set _ _).drew.set _ _).drew⟩
end Go.Proofs.YtjlpgjfgeikdeaaDoor
end

section
/- Copy of the program's disk. -/
set_option linter.unusedVariables false
set_option linter.unusedSimpArgs false
set_option linter.unnecessarySimpa false
set_option maxRecDepth 100000
namespace Go.Proofs.YtjlpgjfgeikdeaaDoor
open Go.RowKit Go.ChangeShapes Go.WideShapes Go.ChangeAt Go.Lib
def zeros8 (n : Nat) : Array Value := madeCells (Value.cells (.int .u8 0)) (n * 1)
theorem make8 (W : World) (n : Nat) (h : n ≤ 1048576) : (Instr.makeSlice 95 (.int .i64 (n : Int)) (.int .i64 (n : Int))).run Tryd.prog W = .ok (.slice (some ⟨W.heap.size, 0, none⟩) n n) (W.alloc (.cells (zeros8 n) 5)) := by
  obtain ⟨i0, hi, hz0, hz1, hz2⟩ := info_parts info5
  have := run_make (P := Tryd.prog) W 95 5 i0 (.int .u8 0) Tryd.underlying95 hi hz0 .i64 .i64 n n (by omega) (by omega) (by rw [hz2]; omega) (by omega)
  rw [hz1] at this
  exact this
/-- a disk of which the first k files stand -/
def partM (M : MD) (k : Nat) : MD := ⟨fun i => if i < k then M.f i else ⟨⟨#[]⟩, 0⟩, M.room⟩
theorem part_next (M : MD) (k : Nat) : (partM M k).set k (M.f k) = partM M (k + 1) := by
  unfold partM MD.set
  simp only [MD.mk.injEq, and_true]
  funext i
  by_cases h : i = k
  · subst h; simp
  · by_cases h2 : i < k
    · simp [h, h2, Nat.lt_succ_of_lt h2]
    · simp [h, h2, show ¬ i < k + 1 by omega]
theorem cellsD_part (M : MD) (v : Nat → Value) : cellsD v (partM M 4) = cellsD v M := by simp [cellsD, partM]
theorem cellsD_set_both (v : Nat → Value) (M : MD) (n : Nat) (h : n < 4) (x : Value) (b : ByteArray) (s : Nat) : ((cellsD v M).set (n * 2) x).set (n * 2 + 1) (.int .i64 s) = cellsD (upd v n x) (M.set n ⟨b, s⟩) := by
  have : n = 0 ∨ n = 1 ∨ n = 2 ∨ n = 3 := by omega
  rcases this with rfl | rfl | rfl | rfl <;> simp [cellsD, MD.set, upd]
theorem DiskAt.filled {wr w' : World} {g : Nat} {v' : Nat → Value} {M' : MD} (h : DiskAt wr g v' M') (k : Nat) (hk : k < 4) (q n c : Nat) (hq : wr.heap.size ≤ q) (b : ByteArray) (s : Nat)
    (hat : At w' g 100 (((cellsD v' M').set (k * 2) (.slice (some ⟨q, 0, none⟩) n c)).set (k * 2 + 1) (.int .i64 s))) (hrow : BRow w' (.slice (some ⟨q, 0, none⟩) n c) b) (keep : ∀ j, j < wr.heap.size → j ≠ g → w'.heap[j]? = wr.heap[j]?) :
    DiskAt w' g (upd v' k (.slice (some ⟨q, 0, none⟩) n c)) (M'.set k ⟨b, s⟩) := by
  have hg := h.at_.lt
  have own : ∀ z, (Value.slice (some ⟨q, 0, none⟩) n c).ownBlock = some z → z = q := by intro z hz; simpa [Value.ownBlock, eq_comm] using hz
  have lt : ∀ i, i < 4 → ∀ z, (v' i).ownBlock = some z → z < wr.heap.size := fun i hi z hz => (h.row i hi).lt z hz
  rw [cellsD_set_both v' M' k hk _ b s] at hat
  refine ⟨hat, fun i hi => ?_, fun i hi z hz => ?_, fun i j hi hj hne z hz => ?_⟩
  · unfold upd MD.set
    simp only
    split
    · exact hrow
    · exact (h.row i hi).kept fun z hz => keep z (lt i hi z hz) (h.off i hi z hz)
  · unfold upd at hz
    split at hz
    · have := own z hz; omega
    · exact h.off i hi z hz
  · unfold upd at hz ⊢
    split at hz
    · have hz' := own z hz
      split
      · omega
      · intro hz2; have := lt j hj z hz2; omega
    · split
      · intro hz2; have := own z hz2; have := lt i hi z hz; omega
      · exact h.two i j hi hj hne z hz
def CpRel (w : World) (M : MD) (g : Nat) (i : Value) (wr : World) : Prop :=
  ∃ (k : Nat) (v' : Nat → Value), k ≤ 4 ∧ i = .int .i64 k ∧ DiskAt wr g v' (partM M k) ∧ (∀ q, footD g v' q → w.heap.size ≤ q) ∧ Below w.heap.size w wr
theorem brow_cells {w : World} {A : Option Addr} {c : Nat} {b : ByteArray} (h : BRow w (.slice A b.size c) b) : ∀ j v, (strCells b)[j]? = some v → ∃ ad : Addr, A = some ad ∧ w.cell? (ad.add j) = some v := by
  intro j v hv
  have hl : (strCells b).length = b.size := by simp [strCells]
  have hj := (List.getElem?_eq_some_iff.1 hv).1
  rcases h with ⟨_, h0⟩ | ⟨g, cap, cur, e, hg, h1, h2, h3, h4⟩
  · omega
  · injection e with e1 e2 e3
    refine ⟨_, e1, ?_⟩
    have : (⟨g, 0, none⟩ : Addr).add j = ⟨g, j, none⟩ := by unfold Addr.add; split <;> simp_all
    rw [this, cell_of_row w g j cur 5 (0, 0) hg, ← hv, ← h4, List.getElem?_take, if_pos (by omega)]
    simp
/-- the world behind the making of a row for file k (brow_w3) -/
structure Made (wr W3 : World) (g k q n sf : Nat) (v' : Nat → Value) (M' : MD) (A : Option Addr) (c : Nat) : Prop where
  at_ : At W3 g 100 (((cellsD v' M').set (k * 2) (.slice (some ⟨q, 0, none⟩) n n)).set (k * 2 + 1) (.int .i64 sf))
  row : W3.heap[q]? = some (.cells (zeros8 n) 5 (0, 0))
  size : wr.heap.size < q
  below : ∀ j, j < wr.heap.size → j ≠ g → W3.heap[j]? = wr.heap[j]?
  box : W3.cell? ⟨wr.heap.size, 0, none⟩ = some (.slice A n c)
  os : W3.os = wr.os
  tape : W3.tape = wr.tape
  output : W3.output = wr.output
  size2 : W3.heap.size = q + 1
theorem Made.mk' (wr : World) (g k n sf : Nat) (v' : Nat → Value) (M' : MD) (A : Option Addr) (c : Nat) (h : At wr g 100 (cellsD v' M')) :
    Made wr ((((wr.setCell ⟨g, k * 2, none⟩ (.slice (some ⟨wr.heap.size + 1, 0, none⟩) n n)).setCell ⟨g, k * 2 + 1, none⟩ (.int .i64 sf)).alloc (.cells #[.slice A n c, .int .i64 sf] 97)).alloc (.cells (zeros8 n) 5)).drew g k (wr.heap.size + 1) n sf v' M' A c := by
  have hg := h.lt
  refine ⟨((((h.set _ _).set _ _).alloc _).alloc _).drewN 1, ?_, by omega, fun j hj hne => ?_, ?_, rfl, rfl, rfl, by simp [World.drew]⟩
  · have e := heap_alloc_new (((wr.setCell ⟨g, k * 2, none⟩ (.slice (some ⟨wr.heap.size + 1, 0, none⟩) n n)).setCell ⟨g, k * 2 + 1, none⟩ (.int .i64 sf)).alloc (.cells #[.slice A n c, .int .i64 sf] 97)) (.cells (zeros8 n) 5)
    simpa [World.drew] using e
  · have e1 := heap_alloc_old (((wr.setCell ⟨g, k * 2, none⟩ (.slice (some ⟨wr.heap.size + 1, 0, none⟩) n n)).setCell ⟨g, k * 2 + 1, none⟩ (.int .i64 sf)).alloc (.cells #[.slice A n c, .int .i64 sf] 97)) (.cells (zeros8 n) 5) (r := j) (by simp; omega)
    have e2 := heap_alloc_old ((wr.setCell ⟨g, k * 2, none⟩ (.slice (some ⟨wr.heap.size + 1, 0, none⟩) n n)).setCell ⟨g, k * 2 + 1, none⟩ (.int .i64 sf)) (.cells #[.slice A n c, .int .i64 sf] 97) (r := j) (by simp; omega)
    have e3 := Below.heap_setCell (wr.setCell ⟨g, k * 2, none⟩ (.slice (some ⟨wr.heap.size + 1, 0, none⟩) n n)) ⟨g, k * 2 + 1, none⟩ (.int .i64 sf) j hne
    have e4 := Below.heap_setCell wr ⟨g, k * 2, none⟩ (.slice (some ⟨wr.heap.size + 1, 0, none⟩) n n) j hne
    exact ((e1.trans e2).trans e3).trans e4
  · have e := heap_alloc_new ((wr.setCell ⟨g, k * 2, none⟩ (.slice (some ⟨wr.heap.size + 1, 0, none⟩) n n)).setCell ⟨g, k * 2 + 1, none⟩ (.int .i64 sf)) (.cells #[.slice A n c, .int .i64 sf] 97)
    have e1 := heap_alloc_old (((wr.setCell ⟨g, k * 2, none⟩ (.slice (some ⟨wr.heap.size + 1, 0, none⟩) n n)).setCell ⟨g, k * 2 + 1, none⟩ (.int .i64 sf)).alloc (.cells #[.slice A n c, .int .i64 sf] 97)) (.cells (zeros8 n) 5) (r := wr.heap.size) (by simp)
    have e2 : ((wr.setCell ⟨g, k * 2, none⟩ (.slice (some ⟨wr.heap.size + 1, 0, none⟩) n n)).setCell ⟨g, k * 2 + 1, none⟩ (.int .i64 sf)).heap.size = wr.heap.size := by simp
    rw [e2] at e
    show World.cell? _ _ = _
    exact (cell_of_row _ wr.heap.size 0 _ 97 (0, 0) (e1.trans e)).trans rfl
theorem Made.wp {wr : World} {g : Nat} (k : Nat) {n sf : Nat} {v' : Nat → Value} {M' : MD} {A : Option Addr} {c : Nat} (h : At wr g 100 (cellsD v' M')) {code : Code} {Q : Exit → Act → World → Prop} {a : Act}
    (H : ∀ W3, Made wr W3 g k (wr.heap.size + 1) n sf v' M' A c → code.wp Tryd.prog Q a W3) :
    code.wp Tryd.prog Q a ((((wr.setCell ⟨g, k * 2, none⟩ (.slice (some ⟨wr.heap.size + 1, 0, none⟩) n n)).setCell ⟨g, k * 2 + 1, none⟩ (.int .i64 sf)).alloc (.cells #[.slice A n c, .int .i64 sf] 97)).alloc (.cells (zeros8 n) 5)).drew :=
  H _ (Made.mk' wr g k n sf v' M' A c h)
theorem Made.cell {wr W3 : World} {g k q n sf : Nat} {v' : Nat → Value} {M' : MD} {A : Option Addr} {c : Nat} (h : Made wr W3 g k q n sf v' M' A c) (hk : k < 4) : W3.cell? ⟨g, k * 2, none⟩ = some (.slice (some ⟨q, 0, none⟩) n n) := by
  rw [h.at_.cell]
  have : k = 0 ∨ k = 1 ∨ k = 2 ∨ k = 3 := by omega
  rcases this with rfl | rfl | rfl | rfl <;> simp [cellsD]
theorem Made.old {w wr W3 : World} {g k q n sf : Nat} {v' : Nat → Value} {M' : MD} {A : Option Addr} {c : Nat} (h : Made wr W3 g k q n sf v' M' A c) (hB : Below w.heap.size w wr) (hg : w.heap.size ≤ g) : Below w.heap.size w W3 :=
  hB.trans ⟨h.os, h.tape, h.output, by have := h.size2; have := h.size; omega, fun j hj => h.below j (Nat.lt_of_lt_of_le hj hB.size) (by omega)⟩
/-- the row is filled -/
theorem Made.done {w wr W3 w4 : World} {g k q sf : Nat} {v' : Nat → Value} {M : MD} {A : Option Addr} {c : Nat} {b : ByteArray} (hk : k < 4) (hz : b.size ≤ 1048576) (hE : DiskAt wr g v' (partM M k)) (hF : ∀ q, footD g v' q → w.heap.size ≤ q) (hB : Below w.heap.size w wr) (hX : (partM M k).set k ⟨b, sf⟩ = partM M (k + 1))
    (h : Made wr W3 g k q b.size sf v' (partM M k) A c) (h4 : Hid (w4.heap[q]? = some (.cells (splice (zeros8 b.size).toList 0 (strCells b)).toArray 5 (0, 0)))) (hb : Below q W3 w4) : CpRel w M g (.int .i64 ((k + 1 : Nat) : Int)) w4 := by
  have hl : (strCells b).length = b.size := by simp [strCells]
  have hzl : (zeros8 b.size).toList.length = b.size := by simp [zeros8, madeCells]
  have hg := hE.at_.lt
  have hgB : w.heap.size ≤ g := hF g (.inl rfl)
  have hq := h.size
  refine ⟨k + 1, upd v' k (.slice (some ⟨q, 0, none⟩) b.size b.size), by omega, rfl, ?_, fun z hz => ?_, ?_⟩
  · rw [← hX]
    refine hE.filled k hk q b.size b.size (by omega) b sf (h.at_.below (n := q) (by omega) hb) (.inr ⟨q, b.size, _, rfl, h4, Nat.le_refl _, by unfold maxLen; omega, ?_, ?_⟩) fun j hj hne => ?_
    · have := length_splice (zeros8 b.size).toList 0 (strCells b) (by omega)
      simp only [List.size_toArray]
      omega
    · simp only [splice, List.take_zero, List.nil_append]
      rw [← hl]
      simp
    · exact (hb.block j (by omega)).trans (h.below j hj hne)
  · rcases hz with rfl | ⟨i, hi, hz⟩
    · exact hgB
    · unfold upd at hz
      split at hz
      · have : z = q := by simpa [Value.ownBlock, eq_comm] using hz
        have := hB.size
        omega
      · exact hF z (.inr ⟨i, hi, hz⟩)
  · refine hB.trans ⟨hb.os.trans h.os, hb.tape.trans h.tape, hb.output.trans h.output, ?_, fun j hj => ?_⟩
    · have := hb.size; have := h.size2; omega
    · have hj2 := Nat.lt_of_lt_of_le hj hB.size
      exact (hb.block j (by omega)).trans (h.below j hj2 (by omega))
set_option maxRecDepth 100000 in
set_option maxHeartbeats 1600000 in
theorem copy_any (d : Nat) (v : Nat → Value) (M : MD) (w : World) (hD : DiskAt w d v M) (hok : M.Ok) :
    Calls Tryd.prog 27 #[.pointer (some ⟨d, 0, none⟩)] w fun e w' => ∃ g v', e = .returned (.pointer (some ⟨g, 0, none⟩)) ∧ DiskAt w' g v' M ∧ (∀ k, footD g v' k → w.heap.size ≤ k) ∧ Below w.heap.size w w' := by
  obtain ⟨A0, c0, e0⟩ := hD.slice 0 (by decide)
  obtain ⟨A1, c1, e1⟩ := hD.slice 1 (by decide)
  obtain ⟨A2, c2, e2⟩ := hD.slice 2 (by decide)
  obtain ⟨A3, c3, e3⟩ := hD.slice 3 (by decide)
  have hdl := hD.at_.lt
  have HD := Lib.hid hD.at_
  unfold cellsD at HD
  rw [e0, e1, e2, e3] at HD
  have m0 := HD.out.cell 0
  have m1 := HD.out.cell 1
  have m2 := HD.out.cell 2
  have m3 := HD.out.cell 3
  have m4 := HD.out.cell 4
  have m5 := HD.out.cell 5
  have m6 := HD.out.cell 6
  have m7 := HD.out.cell 7
  have m8 := HD.out.cell 8
  have r0 := hD.row 0 (by decide)
  have r1 := hD.row 1 (by decide)
  have r2 := hD.row 2 (by decide)
  have r3 := hD.row 3 (by decide)
  rw [e0] at r0
  rw [e1] at r1
  rw [e2] at r2
  rw [e3] at r3
  have HN0 := part_next M 0
  have hz0 := (ok_size hok 0 (by decide)).1
  have HN1 := part_next M 1
  have hz1 := (ok_size hok 1 (by decide)).1
  have HN2 := part_next M 2
  have hz2 := (ok_size hok 2 (by decide)).1
  have HN3 := part_next M 3
  have hz3 := (ok_size hok 3 (by decide)).1
  obtain ⟨⟨b0, s0⟩, hb0⟩ : ∃ b, M.f 0 = b := ⟨_, rfl⟩
  obtain ⟨⟨b1, s1⟩, hb1⟩ : ∃ b, M.f 1 = b := ⟨_, rfl⟩
  obtain ⟨⟨b2, s2⟩, hb2⟩ : ∃ b, M.f 2 = b := ⟨_, rfl⟩
  obtain ⟨⟨b3, s3⟩, hb3⟩ : ∃ b, M.f 3 = b := ⟨_, rfl⟩
  simp only [hb0, hb1, hb2, hb3] at r0 r1 r2 r3 HN0 HN1 HN2 HN3 hz0 hz1 hz2 hz3 m0 m1 m2 m3 m4 m5 m6 m7 m8
  have R0 := Lib.hid r0
  have X0 := Lib.hid HN0
  have Z0 := Lib.hid hz0
  have R1 := Lib.hid r1
  have X1 := Lib.hid HN1
  have Z1 := Lib.hid hz1
  have R2 := Lib.hid r2
  have X2 := Lib.hid HN2
  have Z2 := Lib.hid hz2
  have R3 := Lib.hid r3
  have X3 := Lib.hid HN3
  have Z3 := Lib.hid hz3
  clear HN0 HN1 HN2 HN3 hz0 hz1 hz2 hz3 hb0 hb1 hb2 hb3
  have HD0 : Hid (DiskAt (w.alloc (.cells #[.slice none 0 0, .int .i64 0, .slice none 0 0, .int .i64 0, .slice none 0 0, .int .i64 0, .slice none 0 0, .int .i64 0, .int .i64 M.room] 100)) w.heap.size (fun _ => .slice none 0 0) (partM M 0)) := by
    show DiskAt _ _ _ _
    refine ⟨At.new w 100 _, fun i _ => .inl ⟨rfl, rfl⟩, ?_, ?_⟩
    · intro i _ k hk; simp [Value.ownBlock] at hk
    · intro i j _ _ _ k hk; simp [Value.ownBlock] at hk
  clear hD e0 e1 e2 e3 HD r0 r1 r2 r3 hok
  go_enter Tryd.func27, Tryd.ntmps27
  go_wp2_with fail
  clear m0 m1 m2 m3 m4 m5 m6 m7 m8
  go_loopw [16] (CpRel w M w.heap.size) (fun i _ => 4 - (intOf i).toNat)
  case atStart => exact ⟨0, _, by omega, rfl, HD0.out, fun q hq => (by rcases hq with rfl | ⟨i, hi, hq⟩; exact Nat.le_refl _; simp [Value.ownBlock] at hq), (Below.refl _ _).alloc (Nat.le_refl _) _⟩
  case round =>
    obtain ⟨k, v', hk, rfl, hE, hF, hB⟩ := hrel
    have HE := Lib.hid hE
    have HF := Lib.hid hF
    have HB := Lib.hid hB
    clear hE hF hB
    have hcase : k = 0 ∨ k = 1 ∨ k = 2 ∨ k = 3 ∨ k = 4 := by omega
    rcases hcase with rfl | rfl | rfl | rfl | rfl
    · have hsz := Z0.out
      have hg := HE.out.at_.lt
      have hmk := fun W => make8 W b0.size hsz
      have n0 : wr.cell? ⟨w.heap.size, 0, none⟩ = some (v' 0) := (HE.out.at_.cell 0).trans (cellsD_row v' _ 0 (by decide))
      have n1 : wr.cell? ⟨w.heap.size, 1, none⟩ = some (.int .i64 ((partM M 0).f 0).safe) := (HE.out.at_.cell 1).trans (cellsD_safe v' _ 0 (by decide))
      have f0 := HE.out.at_.free 0
      have f1 := HE.out.at_.free 1
      go_wp2_with (refine wpList_index61 rfl _ _ rfl _ rfl 0 rfl (by decide) ?_)
      go_region
      all_goals
        go_wp2_with fail
        refine Made.wp 0 HE.out.at_ fun W3 hM => ?_
        have HM := Lib.hid hM
        have HO := Lib.hid (hM.old HB.out (Nat.le_refl _))
        have y0 : W3.cell? ⟨w.heap.size, 0, none⟩ = some _ := hM.cell (by decide)
        have y1 := hM.box
        have hcs : (strCells b0).length = Nat.min b0.size b0.size := by simp [strCells]
        have hpos : 0 < (strCells b0).length → (some ⟨wr.heap.size + 1, 0, none⟩ : Option Addr) = some ⟨wr.heap.size + 1, 0, none⟩ ∧ ∃ ad, A0 = some ad ∧ ∀ j v, (strCells b0)[j]? = some v → W3.drew.cell? (ad.add j) = some v := by
          intro hp
          refine ⟨rfl, ?_⟩
          obtain ⟨ad, e, _⟩ := brow_cells R0.out 0 _ (List.getElem?_eq_getElem hp)
          refine ⟨ad, e, fun j v hv => ?_⟩
          obtain ⟨ad', e', hc⟩ := brow_cells R0.out j v hv
          rw [e] at e'
          cases e'
          have hc2 := old_cell HO.out hc
          exact hc2
        have HP := Lib.hid hpos
        have HCS := Lib.hid hcs
        have hfit : 0 + (strCells b0).length ≤ (zeros8 b0.size).toList.length := by simp [strCells, zeros8, madeCells]
        have HFT := Lib.hid hfit
        clear hM hpos hcs hfit n0 n1 f0 f1 hmk
        go_region_law (refine step_copy_splice rfl (.tmp 38) (.tmp 40) 95 95 rfl 5 Tryd.underlying95 (by kernel_rfl) _ _ _ _ _ _ rfl rfl (wr.heap.size + 1) 0 (zeros8 b0.size).toList 5 HM.out.row (strCells b0) HCS.out HP.out HFT.out (strCells_oneCell b0) (wr.heap.size + 1) W3 (below_drewN (Below.refl _ _) 1) (Nat.le_refl _) ?_; intro w4 hg4 hb4)
        all_goals
          go_wp2_with fail
          go_roundw
          case rel => exact Made.done (by decide) Z0.out HE.out HF.out HB.out X0.out HM.out hg4 hb4
          case measure => simp [intOf]
    · have hsz := Z1.out
      have hg := HE.out.at_.lt
      have hmk := fun W => make8 W b1.size hsz
      have n0 : wr.cell? ⟨w.heap.size, 2, none⟩ = some (v' 1) := (HE.out.at_.cell 2).trans (cellsD_row v' _ 1 (by decide))
      have n1 : wr.cell? ⟨w.heap.size, 3, none⟩ = some (.int .i64 ((partM M 1).f 1).safe) := (HE.out.at_.cell 3).trans (cellsD_safe v' _ 1 (by decide))
      have f0 := HE.out.at_.free 2
      have f1 := HE.out.at_.free 3
      go_wp2_with (refine wpList_index61 rfl _ _ rfl _ rfl 1 rfl (by decide) ?_)
      go_region
      all_goals
        go_wp2_with fail
        refine Made.wp 1 HE.out.at_ fun W3 hM => ?_
        have HM := Lib.hid hM
        have HO := Lib.hid (hM.old HB.out (Nat.le_refl _))
        have y0 : W3.cell? ⟨w.heap.size, 2, none⟩ = some _ := hM.cell (by decide)
        have y1 := hM.box
        have hcs : (strCells b1).length = Nat.min b1.size b1.size := by simp [strCells]
        have hpos : 0 < (strCells b1).length → (some ⟨wr.heap.size + 1, 0, none⟩ : Option Addr) = some ⟨wr.heap.size + 1, 0, none⟩ ∧ ∃ ad, A1 = some ad ∧ ∀ j v, (strCells b1)[j]? = some v → W3.drew.cell? (ad.add j) = some v := by
          intro hp
          refine ⟨rfl, ?_⟩
          obtain ⟨ad, e, _⟩ := brow_cells R1.out 0 _ (List.getElem?_eq_getElem hp)
          refine ⟨ad, e, fun j v hv => ?_⟩
          obtain ⟨ad', e', hc⟩ := brow_cells R1.out j v hv
          rw [e] at e'
          cases e'
          have hc2 := old_cell HO.out hc
          exact hc2
        have HP := Lib.hid hpos
        have HCS := Lib.hid hcs
        have hfit : 0 + (strCells b1).length ≤ (zeros8 b1.size).toList.length := by simp [strCells, zeros8, madeCells]
        have HFT := Lib.hid hfit
        clear hM hpos hcs hfit n0 n1 f0 f1 hmk
        go_region_law (refine step_copy_splice rfl (.tmp 38) (.tmp 40) 95 95 rfl 5 Tryd.underlying95 (by kernel_rfl) _ _ _ _ _ _ rfl rfl (wr.heap.size + 1) 0 (zeros8 b1.size).toList 5 HM.out.row (strCells b1) HCS.out HP.out HFT.out (strCells_oneCell b1) (wr.heap.size + 1) W3 (below_drewN (Below.refl _ _) 1) (Nat.le_refl _) ?_; intro w4 hg4 hb4)
        all_goals
          go_wp2_with fail
          go_roundw
          case rel => exact Made.done (by decide) Z1.out HE.out HF.out HB.out X1.out HM.out hg4 hb4
          case measure => simp [intOf]
    · have hsz := Z2.out
      have hg := HE.out.at_.lt
      have hmk := fun W => make8 W b2.size hsz
      have n0 : wr.cell? ⟨w.heap.size, 4, none⟩ = some (v' 2) := (HE.out.at_.cell 4).trans (cellsD_row v' _ 2 (by decide))
      have n1 : wr.cell? ⟨w.heap.size, 5, none⟩ = some (.int .i64 ((partM M 2).f 2).safe) := (HE.out.at_.cell 5).trans (cellsD_safe v' _ 2 (by decide))
      have f0 := HE.out.at_.free 4
      have f1 := HE.out.at_.free 5
      go_wp2_with (refine wpList_index61 rfl _ _ rfl _ rfl 2 rfl (by decide) ?_)
      go_region
      all_goals
        go_wp2_with fail
        refine Made.wp 2 HE.out.at_ fun W3 hM => ?_
        have HM := Lib.hid hM
        have HO := Lib.hid (hM.old HB.out (Nat.le_refl _))
        have y0 : W3.cell? ⟨w.heap.size, 4, none⟩ = some _ := hM.cell (by decide)
        have y1 := hM.box
        have hcs : (strCells b2).length = Nat.min b2.size b2.size := by simp [strCells]
        have hpos : 0 < (strCells b2).length → (some ⟨wr.heap.size + 1, 0, none⟩ : Option Addr) = some ⟨wr.heap.size + 1, 0, none⟩ ∧ ∃ ad, A2 = some ad ∧ ∀ j v, (strCells b2)[j]? = some v → W3.drew.cell? (ad.add j) = some v := by
          intro hp
          refine ⟨rfl, ?_⟩
          obtain ⟨ad, e, _⟩ := brow_cells R2.out 0 _ (List.getElem?_eq_getElem hp)
          refine ⟨ad, e, fun j v hv => ?_⟩
          obtain ⟨ad', e', hc⟩ := brow_cells R2.out j v hv
          rw [e] at e'
          cases e'
          have hc2 := old_cell HO.out hc
          exact hc2
        have HP := Lib.hid hpos
        have HCS := Lib.hid hcs
        have hfit : 0 + (strCells b2).length ≤ (zeros8 b2.size).toList.length := by simp [strCells, zeros8, madeCells]
        have HFT := Lib.hid hfit
        clear hM hpos hcs hfit n0 n1 f0 f1 hmk
        go_region_law (refine step_copy_splice rfl (.tmp 38) (.tmp 40) 95 95 rfl 5 Tryd.underlying95 (by kernel_rfl) _ _ _ _ _ _ rfl rfl (wr.heap.size + 1) 0 (zeros8 b2.size).toList 5 HM.out.row (strCells b2) HCS.out HP.out HFT.out (strCells_oneCell b2) (wr.heap.size + 1) W3 (below_drewN (Below.refl _ _) 1) (Nat.le_refl _) ?_; intro w4 hg4 hb4)
        all_goals
          go_wp2_with fail
          go_roundw
          case rel => exact Made.done (by decide) Z2.out HE.out HF.out HB.out X2.out HM.out hg4 hb4
          case measure => simp [intOf]
    · have hsz := Z3.out
      have hg := HE.out.at_.lt
      have hmk := fun W => make8 W b3.size hsz
      have n0 : wr.cell? ⟨w.heap.size, 6, none⟩ = some (v' 3) := (HE.out.at_.cell 6).trans (cellsD_row v' _ 3 (by decide))
      have n1 : wr.cell? ⟨w.heap.size, 7, none⟩ = some (.int .i64 ((partM M 3).f 3).safe) := (HE.out.at_.cell 7).trans (cellsD_safe v' _ 3 (by decide))
      have f0 := HE.out.at_.free 6
      have f1 := HE.out.at_.free 7
      go_wp2_with (refine wpList_index61 rfl _ _ rfl _ rfl 3 rfl (by decide) ?_)
      go_region
      all_goals
        go_wp2_with fail
        refine Made.wp 3 HE.out.at_ fun W3 hM => ?_
        have HM := Lib.hid hM
        have HO := Lib.hid (hM.old HB.out (Nat.le_refl _))
        have y0 : W3.cell? ⟨w.heap.size, 6, none⟩ = some _ := hM.cell (by decide)
        have y1 := hM.box
        have hcs : (strCells b3).length = Nat.min b3.size b3.size := by simp [strCells]
        have hpos : 0 < (strCells b3).length → (some ⟨wr.heap.size + 1, 0, none⟩ : Option Addr) = some ⟨wr.heap.size + 1, 0, none⟩ ∧ ∃ ad, A3 = some ad ∧ ∀ j v, (strCells b3)[j]? = some v → W3.drew.cell? (ad.add j) = some v := by
          intro hp
          refine ⟨rfl, ?_⟩
          obtain ⟨ad, e, _⟩ := brow_cells R3.out 0 _ (List.getElem?_eq_getElem hp)
          refine ⟨ad, e, fun j v hv => ?_⟩
          obtain ⟨ad', e', hc⟩ := brow_cells R3.out j v hv
          rw [e] at e'
          cases e'
          have hc2 := old_cell HO.out hc
          exact hc2
        have HP := Lib.hid hpos
        have HCS := Lib.hid hcs
        have hfit : 0 + (strCells b3).length ≤ (zeros8 b3.size).toList.length := by simp [strCells, zeros8, madeCells]
        have HFT := Lib.hid hfit
        clear hM hpos hcs hfit n0 n1 f0 f1 hmk
        go_region_law (refine step_copy_splice rfl (.tmp 38) (.tmp 40) 95 95 rfl 5 Tryd.underlying95 (by kernel_rfl) _ _ _ _ _ _ rfl rfl (wr.heap.size + 1) 0 (zeros8 b3.size).toList 5 HM.out.row (strCells b3) HCS.out HP.out HFT.out (strCells_oneCell b3) (wr.heap.size + 1) W3 (below_drewN (Below.refl _ _) 1) (Nat.le_refl _) ?_; intro w4 hg4 hb4)
        all_goals
          go_wp2_with fail
          go_roundw
          case rel => exact Made.done (by decide) Z3.out HE.out HF.out HB.out X3.out HM.out hg4 hb4
          case measure => simp [intOf]
    · go_wp2_with fail
      go_ret
      refine ⟨_, v', rfl, ?_, HF.out, HB.out⟩
      have h := HE.out
      exact ⟨(cellsD_part M v') ▸ h.at_, fun i hi => by have := h.row i hi; simp only [partM, hi, if_true] at this; exact this, h.off, h.two⟩
end Go.Proofs.YtjlpgjfgeikdeaaDoor
end

section
/- Crash of the document's disk. -/
set_option linter.unusedVariables false
set_option linter.unusedSimpArgs false
set_option linter.unnecessarySimpa false
set_option maxRecDepth 100000
namespace Go.Proofs.YtjlpgjfgeikdeaaDoor
open Go.RowKit Go.ChangeShapes Go.WideShapes Go.ChangeAt
theorem cellsR_set_both (M : MD) (n : Nat) (h : n < 4) (b : ByteArray) (s : Nat) : ((cellsR M).set (n * 2) (.string b)).set (n * 2 + 1) (.int .i64 s) = cellsR (M.set n ⟨b, s⟩) := by
  have : n = 0 ∨ n = 1 ∨ n = 2 ∨ n = 3 := by omega
  rcases this with rfl | rfl | rfl | rfl <;> simp [cellsR, MD.set]
def RcRel (w0 : World) (F : List HP) (r : Nat) (M : MD) (L : Nat) (left i : Value) (wr : World) : Prop :=
  ∃ k : Nat, k ≤ 4 ∧ i = .int .i64 k ∧ left = .int .i64 (crashTo M L k).2 ∧ Sat w0 wr (Blk r 83 (cellsR (crashTo M L k).1) :: F)
set_option maxRecDepth 100000 in
set_option maxHeartbeats 1600000 in
theorem rcrash_any (r : Nat) (M : MD) (keep : Int) (w0 w : World) (F : List HP) (hS : Sat w0 w (Blk r 83 (cellsR M) :: F)) (hok : M.Ok) (hk : wf64 keep) :
    Calls Tryd.prog 49 #[.pointer (some ⟨r, 0, none⟩), .int .i64 keep] w fun e w' => e = .returned (.tuple #[]) ∧ Sat w0 w' (Blk r 83 (cellsR (crashM M keep.toNat)) :: F) := by
  have hmax : ∃ L : Nat, L = keep.toNat ∧ (L : Int) ≤ 9223372036854775807 := ⟨keep.toNat, rfl, by unfold wf64 at hk; omega⟩
  obtain ⟨L, hL, hL2⟩ := hmax
  rw [← hL]
  have HU : Hid (∀ k, k < 4 → (M.f k).b.size ≤ 1048576 ∧ (M.f k).safe ≤ (M.f k).b.size) := fun k hk4 => ok_size hok k hk4
  have start : RcRel w0 F r M L (.int .i64 L) (.int .i64 0) w := ⟨0, by omega, rfl, rfl, hS⟩
  clear hok hS
  by_cases h0 : 0 ≤ keep
  case' pos => have hkL : keep = (L : Int) := by omega
  case' pos => subst hkL
  case' neg => have hL0 : Hid ((0 : Int) = (L : Int)) := by show _ = _; omega
  all_goals
    clear hL hk
    go_enter Tryd.func49, Tryd.ntmps49
    go_wp2_with fail
    go_loopw [4, 5] (RcRel w0 F r M L) (fun _ i _ => 4 - (intOf i).toNat)
    case atStart => first | exact start | (have st := start; rw [← hL0.out] at st; exact st)
    obtain ⟨k, hk, rfl, rfl, hT⟩ := hrel
    clear start
    by_cases hlt : k < 4
    · obtain ⟨hs1, hs2⟩ := HU.out k hlt
      have hfM := crashTo_later M L k k (Nat.le_refl _)
      have hle := crashTo_less M L k
      have hst := crash_step M L k
      obtain ⟨⟨Mk, left⟩, hX⟩ : ∃ X, crashTo M L k = X := ⟨_, rfl⟩
      rw [hX] at hT hfM hle hst ⊢
      simp only at hT hfM hle hst ⊢
      have m0 := hT.blk.cell (k * 2)
      rw [cellsR_row _ k hlt] at m0
      have m1 := hT.blk.cell (k * 2 + 1)
      rw [cellsR_safe _ k hlt] at m1
      have f0 := hT.blk.free (k * 2)
      have f1 := hT.blk.free (k * 2 + 1)
      have hrl := hT.lt
      rw [hfM] at m0 m1
      have hcb := cellsR_set_both Mk k hlt
      obtain ⟨⟨b, sf⟩, hb⟩ : ∃ b, M.f k = b := ⟨_, rfl⟩
      rw [hb] at hs1 hs2 m0 m1 hst
      simp only at hs1 hs2 m0 m1 hst
      obtain ⟨D, hD⟩ : ∃ D, b.size - sf = D := ⟨_, rfl⟩
      have hDD : sf + D = b.size := by omega
      have sw1 : IntKind.i64.wrap ((b.size : Int) - (sf : Int)) = (D : Int) := by rw [IntWalk.i64_in _ (by omega)]; omega
      have hq1 : (b.size : Int) - (sf : Int) = (D : Int) := by omega
      have hkept : ∀ z, keptOf ⟨b, sf⟩ z = min z D := fun z => by unfold keptOf; simp only; rw [hD]
      have HST := Lib.hid hst
      have HCB := Lib.hid hcb
      have HKP := Lib.hid hkept
      have HQ1 := Lib.hid hq1
      clear hX hfM hst hb hD hcb hkept hq1
      by_cases hc : left ≤ D
      case' pos =>
        obtain ⟨K, hK⟩ : ∃ K, left = K := ⟨_, rfl⟩
        have hmin : min left D = K := by omega
      case' neg =>
        obtain ⟨K, hK⟩ : ∃ K, D = K := ⟨_, rfl⟩
        have hmin : min left D = K := by omega
      all_goals
        have hKb : sf + K ≤ b.size := by omega
        have hKl : K ≤ left := by omega
        have HKL : Hid (K ≤ left) := hKl
        have HS2 : Hid (crashTo M L (k + 1) = (Mk.set k ⟨b.extract 0 (sf + K), sf + K⟩, left - K)) := HST.out K (by rw [HKP.out, hmin])
        have hmin2 : min (sf + K) b.size = sf + K := by omega
        have sw3 : IntKind.i64.wrap ((sf : Int) + (K : Int)) = ((sf + K : Nat) : Int) := by rw [IntWalk.i64_in _ (by omega)]; omega
        have sw4 : IntKind.i64.wrap ((left : Int) - (K : Int)) = ((left - K : Nat) : Int) := by rw [IntWalk.i64_in _ (by omega)]; omega
        clear hmin HST HKP hKl hDD
      case pos =>
        subst hK
        have hFin := fun (sx : ByteArray) => (((hT.set (k * 2) (.string (b.extract 0 (sf + left)))).set (k * 2 + 1) (.int .i64 ((sf + left : Nat) : Int))).new #[.string (b.extract 0 (sf + left)), .int .i64 ((sf + left : Nat) : Int)] 80).tail
        rw [HCB.out] at hFin
        have HFIN := Lib.hid hFin
        clear hFin
        go_wp2_with fail
        go_region
        all_goals
          go_wp2_with fail
          go_roundw
          case rel =>
            refine ⟨k + 1, by omega, by go_num, ?_, ?_⟩
            · rw [HS2.out]; simp
            · rw [HS2.out]; exact (HFIN.out b).drewN 1
          case measure => simp [intOf]; omega
      case neg =>
        subst hK
        have hFin := fun (sx : ByteArray) => (((hT.set (k * 2) (.string (b.extract 0 (sf + D)))).set (k * 2 + 1) (.int .i64 ((sf + D : Nat) : Int))).new #[.string (b.extract 0 (sf + D)), .int .i64 ((sf + D : Nat) : Int)] 80).tail
        rw [HCB.out] at hFin
        have HFIN := Lib.hid hFin
        clear hFin
        go_wp2_with fail
        go_region
        all_goals
          go_wp2_with fail
          go_roundw
          case rel =>
            refine ⟨k + 1, by omega, by go_num, ?_, ?_⟩
            · rw [HS2.out]; try exact nat_val (by have := HKL.out; simp only; omega)
            · rw [HS2.out]; exact (HFIN.out b).drewN 1
          case measure => simp [intOf]; omega
    · have hk4 : k = 4 := by omega
      subst hk4
      go_wp2_with fail
      go_end0
      exact ⟨rfl, hT⟩
end Go.Proofs.YtjlpgjfgeikdeaaDoor
end

section
/- The calls on both disks. -/
set_option linter.unusedVariables false
set_option linter.unusedSimpArgs false
set_option linter.unnecessarySimpa false
set_option maxRecDepth 100000
namespace Go.Proofs.YtjlpgjfgeikdeaaDoor
open Go.RowKit Go.ChangeShapes Go.WideShapes Go.ChangeAt
def readV (M : MD) (n : Int) : ByteArray × Int := if isB n = true then ((M.f n.toNat).b, 0) else (⟨#[]⟩, 40)
def sizeV (M : MD) (n : Int) : Int × Int × Int := if isB n = true then ((M.f n.toNat).b.size, (M.f n.toNat).safe, 0) else (0, 0, 40)
section
variable {w0 w : World} {F : List HP} {d r : Nat} {v : Nat → Value} {M : MD} {X : HP}
theorem read_sat (hS : Sat w0 w (DiskV d v M :: F)) (n : Int) : Calls Tryd.prog 38 #[.pointer (some ⟨d, 0, none⟩), .int .i64 n] w fun e w' => e = .returned (.tuple #[.string (readV M n).1, .int .i64 (readV M n).2]) ∧ w' = w := by
  unfold readV
  by_cases hb : isB n = true
  · obtain ⟨m, hm, rfl⟩ := isB_nat hb
    rw [if_pos hb, Int.toNat_natCast]
    exact read_any d v M m w hm hS.disk
  · rw [if_neg hb]
    exact read_none d n w (by simpa using hb)
theorem size_sat (hS : Sat w0 w (DiskV d v M :: F)) (n : Int) : Calls Tryd.prog 15 #[.pointer (some ⟨d, 0, none⟩), .int .i64 n] w fun e w' => e = .returned (.tuple #[.int .i64 (sizeV M n).1, .int .i64 (sizeV M n).2.1, .int .i64 (sizeV M n).2.2]) ∧ ∃ m, w' = w.drewN m := by
  unfold sizeV
  by_cases hb : isB n = true
  · obtain ⟨m, hm, rfl⟩ := isB_nat hb
    rw [if_pos hb, Int.toNat_natCast]
    exact size_any d v M m w hm hS.disk
  · rw [if_neg hb]
    refine (size_none d n w (by simpa using hb)).mono ?_
    rintro e w' ⟨rfl, rfl⟩
    exact ⟨rfl, 0, rfl⟩
theorem rread_sat (hS : Sat w0 w (X :: Blk r 83 (cellsR M) :: F)) (n : Int) : Calls Tryd.prog 39 #[.pointer (some ⟨r, 0, none⟩), .int .i64 n] w fun e w' => e = .returned (.tuple #[.string (readV M n).1, .int .i64 (readV M n).2]) ∧ w' = w := by
  unfold readV
  by_cases hb : isB n = true
  · obtain ⟨m, hm, rfl⟩ := isB_nat hb
    rw [if_pos hb, Int.toNat_natCast]
    exact rread_any r M m w hm hS.r2.blk
  · rw [if_neg hb]
    exact rread_none r n w (by simpa using hb)
theorem rsize_sat (hS : Sat w0 w (X :: Blk r 83 (cellsR M) :: F)) (n : Int) : Calls Tryd.prog 40 #[.pointer (some ⟨r, 0, none⟩), .int .i64 n] w fun e w' => e = .returned (.tuple #[.int .i64 (sizeV M n).1, .int .i64 (sizeV M n).2.1, .int .i64 (sizeV M n).2.2]) ∧ ∃ m, w' = w.drewN m := by
  unfold sizeV
  by_cases hb : isB n = true
  · obtain ⟨m, hm, rfl⟩ := isB_nat hb
    rw [if_pos hb, Int.toNat_natCast]
    exact rsize_any r M m w hm hS.r2.blk
  · rw [if_neg hb]
    refine (rsize_none r n w (by simpa using hb)).mono ?_
    rintro e w' ⟨rfl, rfl⟩
    exact ⟨rfl, 0, rfl⟩
theorem rapp_sat (hS : Sat w0 w (X :: Blk r 83 (cellsR M) :: F)) (hok : M.Ok) (n : Int) (s : ByteArray) (hs : s.size ≤ 9223372036854775807) :
    Calls Tryd.prog 32 #[.pointer (some ⟨r, 0, none⟩), .int .i64 n, .string s] w fun e w' => e = .returned (.int .i64 (appR M n s).2) ∧ Sat w0 w' (X :: Blk r 83 (cellsR (appR M n s).1) :: F) := by
  unfold appR
  by_cases hb : isB n = true
  · obtain ⟨m, hm, rfl⟩ := isB_nat hb
    rw [if_pos hb, Int.toNat_natCast]
    by_cases hf : (s.size : Int) ≤ M.room - M.used
    · rw [if_pos hf]
      refine (rappend_fits r M m s w hm hS.r2.blk hok hs hf).mono ?_
      rintro e w' ⟨rfl, ha, hc⟩
      exact ⟨rfl, (hS.r2.chg hc ha).r2⟩
    · rw [if_neg hf]
      refine (rappend_full r M m s w hm hS.r2.blk hok hs hf).mono ?_
      rintro e w' ⟨rfl, n, rfl⟩
      exact ⟨rfl, hS.drewN n⟩
  · rw [if_neg hb]
    refine (rappend_none r n s w (by simpa using hb)).mono ?_
    rintro e w' ⟨rfl, rfl⟩
    exact ⟨rfl, hS⟩
theorem rsync_sat (hS : Sat w0 w (X :: Blk r 83 (cellsR M) :: F)) (n : Int) :
    Calls Tryd.prog 33 #[.pointer (some ⟨r, 0, none⟩), .int .i64 n] w fun e w' => e = .returned (.int .i64 (syncR M n).2) ∧ Sat w0 w' (X :: Blk r 83 (cellsR (syncR M n).1) :: F) := by
  unfold syncR
  by_cases hb : isB n = true
  · obtain ⟨m, hm, rfl⟩ := isB_nat hb
    rw [if_pos hb, Int.toNat_natCast]
    refine (rsync_any r M m w hm hS.r2.blk).mono ?_
    rintro e w' ⟨rfl, ha, hc⟩
    exact ⟨rfl, (hS.r2.chg hc ha).r2⟩
  · rw [if_neg hb]
    refine (rsync_none r n w (by simpa using hb)).mono ?_
    rintro e w' ⟨rfl, rfl⟩
    exact ⟨rfl, hS⟩
theorem rcut_sat (hS : Sat w0 w (X :: Blk r 83 (cellsR M) :: F)) (hok : M.Ok) (n z : Int) :
    Calls Tryd.prog 60 #[.pointer (some ⟨r, 0, none⟩), .int .i64 n, .int .i64 z] w fun e w' => e = .returned (.int .i64 (cutR M n z).2) ∧ Sat w0 w' (X :: Blk r 83 (cellsR (cutR M n z).1) :: F) := by
  unfold cutR
  by_cases hb : isB n = true
  · obtain ⟨m, hm, rfl⟩ := isB_nat hb
    obtain ⟨h1, h2⟩ := ok_size hok m hm
    rw [if_pos hb, Int.toNat_natCast]
    by_cases hz : 0 ≤ z ∧ z ≤ (M.f m).b.size
    · rw [if_pos hz]
      obtain ⟨y, rfl⟩ : ∃ y : Nat, z = (y : Int) := ⟨z.toNat, by omega⟩
      rw [Int.toNat_natCast]
      refine (rcut_ok r M m y w hm hS.r2.blk (by omega) h1 h2).mono ?_
      rintro e w' ⟨rfl, ha, hc⟩
      exact ⟨rfl, (hS.r2.chg hc ha).r2⟩
    · rw [if_neg hz]
      refine (rcut_bad r M m z w hm hS.r2.blk hz).mono ?_
      rintro e w' ⟨rfl, rfl⟩
      exact ⟨rfl, hS⟩
  · rw [if_neg hb]
    refine (rcut_none r n z w (by simpa using hb)).mono ?_
    rintro e w' ⟨rfl, rfl⟩
    exact ⟨rfl, hS⟩
theorem rcrash_sat (hS : Sat w0 w (X :: Blk r 83 (cellsR M) :: F)) (hok : M.Ok) (keep : Int) (hk : wf64 keep) :
    Calls Tryd.prog 49 #[.pointer (some ⟨r, 0, none⟩), .int .i64 keep] w fun e w' => e = .returned (.tuple #[]) ∧ Sat w0 w' (X :: Blk r 83 (cellsR (crashM M keep.toNat)) :: F) := by
  refine (rcrash_any r M keep w0 w (X :: F) hS.r2 hok hk).mono ?_
  rintro e w' ⟨rfl, h⟩
  exact ⟨rfl, h.r2⟩
theorem copy_sat {L : List HP} (hS : Sat w0 w (DiskV d v M :: L)) (hok : M.Ok) :
    Calls Tryd.prog 27 #[.pointer (some ⟨d, 0, none⟩)] w fun e w' => ∃ g v', e = .returned (.pointer (some ⟨g, 0, none⟩)) ∧ Sat w0 w' (DiskV g v' M :: DiskV d v M :: L) := by
  refine (copy_any d v M w hS.disk hok).mono ?_
  rintro e w' ⟨g, v', rfl, hD, hf, hb⟩
  exact ⟨g, v', rfl, hS.diskNew hb hD hf⟩
end
end Go.Proofs.YtjlpgjfgeikdeaaDoor
end

section
/- Lists of pieces; the list of pairs of disks. -/
set_option linter.unusedVariables false
set_option linter.unusedSimpArgs false
set_option linter.unnecessarySimpa false
set_option maxRecDepth 100000
namespace Go.Proofs.YtjlpgjfgeikdeaaDoor
open Go.RowKit Go.ChangeShapes Go.WideShapes Go.ChangeAt
section
variable {w0 w w' : World} {F L Ps : List HP} {X : HP}
theorem perm_set {α : Type} : ∀ (l : List α) (i : Nat) (h : i < l.length) (x : α), (l.set i x).Perm (x :: l.eraseIdx i)
  | a :: l, 0, _, x => by simp
  | a :: l, i + 1, h, x => by
    simp only [List.set_cons_succ, List.eraseIdx_cons_succ]
    exact ((perm_set l i (by simpa using h) x).cons a).trans (List.Perm.swap x a _)
theorem perm_at {α : Type} (l : List α) (i : Nat) (h : i < l.length) : l.Perm (l[i] :: l.eraseIdx i) := by
  have := perm_set l i h l[i]
  rwa [List.set_getElem_self] at this
/-- a piece of a list of pieces to the front -/
theorem Sat.focus (h : Sat w0 w (sep Ps :: F)) (i : Nat) (hi : i < Ps.length) : Sat w0 w (Ps[i] :: sep (Ps.eraseIdx i) :: F) := by
  have h1 : Sat w0 w (Ps.eraseIdx i ++ (Ps[i] :: F)) := h.open_.perm (((perm_at Ps i hi).append_right F).trans List.perm_middle.symm)
  exact (Sat.close h1).r2
theorem Sat.unfocus (i : Nat) (hi : i < Ps.length) (h : Sat w0 w (X :: sep (Ps.eraseIdx i) :: F)) : Sat w0 w (sep (Ps.set i X) :: F) := by
  have h1 : Sat w0 w (Ps.eraseIdx i ++ (X :: F)) := h.r2.open_
  exact Sat.close (h1.perm (List.perm_middle.trans ((perm_set Ps i hi X).symm.append_right F)))
theorem Sat.snoc (h : Sat w0 w (X :: sep Ps :: F)) : Sat w0 w (sep (Ps ++ [X]) :: F) := by
  have h1 : Sat w0 w (Ps ++ (X :: F)) := h.r2.open_
  exact Sat.close (M := Ps ++ [X]) (by simpa using h1)
/-- a block that a call has made -/
theorem Sat.made {g t : Nat} {vs : List Value} (h : Sat w0 w L) (hb : Below w.heap.size w w') (hg : w.heap.size ≤ g) (ha : At w' g t vs) : Sat w0 w' (Blk g t vs :: L) := by
  have far := h.below hb
  refine ⟨far.os, far.tape, far.output, far.size, fun k => if k = g then some (.cells vs.toArray t) else none, hp w, fun k x hk => ?_, fun k o hk => ?_, fun k => ?_, by simp [Blk, BlkO], h.own⟩
  · by_cases e : k = g
    · subst e; simp at hk; subst hk; exact ha
    · simp [e] at hk
  · exact (hb.block k (Array.getElem?_eq_some_iff.1 hk).1).trans hk
  · by_cases e : k = g
    · subst e; exact .inr (Array.getElem?_eq_none hg)
    · exact .inl (by simp [e])
end
end Go.Proofs.YtjlpgjfgeikdeaaDoor
end

section
/- What the reading of arguments gives: slices of records, arrays, records. -/
set_option linter.unusedVariables false
set_option linter.unusedSimpArgs false
set_option linter.unnecessarySimpa false
namespace Go.Proofs.YtjlpgjfgeikdeaaDoor
open Go.RowKit Go.ChangeShapes Go.WideShapes Go.ChangeAt
/-- a slice of records of sz cells each -/
def Elems (w : World) (v : Value) (sz : Nat) (L : List (List Value)) : Prop :=
  ∃ (A : Option Addr) (c : Nat), v = .slice A L.length c ∧ L.length ≤ c ∧ c ≤ maxLen ∧ (∀ x ∈ L, x.length = sz) ∧
    (L = [] ∨ ∃ b o, A = some ⟨b, o, none⟩ ∧ ∀ i, i < L.length → ∀ j, j < sz → w.cell? ⟨b, o + i * sz + j, none⟩ = (L.getD i [])[j]?)
theorem Elems.keep {w w' : World} {v : Value} {sz : Nat} {L : List (List Value)} (h : Elems w v sz L) (hb : Below w.heap.size w w') : Elems w' v sz L := by
  obtain ⟨A, c, e, hc, hm, hl, h⟩ := h
  refine ⟨A, c, e, hc, hm, hl, h.imp id ?_⟩
  rintro ⟨b, o, rfl, hcell⟩
  refine ⟨b, o, rfl, fun i hi j hj => (hb.cell ?_).trans (hcell i hi j hj)⟩
  have h0 := hcell i hi j hj
  show b < w.heap.size
  rcases Nat.lt_or_ge b w.heap.size with h' | h'
  · exact h'
  · have hx : (L.getD i []).length = sz := hl _ (by rw [← List.getElem_eq_getD (h := hi)]; exact List.getElem_mem _)
    rw [List.getElem?_eq_getElem (by omega)] at h0
    simp [World.cell?, Array.getElem?_eq_none h'] at h0
theorem Elems.at_ {w : World} {A : Option Addr} {n c sz : Nat} {L : List (List Value)} (h : Elems w (.slice A n c) sz L) : n = L.length ∧ L.length ≤ maxLen ∧
    (0 < L.length → ∃ b o, A = some ⟨b, o, none⟩ ∧ ∀ i, i < L.length → ∀ j, j < sz → w.cell? ⟨b, o + i * sz + j, none⟩ = (L.getD i [])[j]?) := by
  obtain ⟨A', c', e, hc, hm, hl, h⟩ := h
  injection e with e1 e2 e3
  subst e1 e2 e3
  refine ⟨rfl, by omega, fun hp => ?_⟩
  rcases h with rfl | h
  · simp at hp
  · exact h
theorem elems_of {H : Type} {enc : TypeId × Value → H} {P : Program} {W : World} {base : Nat} {spare : Nat → Bool} {held : Bool} {t e : TypeId} {a : Option Addr} {len cap sz : Nat} {d : DataW H} {ps : List MemPlace}
    (hu : P.underlying t = some (.slice e)) (hc : P.cellsOf e = sz) (hs : 0 < sz) (h : DataW.Trod enc P W base spare held t (.slice a len cap) d ps) :
    ∃ (L : List (List Value)) (ys rs : List (DataW H)), Elems W (.slice a len cap) sz L ∧ ys.length = L.length ∧ ((L = [] ∧ d = .nil) ∨ d = .slice ys rs) ∧
      ∀ i, i < L.length → ∃ m p, DataW.trod enc P W base spare held m e (L.getD i []) = some (ys.getD i .nil, p) := by
  obtain ⟨fuel, hf⟩ := h
  rcases DataW.trod_slice hu hf with ⟨h0, hx⟩ | ⟨x, l, c, elems, rest, n, _, hcs, hx, hb, hl, hm, hlen, hel, _, _⟩
  · simp [Value.cells] at h0
    obtain ⟨rfl, rfl, rfl⟩ := h0
    injection hx with hx _
    exact ⟨[], [], [], ⟨none, 0, rfl, Nat.le_refl _, Nat.zero_le _, by simp, .inl rfl⟩, rfl, .inl ⟨rfl, hx⟩, by simp⟩
  · simp [Value.cells] at hcs
    obtain ⟨rfl, rfl, rfl⟩ := hcs
    injection hx with hx _
    have each : ∀ i, i < len → ∃ cs y, W.cells? base (x.add (i * sz)) sz = some cs ∧ DataW.trod enc P W base spare held n e cs = some y ∧ elems[i]? = some y := by
      intro i hi
      have h1 := hel i hi
      have h2 : ∃ y, elems[i]? = some y := ⟨elems[i]'(by omega), by simp [hlen, hi]⟩
      obtain ⟨y, hy⟩ := h2
      rw [hy, hc, Option.bind_eq_some_iff] at h1
      obtain ⟨cs, h3, h4⟩ := h1
      exact ⟨cs, y, h3, h4, hy⟩
    have hL : ∃ L : List (List Value), L.length = len ∧ ∀ i, i < len → W.cells? base (x.add (i * sz)) sz = some (L.getD i []) := by
      refine ⟨(List.range len).map fun i => (W.cells? base (x.add (i * sz)) sz).getD [], by simp, fun i hi => ?_⟩
      obtain ⟨cs, y, h1, _⟩ := each i hi
      simp [List.getD, hi, h1]
    obtain ⟨L, hLl, hL⟩ := hL
    have hlenx : ∀ z ∈ L, z.length = sz := by
      intro z hz
      obtain ⟨i, hi, rfl⟩ := List.getElem_of_mem hz
      have h1 := hL i (by omega)
      rw [← List.getElem_eq_getD (h := hi)] at h1
      exact (World.cells?_some h1).2.1
    refine ⟨L, elems.map (·.1), rest.map (·.1), ⟨some x, cap, by rw [hLl], by omega, hm, hlenx, ?_⟩, by rw [List.length_map]; omega, .inr hx, ?_⟩
    · by_cases hz : L = []
      · exact .inl hz
      · refine .inr ?_
        have hp : 0 < len := by
          rw [← hLl]; cases L with
          | nil => exact absurd rfl hz
          | cons => simp
        obtain ⟨b, o, spot⟩ := x
        have h1 := (World.cells?_some (hL 0 hp)).2.2 0 hs
        have hx0 : (L.getD 0 []).length = sz := (World.cells?_some (hL 0 hp)).2.1
        rw [List.getElem?_eq_getElem (by omega)] at h1
        have hspot : spot = none := by
          have := World.cell?_spot h1
          simpa [Addr.add] using this
        subst hspot
        refine ⟨b, o, rfl, fun i hi j hj => ?_⟩
        have h2 := (World.cells?_some (hL i (by omega))).2.2 j hj
        rw [← h2]
        congr 1
        unfold Addr.add
        split <;> split <;> simp_all
    · intro i hi
      obtain ⟨cs, y, h1, h2, h3⟩ := each i (by omega)
      have h4 := hL i (by omega)
      rw [h1] at h4
      injection h4 with h4
      refine ⟨n, y.2, ?_⟩
      rw [← h4, h2]
      simp [List.getD, h3]
theorem ints4 {H : Type} {enc : TypeId × Value → H} {P : Program} {W : World} {base fuel : Nat} {spare : Nat → Bool} {held : Bool} {t e : TypeId} {cs : List Value} {x : DataW H × List MemPlace}
    (ht : P.underlying t = some (.array 4 e)) (he : P.underlying e = some (.int .i64)) (hc : P.cellsOf e = 1) (hc4 : P.cellsOf t = 4) (h : DataW.trod enc P W base spare held fuel t cs = some x) :
    ∃ a b c d : Int, cs = [.int .i64 a, .int .i64 b, .int .i64 c, .int .i64 d] ∧ (Lit.int .i64 a).wf = true ∧ (Lit.int .i64 b).wf = true ∧ (Lit.int .i64 c).wf = true ∧ (Lit.int .i64 d).wf = true ∧
      x.1 = .agg [.lit (.int .i64 a), .lit (.int .i64 b), .lit (.int .i64 c), .lit (.int .i64 d)] := by
  obtain ⟨xs, m, rfl, hx, hlen, hn, hel⟩ := DataW.trod_array ht h
  rw [hc4] at hlen
  match cs, hlen with
  | [c0, c1, c2, c3], _ =>
    match xs, hn with
    | [x0, x1, x2, x3], _ =>
      have h0 := hel 0 (by decide)
      have h1 := hel 1 (by decide)
      have h2 := hel 2 (by decide)
      have h3 := hel 3 (by decide)
      rw [hc] at h0 h1 h2 h3
      obtain ⟨k0, e0, f0, w0⟩ := DataW.trod_int he (x := x0) h0
      obtain ⟨k1, e1, f1, w1⟩ := DataW.trod_int he (x := x1) h1
      obtain ⟨k2, e2, f2, w2⟩ := DataW.trod_int he (x := x2) h2
      obtain ⟨k3, e3, f3, w3⟩ := DataW.trod_int he (x := x3) h3
      simp at e0 e1 e2 e3
      subst e0 e1 e2 e3 f0 f1 f2 f3
      exact ⟨k0, k1, k2, k3, rfl, w0, w1, w2, w3, by rw [hx]; rfl⟩
end Go.Proofs.YtjlpgjfgeikdeaaDoor
end
