/- The wheel: Due. -/
import Derived.Test.YtbgbpibfmdkndaaWG
set_option linter.unusedVariables false
set_option linter.unusedSimpArgs false
set_option linter.unnecessarySimpa false
set_option maxRecDepth 100000
namespace Go.Proofs.Ytbgbpibfmdkndaa
open Go.RowKit Go.ChangeShapes Go.WideShapes Go.ChangeAt
theorem info3 : (Try.prog.info? 3).map (fun i => (i.zero, i.size, i.bytes)) = some (some (.int .i64 0), 1, 8) := by kernel_rfl
def ids (L : List Tm) : List Value := L.map fun x => .int .i64 x.1
theorem ids_len (L : List Tm) : (ids L).length = L.length := by simp [ids]
theorem ids_next (L : List Tm) (k : Nat) (h : k < L.length) : ids (L.take (k + 1)) = ids (L.take k) ++ [.int .i64 L[k].1] := by
  unfold ids
  rw [List.take_succ_eq_append_getElem h, List.map_append]
  rfl
def dueN (L : List Tm) (now : Int) : Nat := firstN L (isLate now)
theorem make3 (n : Nat) (hn : n ≤ 1000000) (W : World) : (Instr.makeSlice 22 (.int .i64 0) (.int .i64 (n : Int))).run Try.prog W = .ok (.slice (some ⟨W.heap.size, 0, none⟩) 0 n) (W.alloc (.cells (madeCells #[.int .i64 0] n) 3)) := by
  obtain ⟨i0, hi, hz0, hz1, hz2⟩ := info_parts info3
  have := run_make (P := Try.prog) W 22 3 i0 (.int .i64 0) Try.underlying22 hi hz0 .i64 .i64 0 n (by omega) (by omega) (by rw [hz2]; omega) (by omega)
  rw [hz1, show (n : Int).toNat * 1 = n by omega] at this
  exact this
section
variable {w0 w : World} {F : List HP} {g T E n c : Nat} {A : Option Addr} {L : List Tm}
theorem Sat.made3 (hS : Sat w0 w F) (n : Nat) (hn : n ≤ 1000000) : Sat w0 (w.alloc (.cells (madeCells #[.int .i64 0] n) 3)) (Row 3 1 (some ⟨w.heap.size, 0, none⟩) 0 n [] :: F) := by
  refine (hS.new (madeCells #[.int .i64 0] n) 3).rowOf' (Nat.zero_le _) (by unfold maxLen; omega) ?_ (by simp)
  simp [madeCells]
def DueRel (w0 : World) (G : List HP) (L : List Tm) (n : Nat) (out i : Value) (wr : World) : Prop :=
  ∃ (k : Nat) (A' : Option Addr) (c' : Nat), k ≤ n ∧ i = .int .i64 k ∧ out = .slice A' k c' ∧ Sat w0 wr (Row 3 1 A' k c' (ids (L.take k)) :: G)
set_option maxHeartbeats 1600000 in
theorem wdue_any (now : Int) (hS : Sat w0 w (WheelC g 68 70 L :: F)) (hm : L.length ≤ 1000000) :
    Calls Try.prog 35 #[.pointer (some ⟨g, 0, none⟩), .int .i64 now] w fun e w' => ∃ A' c', e = .returned (.slice A' (dueN L now) c') ∧ Sat w0 w' (Row 3 1 A' (dueN L now) c' (ids (L.take (dueN L now))) :: WheelC g 68 70 (L.drop (dueN L now)) :: F) := by
  obtain ⟨A, c, hS⟩ := hS.openW
  obtain ⟨ii, hii, hz, hsz, hby⟩ := info_parts info3
  have h1 := hS.new #[.int .i64 now] 3
  obtain ⟨b, hb⟩ : ∃ b, w.heap.size = b := ⟨_, rfl⟩
  rw [hb] at h1
  have HT : Hid (Tells (w.alloc (.cells #[.int .i64 now] 3)) 47 #[.pointer (some ⟨b, 0, none⟩)] (isLate now)) := tells30 b now (by rw [← hb]; simp) (h1.blk.cell 0)
  have HF := Lib.hid (first_any30 #[.pointer (some ⟨b, 0, none⟩)] (isLate now) HT.out h1.r3 hm)
  have hfl := first_le L (isLate now)
  have HDN : Hid (dueN L now = firstN L (isLate now)) := rfl
  obtain ⟨q, hq⟩ : ∃ q, firstN L (isLate now) = q := ⟨_, rfl⟩
  rw [hq] at HF hfl HDN
  rw [HDN.out]
  unfold Quietly at HF
  have c0 : (w.alloc (.cells #[.int .i64 now] 3)).cell? ⟨g, 0, none⟩ = some (.slice A L.length c) := h1.r2.blk.cell 0
  have hcap := h1.r3.rowCap
  unfold maxLen at hcap
  obtain ⟨hcap1, hcap2⟩ := hcap
  have H1 := Lib.hid h1
  have hmk := make3 q (by omega)
  clear hq h1 hS HT HDN
  go_enter Try.func35, Try.ntmps35
  go_wp2_with fail
  try simp only [hb]
  refine HF.out.mono ?_
  rintro e w1 ⟨rfl, hbl⟩
  have h2 := H1.out.below hbl
  have h3 := h2.made3 q (by omega)
  have c1 : (w1.alloc (.cells (madeCells #[.int .i64 0] q) 3)).cell? ⟨g, 0, none⟩ = some (.slice A L.length c) := h3.r3.blk.cell 0
  have H3 := Lib.hid h3
  obtain ⟨r, hr⟩ : ∃ r, w1.heap.size = r := ⟨_, rfl⟩
  rw [hr] at H3
  clear hbl c0 H1 hb HF h2 h3
  go_wp2_with fail
  try simp only [hr]
  go_loopw [6, 24] (DueRel w0 (Blk b 3 [.int .i64 now] :: Blk g 68 [.slice A L.length c] :: Row 70 2 A L.length c (tc L) :: F) L q) (fun _ i _ => q - (intOf i).toNat)
  case atStart => exact ⟨0, _, _, Nat.zero_le _, rfl, rfl, H3.out⟩
  case round =>
    obtain ⟨k, A', c', hk, rfl, rfl, hT⟩ := hrel
    clear H3 c1
    by_cases hlt : k < q
    · obtain ⟨a, rfl, hc⟩ := tm_cells hT.r4 (by omega)
      obtain ⟨e1, e2⟩ := hc k (by omega)
      have HN := Lib.hid (ids_next L k (by omega))
      obtain ⟨⟨x, y⟩, hx⟩ : ∃ x, L[k] = x := ⟨_, rfl⟩
      rw [hx] at e1 e2 HN
      simp only at e1 e2 HN
      have h4 : k + 1 ≤ maxLen := by unfold maxLen; omega
      have h5 : (k + 1) * 8 ≤ 140737488355328 := by omega
      have HA := Lib.hid ((hT.new #[.int .i64 x, .int .i64 y] 70).r2.new #[.int .i64 x] 3)
      have hsz2 : (wr.alloc (.cells #[.int .i64 x, .int .i64 y] 70)).heap.size = wr.heap.size + 1 := by simp
      rw [hsz2] at HA
      clear hc hx hT hsz2
      go_wp2_with (at_builtin; refine wpList_app1 rfl (.tmp 28) (.tmp 31) 22 rfl 3 ii (.int .i64 0) 1 8 Try.underlying22 hii hz hsz hby rfl (by decide) rfl HA.out (by rfl) rfl (by intro u hu; simp at hu; subst hu; rfl) h4 h5 ?_; intro A2 c2 w2 hS2; clear e1 e2)
      go_roundw
      case rel => exact ⟨k + 1, A2, c2, by omega, by go_num, rfl, by rw [HN.out]; exact hS2.r2.tail⟩
      case measure => simp [intOf]; omega
    · obtain rfl : k = q := by omega
      have x0 : wr.cell? ⟨g, 0, none⟩ = some (.slice A L.length c) := hT.r3.blk.cell 0
      by_cases h0 : k = 0
      · subst h0
        have HD := Lib.hid (del_none 0 hT.r4 (Nat.zero_le _))
        have xf : wr.frozen? ⟨g, 0, none⟩ = false := hT.r3.blk.free 0
        have H4 := Lib.hid ((hT.r3.set 0 (.slice A L.length c)).r3.tail.r2)
        clear hT
        go_wp2_with fail
        refine HD.out.mono ?_
        rintro e w2 ⟨rfl, rfl⟩
        go_wp2_with fail
        go_ret
        rw [List.drop_zero]
        exact ⟨_, _, rfl, (Sat.closeW rfl H4.out.r2.r3.r2).r2⟩
      · have HD := Lib.hid (del_some 0 k hT.r4 (by omega) hfl (tc_one L))
        rw [Nat.zero_mul, List.take_zero, List.nil_append, tc_drop, Nat.zero_add] at HD
        clear hT
        go_wp2_with fail
        refine HD.out.mono ?_
        rintro e w2 ⟨rfl, h3⟩
        have y0 : w2.cell? ⟨g, 0, none⟩ = some (.slice A L.length c) := h3.r4.blk.cell 0
        have yf : w2.frozen? ⟨g, 0, none⟩ = false := h3.r4.blk.free 0
        have H4 := Lib.hid (h3.r4.set 0 (.slice A (L.length - k) c))
        clear h3 x0
        go_wp2_with fail
        go_ret
        exact ⟨_, _, rfl, (Sat.closeW (by simp) (H4.out.r4.tail.r2.r2)).r2⟩
end
end Go.Proofs.Ytbgbpibfmdkndaa
