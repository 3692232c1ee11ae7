/- The laws' own functions: same, has, filled, pick, live. -/
import Derived.Test.YtbgbpibfmdkndaaRL
import Derived.Test.YtbgbpibfmdkndaaRJ
set_option linter.unusedVariables false
set_option linter.unusedSimpArgs false
set_option linter.unnecessarySimpa false
set_option maxRecDepth 100000
namespace Go.Proofs.Ytbgbpibfmdkndaa
open Go.RowKit Go.ChangeShapes Go.WideShapes Go.ChangeAt
def SmR (w : World) (n : Nat) (L M : List Int) (i : Value) (wr : World) : Prop := ∃ k : Nat, k ≤ n ∧ i = .int .i64 k ∧ (∀ j, j < k → L.getD j 0 = M.getD j 0) ∧ ∃ m, wr = w.drewN m
theorem same_ext {L M : List Int} (hl : L.length = M.length) (h : ∀ j, j < L.length → L.getD j 0 = M.getD j 0) : L = M := by
  refine List.ext_getElem hl fun j h1 h2 => ?_
  have := h j h1
  rw [← List.getElem_eq_getD (h := h1), ← List.getElem_eq_getD (h := h2)] at this
  exact this
set_option maxHeartbeats 1600000 in
theorem same_any {w : World} {A B : Option Addr} {c e : Nat} {L M : List Int} (h1 : NsAt w A L) (h2 : NsAt w B M) (hl : L.length ≤ 1000000) (hm : M.length ≤ 1000000) :
    Calls Try.prog 25 #[.slice A L.length c, .slice B M.length e] w fun en w' => en = .returned (.bool (decide (L = M))) ∧ ∃ n, w' = w.drewN n := by
  by_cases hlen : L.length = M.length
  · obtain ⟨n, hn⟩ : ∃ n, M.length = n := ⟨_, rfl⟩
    have HLN : Hid (L.length = n) := hlen.trans hn
    have HMN := Lib.hid hn
    rw [hlen, hn]
    rw [hn] at hm
    have t0 : ((n : Int) != (n : Int)) = false := by rw [bne_eq_false_iff_eq]
    clear hlen hn hl
    have H1 := Lib.hid h1
    have H2 := Lib.hid h2
    clear h1 h2
    go_enter Try.func25, Try.ntmps25
    go_wp2_with fail
    clear t0
    go_loopw [5] (SmR w n L M) (fun i _ => n - (intOf i).toNat)
    case atStart => exact ⟨0, Nat.zero_le _, rfl, fun j hj => absurd hj (Nat.not_lt_zero _), 0, rfl⟩
    case round =>
      obtain ⟨k, hk, rfl, htk, m, hwr⟩ := hrel
      have HTK := Lib.hid htk
      have HWR := Lib.hid hwr
      clear htk
      by_cases hlt : k < n
      · obtain ⟨b1, o1, rfl, c1⟩ := H1.out.resolve_left (by rintro rfl; have := HLN.out; simp at this; omega)
        obtain ⟨b2, o2, rfl, c2⟩ := H2.out.resolve_left (by rintro rfl; have := HMN.out; simp at this; omega)
        have e1 : wr.cell? ⟨b1, o1 + k, none⟩ = some (.int .i64 (L.getD k 0)) := by rw [hwr]; exact c1 k (by rw [HLN.out]; exact hlt)
        have e2 : wr.cell? ⟨b2, o2 + k, none⟩ = some (.int .i64 (M.getD k 0)) := by rw [hwr]; exact c2 k (by rw [HMN.out]; exact hlt)
        obtain ⟨x, hx⟩ : ∃ x, L.getD k 0 = x := ⟨_, rfl⟩
        obtain ⟨y, hy⟩ : ∃ x, M.getD k 0 = x := ⟨_, rfl⟩
        rw [hx] at e1
        rw [hy] at e2
        have HX := Lib.hid hx
        have HY := Lib.hid hy
        clear c1 c2 hx hy hwr
        by_cases hxy : x = y
        · have t1 : (x != y) = false := by rw [hxy]; simp
          have HT2 : Hid (∀ j, j < k + 1 → L.getD j 0 = M.getD j 0) := fun j hj => by
            by_cases hjk : j < k
            · exact HTK.out j hjk
            · obtain rfl : j = k := by omega
              rw [HX.out, HY.out, hxy]
          clear hxy
          go_wp2_with fail
          go_quiet (fail)
          go_wp2_with fail
          go_roundw
          case rel => exact ⟨k + 1, by omega, by go_num, HT2.out, m + nq, by rw [HWR.out]; first | rfl | exact World.drewN_drewN w m nq⟩
          case measure => simp [intOf]; omega
        · have HE : Hid (decide (L = M) = false) := decide_eq_false (fun h => hxy (by rw [← HX.out, ← HY.out, h]))
          have t1 : (x != y) = true := by simp [hxy]
          clear hxy
          go_wp2_with fail
          go_quiet (fail)
          go_wp2
          go_ret
          exact ⟨by rw [HE.out]; rfl, m + nq, by rw [HWR.out]; first | rfl | exact World.drewN_drewN w m nq⟩
      · have HE : Hid (decide (L = M) = true) := decide_eq_true (same_ext (HLN.out.trans HMN.out.symm) fun j hj => HTK.out j (by rw [HLN.out] at hj; omega))
        clear hwr
        go_wp2
        go_ret
        exact ⟨by rw [HE.out]; rfl, m, HWR.out⟩
  · have t0 : ((L.length : Int) != (M.length : Int)) = true := by rw [bne_iff_ne]; omega
    have t0' : (L.length == M.length) = false := by simpa using hlen
    have HE : Hid (decide (L = M) = false) := decide_eq_false (fun h => hlen (by rw [h]))
    clear hlen h1 h2
    go_enter Try.func25, Try.ntmps25
    go_wp2
    go_ret
    exact ⟨by rw [HE.out]; rfl, 0, rfl⟩
section
variable {w w0 : World} {F : List HP}
theorem delay_l : delE [3, 5, 5] 9 = (5, 0) := by decide
theorem may_l : mayB [2, 4] = true := by decide
theorem set_l : setL [] 1 (laterV 0 (delayV [2, 4] 0)) = [(1, 2)] := by decide
theorem set_m : setL [] 1 (laterV 0 10) = [(1, 10)] := by decide
theorem put_l : putE [] 1 0 = [(1, 0)] := by decide
theorem due_l : dueN [(1, 2)] 2 = 1 ∧ dueN [(1, 10)] 2 = 0 ∧ sortI (dueIds [(1, 2)] 2) = [1] ∧ sortI (dueIds [(1, 10)] 2) = [] := by
  refine ⟨by decide, by decide, ?_, ?_⟩
  · rw [show dueIds [(1, 2)] 2 = [1] by decide]; unfold sortI; simp
  · rw [show dueIds [(1, 10)] 2 = [] by decide]; unfold sortI; simp
theorem blkNs {g : Nat} {l : List Int} (h : Sat w0 w (Blk g 3 (nums l) :: F)) : NsAt w (some ⟨g, 0, none⟩) l := by
  refine .inr ⟨g, 0, rfl, fun j hj => ?_⟩
  rw [Nat.zero_add, h.blk.cell j]
  simp [nums, hj]
set_option maxHeartbeats 3200000 in
theorem live_any (hS : Sat w0 w F) : Calls Try.prog 10 #[] w fun e w' => e = .returned (.bool true) ∧ Sat w0 w' F := by
  obtain ⟨g, hg⟩ : ∃ g, w.heap.size = g := ⟨_, rfl⟩
  have h0 := hS.new #[.int .i64 3, .int .i64 5, .int .i64 5] 3
  rw [hg] at h0
  have HD : Hid (∀ W, Sat w0 W (Blk g 3 (nums [3, 5, 5]) :: F) → Calls Try.prog 11 #[.slice (some ⟨g, 0, none⟩) 3 3, .int .i64 9] W fun e w' => e = .returned (.tuple #[.int .i64 5, .int .i64 0]) ∧ Sat w0 w' F) := fun W h => by
    have h2 := delay_any (c := 3) (tries := 9) (by unfold wf64; decide) (blkNs h)
    rw [delay_l] at h2
    refine h2.mono ?_
    rintro e w' ⟨rfl, q, rfl⟩
    exact ⟨rfl, h.tail.drewN q⟩
  have HN : Hid (∀ W g, Sat w0 W (Blk g 3 (nums [2, 4]) :: F) → Calls Try.prog 8 #[.slice (some ⟨g, 0, none⟩) 2 2, .int .i64 10] W fun e w' => ∃ r, e = .returned (.tuple #[.pointer (some ⟨r, 0, none⟩), .int .i64 0]) ∧ Sat w0 w' (RetP r [2, 4] 10 [] [] [] :: F)) := fun W g h =>
    (new_ok (c := 2) (blkNs h) may_l (by decide) h.tail)
  have HBG : Hid (∀ W r, Sat w0 W (RetP r [2, 4] 10 [] [] [] :: F) → Calls Try.prog 15 #[.pointer (some ⟨r, 0, none⟩), .int .i64 1, .int .i64 0] W fun e w' => e = .returned (.int .i64 0) ∧ Sat w0 w' (RetP r [2, 4] 10 [(1, 2)] [(1, 10)] [(1, 0)] :: F)) := fun W r h => by
    have h2 := begin_ok (id := 1) (now := 0) (M := []) rfl (by decide) (by decide) may_l (by decide) (by decide) (by decide) List.nodup_nil h
    rw [set_l, set_m, put_l] at h2
    exact h2
  have HDU : Hid (∀ W r, Sat w0 W (RetP r [2, 4] 10 [(1, 2)] [(1, 10)] [(1, 0)] :: F) → Calls Try.prog 16 #[.pointer (some ⟨r, 0, none⟩), .int .i64 2] W fun e w' => ∃ A1 c1 A2 c2, e = .returned (.tuple #[.slice A1 1 c1, .slice A2 0 c2]) ∧ Sat w0 w' (Row 3 1 A1 1 c1 (nums [1]) :: F)) := fun W r h => by
    have h2 := due_ok (now := 2) (N := 0) (by decide) may_l (by decide) (by decide) (by decide) (by decide) (by intro m hm; simp at hm; subst hm; decide) h
    obtain ⟨d1, d2, d3, d4⟩ := due_l
    rw [d1, d2, d3, d4] at h2
    refine h2.mono ?_
    rintro e w' ⟨A1, c1, A2, c2, rfl, h3⟩
    exact ⟨A1, c1, A2, c2, rfl, h3.r3.tail.r2.tail⟩
  have HSM : Hid (∀ W A1 c1 g2, Sat w0 W (Blk g2 3 (nums [1]) :: Row 3 1 A1 1 c1 (nums [1]) :: F) → Calls Try.prog 25 #[.slice A1 1 c1, .slice (some ⟨g2, 0, none⟩) 1 1] W fun e w' => e = .returned (.bool true) ∧ Sat w0 w' F) := fun W A1 c1 g2 h => by
    refine (same_any (c := c1) (e := 1) (L := [1]) (M := [1]) (Sat.rowNs h.r2) (blkNs h) (by decide) (by decide)).mono ?_
    rintro e w' ⟨rfl, q, rfl⟩
    exact ⟨by rw [decide_eq_true rfl], h.tail.tail.drewN q⟩
  have H0 := Lib.hid h0
  clear hS h0
  go_enter Try.func10, Try.ntmps10
  go_wp2_with fail
  try simp only [hg]
  refine (HD.out _ H0.out).mono ?_
  rintro e w1 ⟨rfl, h1⟩
  have H1 := Lib.hid (h1.new #[.int .i64 2, .int .i64 4] 3)
  clear h1 H0 HD
  go_wp2_with fail
  refine (HN.out _ _ H1.out).mono ?_
  rintro e w2 ⟨r, rfl, h2⟩
  have H2 := Lib.hid h2
  clear h2 H1 HN
  go_wp2_with fail
  refine (HBG.out _ _ H2.out).mono ?_
  rintro e w3 ⟨rfl, h3⟩
  have H3 := Lib.hid h3
  clear h3 H2 HBG
  go_wp2_with fail
  refine (HDU.out _ _ H3.out).mono ?_
  rintro e w4 ⟨A1, c1, A2, c2, rfl, h4⟩
  have H4 := Lib.hid (h4.new #[.int .i64 1] 3)
  clear h4 H3 HDU
  go_wp2_with fail
  refine (HSM.out _ _ _ _ H4.out).mono ?_
  rintro e w5 ⟨rfl, h5⟩
  have H5 := Lib.hid h5
  clear h5 H4 HSM
  go_wp2_with fail
  go_ret
  exact ⟨rfl, H5.out⟩
end
end Go.Proofs.Ytbgbpibfmdkndaa
