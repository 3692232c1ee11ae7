/- The document's Moved. -/
import Derived.Test.YtbgbpibfmdkndaaRD
set_option linter.unusedVariables false
set_option linter.unusedSimpArgs false
set_option linter.unnecessarySimpa false
set_option maxRecDepth 100000
namespace Go.Proofs.Ytbgbpibfmdkndaa
open Go.RowKit Go.ChangeShapes Go.WideShapes Go.ChangeAt
section
variable {w w0 : World} {F : List HP} {x : Nat} {t : List Int} {dl : Int} {W : List Wt}
theorem bad_moved {id now : Int} (h : ¬ (waitsB W id = true ∧ tickB now = true)) : movedE t W id now = (1, W) := by unfold movedE; rw [if_neg h]
set_option maxHeartbeats 6400000 in
theorem rmoved_any (id now : Int) (hW : W.length = 61) (hm : mayB t = true) (hS : Sat w0 w (RDoc x t dl W :: F)) :
    Calls Try.prog 22 #[.pointer (some ⟨x, 0, none⟩), .int .i64 id, .int .i64 now] w fun e w' => e = .returned (.int .i64 (movedE t W id now).1) ∧ Sat w0 w' (RDoc x t dl (movedE t W id now).2 :: F) := by
  have HC := Lib.hid (rtick_any (now := now) (w := w))
  have HC39 := Lib.hid (rwaits_any id hW hS)
  have HS := Lib.hid hS
  by_cases hw : waitsB W id = true
  · rw [hw] at HC39
    by_cases ht : tickB now = true
    · have htt : 0 ≤ now ∧ now ≤ 1073741824 := of_decide_eq_true ht
      rw [ht] at HC
      have hr : 1 ≤ id ∧ id ≤ 60 := by
        have h := hw
        unfold waitsB at h
        rw [Bool.and_eq_true] at h
        exact of_decide_eq_true h.1
      obtain ⟨i, rfl⟩ : ∃ i : Nat, id = (i : Int) := ⟨id.toNat, by omega⟩
      have HE : Hid (movedE t W i now = (0, W.set i { atW W i with tries := 0, again := laterV now (t.getD 0 0) })) := by
        show _ = _
        unfold movedE
        rw [Int.toNat_natCast, if_pos ⟨hw, ht⟩]
      rw [HE.out]
      obtain ⟨A, c, h⟩ := hS.rdOpen
      obtain ⟨l1, l8, hok⟩ := may_len hm
      obtain ⟨b, o, hA, hcell⟩ := h.r2.rowNs.resolve_left (by rintro rfl; simp at l1)
      subst hA
      have d0 := hcell 0 l1
      rw [Nat.add_zero] at d0
      have hd0 := hok 0 l1
      obtain ⟨z, hz⟩ : ∃ z, t.getD 0 0 = z := ⟨_, rfl⟩
      have hz1 : 1 ≤ z ∧ z ≤ 1000 := by rw [← hz]; exact ⟨hd0.1, hd0.2.1⟩
      rw [hz] at d0 HE ⊢
      have hfr := h.blk.free
      have q1 := hfr (2 + i * 5 + 1)
      have q2 := hfr (2 + i * 5 + 2)
      obtain ⟨e0, e1, e2, e3, e4⟩ := rd_cells h (i := i) (by omega)
      have hne : 2 + i * 5 + 1 ≠ 0 := by omega
      have h1 := h.set (2 + i * 5 + 1) (.int .i64 0)
      obtain ⟨y, hy⟩ : ∃ y, atW W i = y := ⟨_, rfl⟩
      have hgy : W[i]? = some y := by rw [← hy]; exact atW_get (by omega)
      have es1 : (Value.slice (some ⟨b, o, none⟩) t.length c :: .int .i64 dl :: wsC W).set (2 + i * 5 + 1) (.int .i64 0) = .slice (some ⟨b, o, none⟩) t.length c :: .int .i64 dl :: wsC (W.set i { y with tries := 0 }) := by
        rw [← wsC_set W i 1 y { y with tries := 0 } (.int .i64 0) hgy (by decide) rfl, show 2 + i * 5 + 1 = (i * 5 + 1) + 1 + 1 by omega]
        rfl
      rw [es1] at h1
      have X1 : Hid (∀ a, Sat w0 (((w.setCell ⟨x, 2 + i * 5 + 1, none⟩ (.int .i64 0)).drew).setCell ⟨x, 2 + i * 5 + 2, none⟩ (.int .i64 a)) (RDoc x t dl (W.set i { y with tries := 0, again := a }) :: F)) := fun a => by
        have h2 := h1.drew.set (2 + i * 5 + 2) (.int .i64 a)
        have hg2 : (W.set i { y with tries := 0 })[i]? = some { y with tries := 0 } := by rw [List.getElem?_set_self (by omega)]
        have es2 : (Value.slice (some ⟨b, o, none⟩) t.length c :: .int .i64 dl :: wsC (W.set i { y with tries := 0 })).set (2 + i * 5 + 2) (.int .i64 a) = .slice (some ⟨b, o, none⟩) t.length c :: .int .i64 dl :: wsC (W.set i { y with tries := 0, again := a }) := by
          have h3 := wsC_set (W.set i { y with tries := 0 }) i 2 _ { y with tries := 0, again := a } (.int .i64 a) hg2 (by decide) rfl
          rw [List.set_set] at h3
          rw [← h3, show 2 + i * 5 + 2 = (i * 5 + 2) + 1 + 1 by omega]
          rfl
        rw [es2] at h2
        exact Sat.rdClose h2
      have Y0 : (w.setCell ⟨x, 2 + i * 5 + 1, none⟩ (.int .i64 0)).cell? ⟨x, 0, none⟩ = some (.slice (some ⟨b, o, none⟩) t.length c) := h1.blk.cell 0
      have Y1 : (w.setCell ⟨x, 2 + i * 5 + 1, none⟩ (.int .i64 0)).cell? ⟨b, o, none⟩ = some (.int .i64 z) := by
        obtain ⟨b2, o2, hA2, hc2⟩ := h1.r2.rowNs.resolve_left (by rintro rfl; simp at l1)
        injection hA2 with hA2
        injection hA2 with hb2 ho2
        subst hb2 ho2
        have := hc2 0 l1
        rw [Nat.add_zero, hz] at this
        exact this
      have Y2 : ∃ v, (w.setCell ⟨x, 2 + i * 5 + 1, none⟩ (.int .i64 0)).cell? ⟨x, 2 + i * 5 + 2, none⟩ = some v := by
        obtain ⟨_, _, k2, _⟩ := rd_cells h1 (i := i) (by rw [List.length_set]; omega)
        exact ⟨_, k2⟩
      have Y3 : (w.setCell ⟨x, 2 + i * 5 + 1, none⟩ (.int .i64 0)).frozen? ⟨x, 2 + i * 5 + 2, none⟩ = false := h1.blk.free _
      obtain ⟨yv, Y2⟩ := Y2
      obtain ⟨n, hn⟩ : ∃ n, t.length = n := ⟨_, rfl⟩
      rw [hn] at Y0 l1
      have gn : (0 : Int) < (n : Int) := by omega
      have l2 : 0 < n := l1
      obtain ⟨ht1, ht2⟩ := htt
      obtain ⟨hz2, hz3⟩ := hz1
      have s1 : IntKind.i64.wrap (now + z) = now + z := IntWalk.i64_in _ (by omega)
      have g1 : (0 : Int) ≤ (i : Int) := by omega
      have g2 : (i : Int) < 61 := by omega
      have HYA := Lib.hid Y0
      have HYB := Lib.hid Y1
      have HYC := Lib.hid Y2
      have HYD := Lib.hid Y3
      rw [hy]
      clear hS h hfr hcell hd0 hz hn HE HS hok l8 h1 es1 hgy hy Y0 Y1 Y2 Y3 e0 e2 e3 e4 hw ht hm hW hne d0
      rcases later_of now z with ⟨k1, k2⟩ | ⟨k1, k2⟩ | ⟨k1, k2⟩
      all_goals
        as_aux_lemma =>
          have K2 := Lib.hid k2
          clear k2
          go_enter Try.func22, Try.ntmps22
          go_wp2_with fail
          refine HC39.out.mono ?_
          rintro e w1 ⟨rfl, rfl⟩
          go_wp2_with fail
          refine HC.out.mono ?_
          rintro e w2 ⟨rfl, rfl⟩
          go_wp2_with fail
          obtain ⟨W0, hW0⟩ : ∃ X, X = w2.setCell ⟨x, 2 + i * 5 + 1, none⟩ (.int .i64 0) := ⟨_, rfl⟩
          rw [← hW0] at X1 HYA HYB HYC HYD ⊢
          have p0 := HYA.out
          have p1 := HYB.out
          clear hW0 q1 q2 e1
          go_still_tail 15, (by kernel_rfl)
          change wpList _ _ _ _ _ W0.drew
          obtain ⟨W1, hW1⟩ : ∃ X, X = W0.drew := ⟨_, rfl⟩
          rw [← hW1] at X1 ⊢
          have r0 : W1.cell? ⟨x, 0, none⟩ = some (.slice (some ⟨b, o, none⟩) n c) := by rw [hW1]; exact p0
          have r1 : W1.cell? ⟨b, o, none⟩ = some (.int .i64 z) := by rw [hW1]; exact p1
          have r2 : W1.cell? ⟨x, 2 + i * 5 + 2, none⟩ = some yv := by rw [hW1]; exact HYC.out
          have r3 : W1.frozen? ⟨x, 2 + i * 5 + 2, none⟩ = false := by rw [hW1]; exact HYD.out
          clear hW1 p0 p1
          go_wp2_with fail
          go_ret
          refine ⟨rfl, ?_⟩
          have h := X1.out (laterV now z)
          rw [K2.out] at h ⊢
          exact h
    · have ht' : tickB now = false := by simpa using ht
      have HE : Hid (movedE t W id now = (1, W)) := bad_moved fun g => ht g.2
      rw [ht'] at HC
      rw [HE.out]
      clear hS hw ht ht' hm hW
      go_enter Try.func22, Try.ntmps22
      go_wp2_with fail
      refine HC39.out.mono ?_
      rintro e w1 ⟨rfl, rfl⟩
      go_wp2_with fail
      refine HC.out.mono ?_
      rintro e w2 ⟨rfl, rfl⟩
      go_wp2_with fail
      go_ret
      exact ⟨rfl, HS.out⟩
  · have hw' : waitsB W id = false := by simpa using hw
    have HE : Hid (movedE t W id now = (1, W)) := bad_moved fun g => hw g.1
    rw [hw'] at HC39
    rw [HE.out]
    clear hS hw hw' hm hW
    go_enter Try.func22, Try.ntmps22
    go_wp2_with fail
    refine HC39.out.mono ?_
    rintro e w1 ⟨rfl, rfl⟩
    go_wp2_with fail
    go_ret
    exact ⟨rfl, HS.out⟩
end
end Go.Proofs.Ytbgbpibfmdkndaa
