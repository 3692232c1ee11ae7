/- The document's Begin. -/
import Derived.Test.YtbgbpibfmdkndaaRD
set_option linter.unusedVariables false
set_option linter.unusedSimpArgs false
set_option linter.unnecessarySimpa false
set_option maxRecDepth 100000
namespace Go.Proofs.Ytbgbpibfmdkndaa
open Go.RowKit Go.ChangeShapes Go.WideShapes Go.ChangeAt
section
variable {w w0 : World} {F : List HP} {x : Nat} {t : List Int} {dl : Int} {W : List Wt}
theorem bad_begin {id now : Int} (h : ¬ ((1 ≤ id ∧ id ≤ 60) ∧ (0 ≤ now ∧ now ≤ 1073741824) ∧ (atW W id.toNat).is = false)) : beginE t dl W id now = (1, W) := by unfold beginE; rw [if_neg h]
set_option maxHeartbeats 6400000 in
theorem rbegin_any (id now : Int) (hW : W.length = 61) (hm : mayB t = true) (hdl : 1 ≤ dl ∧ dl ≤ 1073741824) (hS : Sat w0 w (RDoc x t dl W :: F)) :
    Calls Try.prog 21 #[.pointer (some ⟨x, 0, none⟩), .int .i64 id, .int .i64 now] w fun e w' => e = .returned (.int .i64 (beginE t dl W id now).1) ∧ Sat w0 w' (RDoc x t dl (beginE t dl W id now).2 :: F) := by
  have HC := Lib.hid (rtick_any (now := now) (w := w))
  have HS := Lib.hid hS
  by_cases h1 : 1 ≤ id
  · by_cases h2 : id ≤ 60
    · by_cases ht : 0 ≤ now ∧ now ≤ 1073741824
      · have htk : tickB now = true := decide_eq_true ht
        rw [htk] at HC
        obtain ⟨i, rfl⟩ : ∃ i : Nat, id = (i : Int) := ⟨id.toNat, by omega⟩
        obtain ⟨A, c, h⟩ := hS.rdOpen
        obtain ⟨c0, _⟩ := rd_cells h (i := i) (by omega)
        obtain ⟨v, hv⟩ : ∃ v, (atW W i).is = v := ⟨_, rfl⟩
        rw [hv] at c0
        have g1 : (0 : Int) ≤ (i : Int) := by omega
        have g2 : (i : Int) < 61 := by omega
        have t1 : decide ((i : Int) < (1 : Int)) = false := decide_eq_false (by omega)
        have t2 : decide ((60 : Int) < (i : Int)) = false := decide_eq_false (by omega)
        cases v with
        | true =>
          have HE : Hid (beginE t dl W i now = (1, W)) := bad_begin fun g => by rw [Int.toNat_natCast, hv] at g; exact absurd g.2.2 (by decide)
          rw [HE.out]
          clear hS h hW hv htk ht hm hdl
          go_enter Try.func21, Try.ntmps21
          go_wp2_with fail
          refine HC.out.mono ?_
          rintro e w1 ⟨rfl, rfl⟩
          go_wp2_with fail
          go_ret
          exact ⟨rfl, HS.out⟩
        | false =>
          have HE : Hid (beginE t dl W i now = (0, W.set i ⟨true, 0, laterV now (t.getD 0 0), laterV now dl, false⟩)) := by
            show _ = _
            unfold beginE
            rw [Int.toNat_natCast, if_pos ⟨⟨h1, h2⟩, ht, hv⟩]
          rw [HE.out]
          obtain ⟨l1, l8, hok⟩ := may_len hm
          obtain ⟨b, o, hA, hcell⟩ := h.r2.rowNs.resolve_left (by rintro rfl; simp at l1)
          subst hA
          have d0 := hcell 0 l1
          rw [Nat.add_zero] at d0
          have hd0 := hok 0 l1
          obtain ⟨z, hz⟩ : ∃ z, t.getD 0 0 = z := ⟨_, rfl⟩
          have hz1 : 1 ≤ z ∧ z ≤ 1000 := by rw [← hz]; exact ⟨hd0.1, hd0.2.1⟩
          rw [hz] at d0 HE ⊢
          have hfr := h.blk.free
          have q0 := hfr (2 + i * 5)
          have q1 := hfr (2 + i * 5 + 1)
          have q2 := hfr (2 + i * 5 + 2)
          have q3 := hfr (2 + i * 5 + 3)
          have q4 := hfr (2 + i * 5 + 4)
          obtain ⟨e0, e1, e2, e3, e4⟩ := rd_cells h (i := i) (by omega)
          have x0 : w.cell? ⟨x, 0, none⟩ = some (.slice (some ⟨b, o, none⟩) t.length c) := h.blk.cell 0
          have x1 : w.cell? ⟨x, 1, none⟩ = some (.int .i64 dl) := h.blk.cell 1
          have hl := wsC_len W
          have HX : Hid (∀ a1 a2, Sat w0 (((((w.drew.setCell ⟨x, 2 + i * 5, none⟩ (.bool true)).setCell ⟨x, 2 + i * 5 + 1, none⟩ (.int .i64 0)).setCell ⟨x, 2 + i * 5 + 2, none⟩ (.int .i64 a1)).setCell ⟨x, 2 + i * 5 + 3, none⟩ (.int .i64 a2)).setCell ⟨x, 2 + i * 5 + 4, none⟩ (.bool false)) (RDoc x t dl (W.set i ⟨true, 0, a1, a2, false⟩) :: F)) := fun a1 a2 => by
            obtain ⟨y, hy⟩ : ∃ y : Wt, y = ⟨true, 0, a1, a2, false⟩ := ⟨_, rfl⟩
            rw [← hy]
            have h1 := Sat.setCells (wv y) (2 + i * 5) h.drew (by simp only [List.length_cons, hl, hW]; show 2 + i * 5 + 5 ≤ _; omega)
            have e : over (.slice (some ⟨b, o, none⟩) t.length c :: .int .i64 dl :: wsC W) (2 + i * 5) (wv y) = .slice (some ⟨b, o, none⟩) t.length c :: .int .i64 dl :: wsC (W.set i y) := by
              have h1 := over_app [.slice (some ⟨b, o, none⟩) t.length c, .int .i64 dl] (wsC W) (wv y) (i * 5)
              rw [wsC_over W i y (by omega)] at h1
              exact h1
            rw [e] at h1
            have h2 := Sat.rdClose h1
            rw [show wv y = [.bool true, .int .i64 0, .int .i64 a1, .int .i64 a2, .bool false] by rw [hy]; rfl, set5] at h2
            exact h2
          obtain ⟨n, hn⟩ : ∃ n, t.length = n := ⟨_, rfl⟩
          rw [hn] at x0 l1
          have gn : (0 : Int) < (n : Int) := by omega
          obtain ⟨ht1, ht2⟩ := ht
          obtain ⟨hz2, hz3⟩ := hz1
          obtain ⟨hd1, hd2⟩ := hdl
          have s1 : IntKind.i64.wrap (now + z) = now + z := IntWalk.i64_in _ (by omega)
          have s2 : IntKind.i64.wrap (now + dl) = now + dl := IntWalk.i64_in _ (by omega)
          clear hS h hW hv htk hm hfr hl hcell hd0 hz hn HE HS hok l8 e0
          have l2 : 0 < n := l1
          rcases later_of now z with ⟨k1, k2⟩ | ⟨k1, k2⟩ | ⟨k1, k2⟩ <;> rcases later_of now dl with ⟨m1, m2⟩ | ⟨m1, m2⟩ | ⟨m1, m2⟩
          all_goals
            as_aux_lemma =>
              have K2 := Lib.hid k2
              have M2 := Lib.hid m2
              clear k2 m2
              go_enter Try.func21, Try.ntmps21
              go_wp2_with fail
              refine HC.out.mono ?_
              rintro e w1 ⟨rfl, rfl⟩
              go_wp2_with fail
              go_still_tail 22, (by kernel_rfl)
              change wpList _ _ _ _ _ w1.drew
              obtain ⟨W1, hW1⟩ : ∃ X, X = w1.drew := ⟨_, rfl⟩
              have p0 : W1.cell? ⟨x, 0, none⟩ = some (.slice (some ⟨b, o, none⟩) n c) := by rw [hW1]; exact x0
              have p1 : W1.cell? ⟨x, 1, none⟩ = some (.int .i64 dl) := by rw [hW1]; exact x1
              have p2 : W1.cell? ⟨b, o, none⟩ = some (.int .i64 z) := by rw [hW1]; exact d0
              have p3 : ∀ a, W1.cell? a = w1.cell? a := fun a => by rw [hW1]; rfl
              have p4 : ∀ a, W1.frozen? a = w1.frozen? a := fun a => by rw [hW1]; rfl
              rw [← p3] at c0 e1 e2 e3 e4
              rw [← p4] at q0 q1 q2 q3 q4
              rw [← hW1] at HX ⊢
              clear x0 x1 d0 p3 p4 hW1
              go_wp2_with fail
              go_ret
              refine ⟨rfl, ?_⟩
              have h := HX.out (laterV now z) (laterV now dl)
              rw [K2.out, M2.out] at h ⊢
              exact h
      · have htk : tickB now = false := decide_eq_false ht
        have HE : Hid (beginE t dl W id now = (1, W)) := bad_begin fun g => ht g.2.1
        rw [htk] at HC
        rw [HE.out]
        have t1 : decide (id < (1 : Int)) = false := decide_eq_false (by omega)
        have t2 : decide ((60 : Int) < id) = false := decide_eq_false (by omega)
        clear hS htk ht hm hdl hW
        go_enter Try.func21, Try.ntmps21
        go_wp2_with fail
        refine HC.out.mono ?_
        rintro e w1 ⟨rfl, rfl⟩
        go_wp2_with fail
        go_ret
        exact ⟨rfl, HS.out⟩
    · have HE : Hid (beginE t dl W id now = (1, W)) := bad_begin fun g => h2 g.1.2
      rw [HE.out]
      have t1 : decide (id < (1 : Int)) = false := decide_eq_false (by omega)
      have t2 : decide ((60 : Int) < id) = true := decide_eq_true (by omega)
      clear hS hm hdl hW
      go_enter Try.func21, Try.ntmps21
      go_wp2_with fail
      go_ret
      exact ⟨rfl, HS.out⟩
  · have HE : Hid (beginE t dl W id now = (1, W)) := bad_begin fun g => h1 g.1.1
    rw [HE.out]
    have t1 : decide (id < (1 : Int)) = true := decide_eq_true (by omega)
    clear hS hm hdl hW
    go_enter Try.func21, Try.ntmps21
    go_wp2_with fail
    go_ret
    exact ⟨rfl, HS.out⟩
end
end Go.Proofs.Ytbgbpibfmdkndaa
