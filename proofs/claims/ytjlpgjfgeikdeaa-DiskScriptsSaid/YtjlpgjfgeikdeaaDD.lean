/- Append of the program's disk. -/
import Derived.Test.YtjlpgjfgeikdeaaDC
set_option linter.unusedVariables false
set_option linter.unusedSimpArgs false
set_option linter.unnecessarySimpa false
namespace Go.Proofs.Ytjlpgjfgeikdeaa
open Go.RowKit Go.ChangeShapes Go.WideShapes Go.ChangeAt
theorem below_undrew {n : Nat} {w w' : World} (h : Below n w.drew w') : Below n w w' := ⟨h.os, h.tape, h.output, h.size, h.block⟩
theorem DiskAt.setRow {w w' : World} {d : Nat} {v : Nat → Value} {M : MD} (h : DiskAt w d v M) (n : Nat) (hn : n < 4) (x : Value) (b : ByteArray) (hx : BRow w' x b) (g : w.grownBy w' (v n).ownBlock)
    (hb : ∀ k, x.ownBlock = some k → (v n).ownBlock = some k ∨ w.heap.size ≤ k) :
    DiskAt (w'.setCell ⟨d, n * 2, none⟩ x) d (upd v n x) (M.set n ⟨b, (M.f n).safe⟩) := by
  have hdl := h.at_.lt
  have hdn : ∀ k, x.ownBlock = some k → k ≠ d := by
    intro k hk
    rcases hb k hk with hb | hb
    · exact h.off n hn k hb
    · omega
  have keep : ∀ i, i < 4 → i ≠ n → BRow w' (v i) (M.f i).b := fun i hi hne => (h.row i hi).grown g fun k hk e => h.two i n hi hn hne k hk e
  refine ⟨?_, fun i hi => ?_, fun i hi k hk => ?_, fun i j hi hj hne k hk => ?_⟩
  · rw [← cellsD_set_row v M n hn x b]
    refine At.set ?_ _ _
    exact (g.block d hdl (fun e => h.off n hn d e.symm rfl)).trans h.at_
  · have hbr : BRow w' (upd v n x i) ((M.set n ⟨b, (M.f n).safe⟩).f i).b := by
      unfold upd MD.set
      simp only
      split
      · exact hx
      · rename_i hne; exact keep i hi hne
    refine hbr.kept fun k hk => Below.heap_setCell w' ⟨d, n * 2, none⟩ _ k ?_
    unfold upd at hk
    split at hk
    · exact hdn k hk
    · exact h.off i hi k hk
  · unfold upd at hk
    split at hk
    · exact hdn k hk
    · exact h.off i hi k hk
  · unfold upd at hk ⊢
    split at hk
    · rename_i hin
      split
      · omega
      · rename_i hjn
        intro hk2
        rcases hb k hk with hb | hb
        · exact h.two j n hj hn hjn k hk2 hb
        · have := (h.row j hj).lt k hk2
          omega
    · rename_i hin
      split
      · intro hk2
        rcases hb k hk2 with hb | hb
        · exact h.two i n hi hn hin k hk hb
        · have := (h.row i hi).lt k hk
          omega
      · exact h.two i j hi hj hne k hk
/-- a call that changes a disk alone -/
def Works (d : Nat) (v : Nat → Value) (M' : MD) (w w' : World) : Prop :=
  ∃ v', DiskAt w' d v' M' ∧ ChgS (footD d v) w w' ∧ ∀ k, footD d v' k → footD d v k ∨ w.heap.size ≤ k
theorem Works.of {d : Nat} {v : Nat → Value} {M : MD} {w w' : World} (h : DiskAt w' d v M) (c : ChgS (footD d v) w w') : Works d v M w w' := ⟨v, h, c, fun _ hk => .inl hk⟩
theorem foot_upd {d : Nat} {v : Nat → Value} {n : Nat} {x : Value} (hn : n < 4) {N : Nat} (hb : ∀ k, x.ownBlock = some k → (v n).ownBlock = some k ∨ N ≤ k) : ∀ k, footD d (upd v n x) k → footD d v k ∨ N ≤ k := by
  rintro k (rfl | ⟨i, hi, hk⟩)
  · exact .inl (.inl rfl)
  · unfold upd at hk
    split at hk
    · rcases hb k hk with hb | hb
      · exact .inl (.inr ⟨n, hn, hb⟩)
      · exact .inr hb
    · exact .inl (.inr ⟨i, hi, hk⟩)
set_option maxRecDepth 100000 in
theorem append_fits (d : Nat) (v : Nat → Value) (M : MD) (n : Nat) (s : ByteArray) (w : World) (hn : n < 4) (hD : DiskAt w d v M) (hok : M.Ok) (hs : s.size ≤ 9223372036854775807) (hfit : (s.size : Int) ≤ M.room - M.used) :
    Calls Try.prog 19 #[.pointer (some ⟨d, 0, none⟩), .int .i64 n, .string s] w fun e w' => e = .returned (.int .i64 0) ∧ Works d v (M.set n ⟨(M.f n).b ++ s, (M.f n).safe⟩) w w' := by
  obtain ⟨hr1, hr2, hr3, _⟩ := hok
  have HD := Lib.hid hD
  have hu : M.used ≤ 1048576 := by omega
  have hbu : (M.f n).b.size + s.size ≤ 1048576 := by
    have : (M.f n).b.size ≤ M.used := by
      have : n = 0 ∨ n = 1 ∨ n = 2 ∨ n = 3 := by omega
      unfold MD.used
      rcases this with rfl | rfl | rfl | rfl <;> omega
    omega
  have m8 : w.cell? ⟨d, 8, none⟩ = some (.int .i64 M.room) := hD.at_.cell 8
  have t : decide (M.room - (M.used : Int) < (s.size : Int)) = false := decide_eq_false (by omega)
  have sw : IntKind.i64.wrap (M.room - (M.used : Int)) = M.room - M.used := IntWalk.i64_in _ (by omega)
  clear hD
  go_enter Try.func19, Try.ntmps19
  go_wp2_with fail
  refine (of_any d n _ hn).mono ?_
  rintro e w1 ⟨rfl, rfl⟩
  go_wp2_with fail
  go_cut [22] (fun x wx => x = .bool false ∧ DiskAt wx d v M ∧ Below w1.heap.size w1 wx)
  case first =>
    have HDd : Hid (DiskAt w1.drew d v M) := HD.out.drewN 1
    go_region_with (go_at_call 20; refine (used_any d v M w1.drew HDd.out hu).mono ?_; rintro e wb ⟨rfl, hb⟩; have m8b : wb.cell? ⟨d, 8, none⟩ = some (.int .i64 M.room) := (HDd.out.keep hb).at_.cell 8; have HB := Lib.hid hb; clear hb)
    all_goals
      go_wp2_with fail
      go_meet
      exact ⟨rfl, (HDd.out.keep HB.out), below_undrew HB.out⟩
  case rest =>
    obtain ⟨rfl, hD2, hB2⟩ := hcut
    have HD2 := Lib.hid hD2
    have HB2 := Lib.hid hB2
    have n0 := hD2.at_.cell (n * 2)
    rw [cellsD_row v M n hn] at n0
    clear hD2 hB2 m8 t sw
    have HR := Lib.hid (HD2.out.row n hn)
    go_wp2_with (at_builtin; refine app_bytes rfl _ _ rfl _ _ rfl HR.out s rfl hbu ?_; intro v2 w2 hr hg hbl; obtain ⟨A2, c2, hv2⟩ := hr.slice; rw [ByteArray.size_append] at hv2; subst hv2; have HR2 := Lib.hid hr; have HG := Lib.hid hg; have HL := Lib.hid hbl; clear hr hg hbl; have hA2 : At w2 d 64 (cellsD v M) := (HG.out.block d HD2.out.at_.lt (fun e => HD2.out.off n hn d e.symm rfl)).trans HD2.out.at_; have n2 := hA2.cell (n * 2); rw [cellsD_row v M n hn] at n2; have f2 := hA2.free (n * 2); clear hA2)
    go_ret
    refine ⟨rfl, _, HD2.out.setRow n hn _ _ HR2.out HG.out HL.out, ?_, ?_⟩
    · exact ((ChgS.of_below HB2.out).grown HG.out (fun k hk => .inl (.inr ⟨n, hn, hk⟩))).set (p := ⟨d, n * 2, none⟩) (.inl (.inl rfl)) _
    · exact foot_upd hn fun k hk => (HL.out k hk).imp id fun h => Nat.le_trans HB2.out.size h
end Go.Proofs.Ytjlpgjfgeikdeaa
