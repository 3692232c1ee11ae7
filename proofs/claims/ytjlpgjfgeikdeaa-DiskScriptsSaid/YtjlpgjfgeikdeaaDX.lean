/- Copy of the program's disk. -/
import Derived.Test.YtjlpgjfgeikdeaaDW
import Derived.Laws.CopyOwn
import Derived.Deep.RegionWith
set_option linter.unusedVariables false
set_option linter.unusedSimpArgs false
set_option linter.unnecessarySimpa false
namespace Go.Proofs.Ytjlpgjfgeikdeaa
open Go.RowKit Go.ChangeShapes Go.WideShapes Go.ChangeAt Go.Lib
def zeros8 (n : Nat) : Array Value := madeCells (Value.cells (.int .u8 0)) (n * 1)
theorem make8 (W : World) (n : Nat) (h : n ≤ 1048576) : (Instr.makeSlice 59 (.int .i64 (n : Int)) (.int .i64 (n : Int))).run Try.prog W = .ok (.slice (some ⟨W.heap.size, 0, none⟩) n n) (W.alloc (.cells (zeros8 n) 5)) := by
  obtain ⟨i0, hi, hz0, hz1, hz2⟩ := info_parts info5
  have := run_make (P := Try.prog) W 59 5 i0 (.int .u8 0) Try.underlying59 hi hz0 .i64 .i64 n n (by omega) (by omega) (by rw [hz2]; omega) (by omega)
  rw [hz1] at this
  exact this
/-- a disk of which the first k files stand -/
def partM (M : MD) (k : Nat) : MD := ⟨fun i => if i < k then M.f i else ⟨⟨#[]⟩, 0⟩, M.room⟩
theorem part_next (M : MD) (k : Nat) : (partM M k).set k (M.f k) = partM M (k + 1) := by
  unfold partM MD.set
  simp only [MD.mk.injEq, and_true]
  funext i
  by_cases h : i = k
  · subst h; simp
  · by_cases h2 : i < k
    · simp [h, h2, Nat.lt_succ_of_lt h2]
    · simp [h, h2, show ¬ i < k + 1 by omega]
theorem cellsD_part (M : MD) (v : Nat → Value) : cellsD v (partM M 4) = cellsD v M := by simp [cellsD, partM]
theorem cellsD_set_both (v : Nat → Value) (M : MD) (n : Nat) (h : n < 4) (x : Value) (b : ByteArray) (s : Nat) : ((cellsD v M).set (n * 2) x).set (n * 2 + 1) (.int .i64 s) = cellsD (upd v n x) (M.set n ⟨b, s⟩) := by
  have : n = 0 ∨ n = 1 ∨ n = 2 ∨ n = 3 := by omega
  rcases this with rfl | rfl | rfl | rfl <;> simp [cellsD, MD.set, upd]
theorem DiskAt.filled {wr w' : World} {g : Nat} {v' : Nat → Value} {M' : MD} (h : DiskAt wr g v' M') (k : Nat) (hk : k < 4) (q n c : Nat) (hq : wr.heap.size ≤ q) (b : ByteArray) (s : Nat)
    (hat : At w' g 64 (((cellsD v' M').set (k * 2) (.slice (some ⟨q, 0, none⟩) n c)).set (k * 2 + 1) (.int .i64 s))) (hrow : BRow w' (.slice (some ⟨q, 0, none⟩) n c) b) (keep : ∀ j, j < wr.heap.size → j ≠ g → w'.heap[j]? = wr.heap[j]?) :
    DiskAt w' g (upd v' k (.slice (some ⟨q, 0, none⟩) n c)) (M'.set k ⟨b, s⟩) := by
  have hg := h.at_.lt
  have own : ∀ z, (Value.slice (some ⟨q, 0, none⟩) n c).ownBlock = some z → z = q := by intro z hz; simpa [Value.ownBlock, eq_comm] using hz
  have lt : ∀ i, i < 4 → ∀ z, (v' i).ownBlock = some z → z < wr.heap.size := fun i hi z hz => (h.row i hi).lt z hz
  rw [cellsD_set_both v' M' k hk _ b s] at hat
  refine ⟨hat, fun i hi => ?_, fun i hi z hz => ?_, fun i j hi hj hne z hz => ?_⟩
  · unfold upd MD.set
    simp only
    split
    · exact hrow
    · exact (h.row i hi).kept fun z hz => keep z (lt i hi z hz) (h.off i hi z hz)
  · unfold upd at hz
    split at hz
    · have := own z hz; omega
    · exact h.off i hi z hz
  · unfold upd at hz ⊢
    split at hz
    · have hz' := own z hz
      split
      · omega
      · intro hz2; have := lt j hj z hz2; omega
    · split
      · intro hz2; have := own z hz2; have := lt i hi z hz; omega
      · exact h.two i j hi hj hne z hz
def CpRel (w : World) (M : MD) (g : Nat) (i : Value) (wr : World) : Prop :=
  ∃ (k : Nat) (v' : Nat → Value), k ≤ 4 ∧ i = .int .i64 k ∧ DiskAt wr g v' (partM M k) ∧ (∀ q, footD g v' q → w.heap.size ≤ q) ∧ Below w.heap.size w wr
theorem brow_cells {w : World} {A : Option Addr} {c : Nat} {b : ByteArray} (h : BRow w (.slice A b.size c) b) : ∀ j v, (strCells b)[j]? = some v → ∃ ad : Addr, A = some ad ∧ w.cell? (ad.add j) = some v := by
  intro j v hv
  have hl : (strCells b).length = b.size := by simp [strCells]
  have hj := (List.getElem?_eq_some_iff.1 hv).1
  rcases h with ⟨_, h0⟩ | ⟨g, cap, cur, e, hg, h1, h2, h3, h4⟩
  · omega
  · injection e with e1 e2 e3
    refine ⟨_, e1, ?_⟩
    have : (⟨g, 0, none⟩ : Addr).add j = ⟨g, j, none⟩ := by unfold Addr.add; split <;> simp_all
    rw [this, cell_of_row w g j cur 5 (0, 0) hg, ← hv, ← h4, List.getElem?_take, if_pos (by omega)]
    simp
/-- the world behind the making of a row for file k (brow_w3) -/
structure Made (wr W3 : World) (g k q n sf : Nat) (v' : Nat → Value) (M' : MD) (A : Option Addr) (c : Nat) : Prop where
  at_ : At W3 g 64 (((cellsD v' M').set (k * 2) (.slice (some ⟨q, 0, none⟩) n n)).set (k * 2 + 1) (.int .i64 sf))
  row : W3.heap[q]? = some (.cells (zeros8 n) 5 (0, 0))
  size : wr.heap.size < q
  below : ∀ j, j < wr.heap.size → j ≠ g → W3.heap[j]? = wr.heap[j]?
  box : W3.cell? ⟨wr.heap.size, 0, none⟩ = some (.slice A n c)
  os : W3.os = wr.os
  tape : W3.tape = wr.tape
  output : W3.output = wr.output
  size2 : W3.heap.size = q + 1
theorem Made.mk' (wr : World) (g k n sf : Nat) (v' : Nat → Value) (M' : MD) (A : Option Addr) (c : Nat) (h : At wr g 64 (cellsD v' M')) :
    Made wr ((((wr.setCell ⟨g, k * 2, none⟩ (.slice (some ⟨wr.heap.size + 1, 0, none⟩) n n)).setCell ⟨g, k * 2 + 1, none⟩ (.int .i64 sf)).alloc (.cells #[.slice A n c, .int .i64 sf] 61)).alloc (.cells (zeros8 n) 5)).drew g k (wr.heap.size + 1) n sf v' M' A c := by
  have hg := h.lt
  refine ⟨((((h.set _ _).set _ _).alloc _).alloc _).drewN 1, ?_, by omega, fun j hj hne => ?_, ?_, rfl, rfl, rfl, by simp [World.drew]⟩
  · have e := heap_alloc_new (((wr.setCell ⟨g, k * 2, none⟩ (.slice (some ⟨wr.heap.size + 1, 0, none⟩) n n)).setCell ⟨g, k * 2 + 1, none⟩ (.int .i64 sf)).alloc (.cells #[.slice A n c, .int .i64 sf] 61)) (.cells (zeros8 n) 5)
    simpa [World.drew] using e
  · have e1 := heap_alloc_old (((wr.setCell ⟨g, k * 2, none⟩ (.slice (some ⟨wr.heap.size + 1, 0, none⟩) n n)).setCell ⟨g, k * 2 + 1, none⟩ (.int .i64 sf)).alloc (.cells #[.slice A n c, .int .i64 sf] 61)) (.cells (zeros8 n) 5) (r := j) (by simp; omega)
    have e2 := heap_alloc_old ((wr.setCell ⟨g, k * 2, none⟩ (.slice (some ⟨wr.heap.size + 1, 0, none⟩) n n)).setCell ⟨g, k * 2 + 1, none⟩ (.int .i64 sf)) (.cells #[.slice A n c, .int .i64 sf] 61) (r := j) (by simp; omega)
    have e3 := Below.heap_setCell (wr.setCell ⟨g, k * 2, none⟩ (.slice (some ⟨wr.heap.size + 1, 0, none⟩) n n)) ⟨g, k * 2 + 1, none⟩ (.int .i64 sf) j hne
    have e4 := Below.heap_setCell wr ⟨g, k * 2, none⟩ (.slice (some ⟨wr.heap.size + 1, 0, none⟩) n n) j hne
    exact ((e1.trans e2).trans e3).trans e4
  · have e := heap_alloc_new ((wr.setCell ⟨g, k * 2, none⟩ (.slice (some ⟨wr.heap.size + 1, 0, none⟩) n n)).setCell ⟨g, k * 2 + 1, none⟩ (.int .i64 sf)) (.cells #[.slice A n c, .int .i64 sf] 61)
    have e1 := heap_alloc_old (((wr.setCell ⟨g, k * 2, none⟩ (.slice (some ⟨wr.heap.size + 1, 0, none⟩) n n)).setCell ⟨g, k * 2 + 1, none⟩ (.int .i64 sf)).alloc (.cells #[.slice A n c, .int .i64 sf] 61)) (.cells (zeros8 n) 5) (r := wr.heap.size) (by simp)
    have e2 : ((wr.setCell ⟨g, k * 2, none⟩ (.slice (some ⟨wr.heap.size + 1, 0, none⟩) n n)).setCell ⟨g, k * 2 + 1, none⟩ (.int .i64 sf)).heap.size = wr.heap.size := by simp
    rw [e2] at e
    show World.cell? _ _ = _
    exact (cell_of_row _ wr.heap.size 0 _ 61 (0, 0) (e1.trans e)).trans rfl
theorem Made.wp {wr : World} {g : Nat} (k : Nat) {n sf : Nat} {v' : Nat → Value} {M' : MD} {A : Option Addr} {c : Nat} (h : At wr g 64 (cellsD v' M')) {code : Code} {Q : Exit → Act → World → Prop} {a : Act}
    (H : ∀ W3, Made wr W3 g k (wr.heap.size + 1) n sf v' M' A c → code.wp Try.prog Q a W3) :
    code.wp Try.prog Q a ((((wr.setCell ⟨g, k * 2, none⟩ (.slice (some ⟨wr.heap.size + 1, 0, none⟩) n n)).setCell ⟨g, k * 2 + 1, none⟩ (.int .i64 sf)).alloc (.cells #[.slice A n c, .int .i64 sf] 61)).alloc (.cells (zeros8 n) 5)).drew :=
  H _ (Made.mk' wr g k n sf v' M' A c h)
theorem Made.cell {wr W3 : World} {g k q n sf : Nat} {v' : Nat → Value} {M' : MD} {A : Option Addr} {c : Nat} (h : Made wr W3 g k q n sf v' M' A c) (hk : k < 4) : W3.cell? ⟨g, k * 2, none⟩ = some (.slice (some ⟨q, 0, none⟩) n n) := by
  rw [h.at_.cell]
  have : k = 0 ∨ k = 1 ∨ k = 2 ∨ k = 3 := by omega
  rcases this with rfl | rfl | rfl | rfl <;> simp [cellsD]
theorem Made.old {w wr W3 : World} {g k q n sf : Nat} {v' : Nat → Value} {M' : MD} {A : Option Addr} {c : Nat} (h : Made wr W3 g k q n sf v' M' A c) (hB : Below w.heap.size w wr) (hg : w.heap.size ≤ g) : Below w.heap.size w W3 :=
  hB.trans ⟨h.os, h.tape, h.output, by have := h.size2; have := h.size; omega, fun j hj => h.below j (Nat.lt_of_lt_of_le hj hB.size) (by omega)⟩
/-- the row is filled -/
theorem Made.done {w wr W3 w4 : World} {g k q sf : Nat} {v' : Nat → Value} {M : MD} {A : Option Addr} {c : Nat} {b : ByteArray} (hk : k < 4) (hz : b.size ≤ 1048576) (hE : DiskAt wr g v' (partM M k)) (hF : ∀ q, footD g v' q → w.heap.size ≤ q) (hB : Below w.heap.size w wr) (hX : (partM M k).set k ⟨b, sf⟩ = partM M (k + 1))
    (h : Made wr W3 g k q b.size sf v' (partM M k) A c) (h4 : Hid (w4.heap[q]? = some (.cells (splice (zeros8 b.size).toList 0 (strCells b)).toArray 5 (0, 0)))) (hb : Below q W3 w4) : CpRel w M g (.int .i64 ((k + 1 : Nat) : Int)) w4 := by
  have hl : (strCells b).length = b.size := by simp [strCells]
  have hzl : (zeros8 b.size).toList.length = b.size := by simp [zeros8, madeCells]
  have hg := hE.at_.lt
  have hgB : w.heap.size ≤ g := hF g (.inl rfl)
  have hq := h.size
  refine ⟨k + 1, upd v' k (.slice (some ⟨q, 0, none⟩) b.size b.size), by omega, rfl, ?_, fun z hz => ?_, ?_⟩
  · rw [← hX]
    refine hE.filled k hk q b.size b.size (by omega) b sf (h.at_.below (n := q) (by omega) hb) (.inr ⟨q, b.size, _, rfl, h4, Nat.le_refl _, by unfold maxLen; omega, ?_, ?_⟩) fun j hj hne => ?_
    · have := length_splice (zeros8 b.size).toList 0 (strCells b) (by omega)
      simp only [List.size_toArray]
      omega
    · simp only [splice, List.take_zero, List.nil_append]
      rw [← hl]
      simp
    · exact (hb.block j (by omega)).trans (h.below j hj hne)
  · rcases hz with rfl | ⟨i, hi, hz⟩
    · exact hgB
    · unfold upd at hz
      split at hz
      · have : z = q := by simpa [Value.ownBlock, eq_comm] using hz
        have := hB.size
        omega
      · exact hF z (.inr ⟨i, hi, hz⟩)
  · refine hB.trans ⟨hb.os.trans h.os, hb.tape.trans h.tape, hb.output.trans h.output, ?_, fun j hj => ?_⟩
    · have := hb.size; have := h.size2; omega
    · have hj2 := Nat.lt_of_lt_of_le hj hB.size
      exact (hb.block j (by omega)).trans (h.below j hj2 (by omega))
set_option maxRecDepth 100000 in
set_option maxHeartbeats 1600000 in
theorem copy_any (d : Nat) (v : Nat → Value) (M : MD) (w : World) (hD : DiskAt w d v M) (hok : M.Ok) :
    Calls Try.prog 23 #[.pointer (some ⟨d, 0, none⟩)] w fun e w' => ∃ g v', e = .returned (.pointer (some ⟨g, 0, none⟩)) ∧ DiskAt w' g v' M ∧ (∀ k, footD g v' k → w.heap.size ≤ k) ∧ Below w.heap.size w w' := by
  obtain ⟨A0, c0, e0⟩ := hD.slice 0 (by decide)
  obtain ⟨A1, c1, e1⟩ := hD.slice 1 (by decide)
  obtain ⟨A2, c2, e2⟩ := hD.slice 2 (by decide)
  obtain ⟨A3, c3, e3⟩ := hD.slice 3 (by decide)
  have hdl := hD.at_.lt
  have HD := Lib.hid hD.at_
  unfold cellsD at HD
  rw [e0, e1, e2, e3] at HD
  have m0 := HD.out.cell 0
  have m1 := HD.out.cell 1
  have m2 := HD.out.cell 2
  have m3 := HD.out.cell 3
  have m4 := HD.out.cell 4
  have m5 := HD.out.cell 5
  have m6 := HD.out.cell 6
  have m7 := HD.out.cell 7
  have m8 := HD.out.cell 8
  have r0 := hD.row 0 (by decide)
  have r1 := hD.row 1 (by decide)
  have r2 := hD.row 2 (by decide)
  have r3 := hD.row 3 (by decide)
  rw [e0] at r0
  rw [e1] at r1
  rw [e2] at r2
  rw [e3] at r3
  have HN0 := part_next M 0
  have hz0 := (ok_size hok 0 (by decide)).1
  have HN1 := part_next M 1
  have hz1 := (ok_size hok 1 (by decide)).1
  have HN2 := part_next M 2
  have hz2 := (ok_size hok 2 (by decide)).1
  have HN3 := part_next M 3
  have hz3 := (ok_size hok 3 (by decide)).1
  obtain ⟨⟨b0, s0⟩, hb0⟩ : ∃ b, M.f 0 = b := ⟨_, rfl⟩
  obtain ⟨⟨b1, s1⟩, hb1⟩ : ∃ b, M.f 1 = b := ⟨_, rfl⟩
  obtain ⟨⟨b2, s2⟩, hb2⟩ : ∃ b, M.f 2 = b := ⟨_, rfl⟩
  obtain ⟨⟨b3, s3⟩, hb3⟩ : ∃ b, M.f 3 = b := ⟨_, rfl⟩
  simp only [hb0, hb1, hb2, hb3] at r0 r1 r2 r3 HN0 HN1 HN2 HN3 hz0 hz1 hz2 hz3 m0 m1 m2 m3 m4 m5 m6 m7 m8
  have R0 := Lib.hid r0
  have X0 := Lib.hid HN0
  have Z0 := Lib.hid hz0
  have R1 := Lib.hid r1
  have X1 := Lib.hid HN1
  have Z1 := Lib.hid hz1
  have R2 := Lib.hid r2
  have X2 := Lib.hid HN2
  have Z2 := Lib.hid hz2
  have R3 := Lib.hid r3
  have X3 := Lib.hid HN3
  have Z3 := Lib.hid hz3
  clear HN0 HN1 HN2 HN3 hz0 hz1 hz2 hz3 hb0 hb1 hb2 hb3
  have HD0 : Hid (DiskAt (w.alloc (.cells #[.slice none 0 0, .int .i64 0, .slice none 0 0, .int .i64 0, .slice none 0 0, .int .i64 0, .slice none 0 0, .int .i64 0, .int .i64 M.room] 64)) w.heap.size (fun _ => .slice none 0 0) (partM M 0)) := by
    show DiskAt _ _ _ _
    refine ⟨At.new w 64 _, fun i _ => .inl ⟨rfl, rfl⟩, ?_, ?_⟩
    · intro i _ k hk; simp [Value.ownBlock] at hk
    · intro i j _ _ _ k hk; simp [Value.ownBlock] at hk
  clear hD e0 e1 e2 e3 HD r0 r1 r2 r3 hok
  go_enter Try.func23, Try.ntmps23
  go_wp2_with fail
  clear m0 m1 m2 m3 m4 m5 m6 m7 m8
  go_loopw [16] (CpRel w M w.heap.size) (fun i _ => 4 - (intOf i).toNat)
  case atStart => exact ⟨0, _, by omega, rfl, HD0.out, fun q hq => (by rcases hq with rfl | ⟨i, hi, hq⟩; exact Nat.le_refl _; simp [Value.ownBlock] at hq), (Below.refl _ _).alloc (Nat.le_refl _) _⟩
  case round =>
    obtain ⟨k, v', hk, rfl, hE, hF, hB⟩ := hrel
    have HE := Lib.hid hE
    have HF := Lib.hid hF
    have HB := Lib.hid hB
    clear hE hF hB
    have hcase : k = 0 ∨ k = 1 ∨ k = 2 ∨ k = 3 ∨ k = 4 := by omega
    rcases hcase with rfl | rfl | rfl | rfl | rfl
    · have hsz := Z0.out
      have hg := HE.out.at_.lt
      have hmk := fun W => make8 W b0.size hsz
      have n0 : wr.cell? ⟨w.heap.size, 0, none⟩ = some (v' 0) := (HE.out.at_.cell 0).trans (cellsD_row v' _ 0 (by decide))
      have n1 : wr.cell? ⟨w.heap.size, 1, none⟩ = some (.int .i64 ((partM M 0).f 0).safe) := (HE.out.at_.cell 1).trans (cellsD_safe v' _ 0 (by decide))
      have f0 := HE.out.at_.free 0
      have f1 := HE.out.at_.free 1
      go_wp2_with (refine wpList_index61 rfl _ _ rfl _ rfl 0 rfl (by decide) ?_)
      go_region
      all_goals
        go_wp2_with fail
        refine Made.wp 0 HE.out.at_ fun W3 hM => ?_
        have HM := Lib.hid hM
        have HO := Lib.hid (hM.old HB.out (Nat.le_refl _))
        have y0 : W3.cell? ⟨w.heap.size, 0, none⟩ = some _ := hM.cell (by decide)
        have y1 := hM.box
        have hcs : (strCells b0).length = Nat.min b0.size b0.size := by simp [strCells]
        have hpos : 0 < (strCells b0).length → (some ⟨wr.heap.size + 1, 0, none⟩ : Option Addr) = some ⟨wr.heap.size + 1, 0, none⟩ ∧ ∃ ad, A0 = some ad ∧ ∀ j v, (strCells b0)[j]? = some v → W3.drew.cell? (ad.add j) = some v := by
          intro hp
          refine ⟨rfl, ?_⟩
          obtain ⟨ad, e, _⟩ := brow_cells R0.out 0 _ (List.getElem?_eq_getElem hp)
          refine ⟨ad, e, fun j v hv => ?_⟩
          obtain ⟨ad', e', hc⟩ := brow_cells R0.out j v hv
          rw [e] at e'
          cases e'
          have hc2 := old_cell HO.out hc
          exact hc2
        have HP := Lib.hid hpos
        have HCS := Lib.hid hcs
        have hfit : 0 + (strCells b0).length ≤ (zeros8 b0.size).toList.length := by simp [strCells, zeros8, madeCells]
        have HFT := Lib.hid hfit
        clear hM hpos hcs hfit n0 n1 f0 f1 hmk
        go_region_law (refine step_copy_splice rfl (.tmp 38) (.tmp 40) 59 59 rfl 5 Try.underlying59 (by kernel_rfl) _ _ _ _ _ _ rfl rfl (wr.heap.size + 1) 0 (zeros8 b0.size).toList 5 HM.out.row (strCells b0) HCS.out HP.out HFT.out (strCells_oneCell b0) (wr.heap.size + 1) W3 (below_drewN (Below.refl _ _) 1) (Nat.le_refl _) ?_; intro w4 hg4 hb4)
        all_goals
          go_wp2_with fail
          go_roundw
          case rel => exact Made.done (by decide) Z0.out HE.out HF.out HB.out X0.out HM.out hg4 hb4
          case measure => simp [intOf]
    · have hsz := Z1.out
      have hg := HE.out.at_.lt
      have hmk := fun W => make8 W b1.size hsz
      have n0 : wr.cell? ⟨w.heap.size, 2, none⟩ = some (v' 1) := (HE.out.at_.cell 2).trans (cellsD_row v' _ 1 (by decide))
      have n1 : wr.cell? ⟨w.heap.size, 3, none⟩ = some (.int .i64 ((partM M 1).f 1).safe) := (HE.out.at_.cell 3).trans (cellsD_safe v' _ 1 (by decide))
      have f0 := HE.out.at_.free 2
      have f1 := HE.out.at_.free 3
      go_wp2_with (refine wpList_index61 rfl _ _ rfl _ rfl 1 rfl (by decide) ?_)
      go_region
      all_goals
        go_wp2_with fail
        refine Made.wp 1 HE.out.at_ fun W3 hM => ?_
        have HM := Lib.hid hM
        have HO := Lib.hid (hM.old HB.out (Nat.le_refl _))
        have y0 : W3.cell? ⟨w.heap.size, 2, none⟩ = some _ := hM.cell (by decide)
        have y1 := hM.box
        have hcs : (strCells b1).length = Nat.min b1.size b1.size := by simp [strCells]
        have hpos : 0 < (strCells b1).length → (some ⟨wr.heap.size + 1, 0, none⟩ : Option Addr) = some ⟨wr.heap.size + 1, 0, none⟩ ∧ ∃ ad, A1 = some ad ∧ ∀ j v, (strCells b1)[j]? = some v → W3.drew.cell? (ad.add j) = some v := by
          intro hp
          refine ⟨rfl, ?_⟩
          obtain ⟨ad, e, _⟩ := brow_cells R1.out 0 _ (List.getElem?_eq_getElem hp)
          refine ⟨ad, e, fun j v hv => ?_⟩
          obtain ⟨ad', e', hc⟩ := brow_cells R1.out j v hv
          rw [e] at e'
          cases e'
          have hc2 := old_cell HO.out hc
          exact hc2
        have HP := Lib.hid hpos
        have HCS := Lib.hid hcs
        have hfit : 0 + (strCells b1).length ≤ (zeros8 b1.size).toList.length := by simp [strCells, zeros8, madeCells]
        have HFT := Lib.hid hfit
        clear hM hpos hcs hfit n0 n1 f0 f1 hmk
        go_region_law (refine step_copy_splice rfl (.tmp 38) (.tmp 40) 59 59 rfl 5 Try.underlying59 (by kernel_rfl) _ _ _ _ _ _ rfl rfl (wr.heap.size + 1) 0 (zeros8 b1.size).toList 5 HM.out.row (strCells b1) HCS.out HP.out HFT.out (strCells_oneCell b1) (wr.heap.size + 1) W3 (below_drewN (Below.refl _ _) 1) (Nat.le_refl _) ?_; intro w4 hg4 hb4)
        all_goals
          go_wp2_with fail
          go_roundw
          case rel => exact Made.done (by decide) Z1.out HE.out HF.out HB.out X1.out HM.out hg4 hb4
          case measure => simp [intOf]
    · have hsz := Z2.out
      have hg := HE.out.at_.lt
      have hmk := fun W => make8 W b2.size hsz
      have n0 : wr.cell? ⟨w.heap.size, 4, none⟩ = some (v' 2) := (HE.out.at_.cell 4).trans (cellsD_row v' _ 2 (by decide))
      have n1 : wr.cell? ⟨w.heap.size, 5, none⟩ = some (.int .i64 ((partM M 2).f 2).safe) := (HE.out.at_.cell 5).trans (cellsD_safe v' _ 2 (by decide))
      have f0 := HE.out.at_.free 4
      have f1 := HE.out.at_.free 5
      go_wp2_with (refine wpList_index61 rfl _ _ rfl _ rfl 2 rfl (by decide) ?_)
      go_region
      all_goals
        go_wp2_with fail
        refine Made.wp 2 HE.out.at_ fun W3 hM => ?_
        have HM := Lib.hid hM
        have HO := Lib.hid (hM.old HB.out (Nat.le_refl _))
        have y0 : W3.cell? ⟨w.heap.size, 4, none⟩ = some _ := hM.cell (by decide)
        have y1 := hM.box
        have hcs : (strCells b2).length = Nat.min b2.size b2.size := by simp [strCells]
        have hpos : 0 < (strCells b2).length → (some ⟨wr.heap.size + 1, 0, none⟩ : Option Addr) = some ⟨wr.heap.size + 1, 0, none⟩ ∧ ∃ ad, A2 = some ad ∧ ∀ j v, (strCells b2)[j]? = some v → W3.drew.cell? (ad.add j) = some v := by
          intro hp
          refine ⟨rfl, ?_⟩
          obtain ⟨ad, e, _⟩ := brow_cells R2.out 0 _ (List.getElem?_eq_getElem hp)
          refine ⟨ad, e, fun j v hv => ?_⟩
          obtain ⟨ad', e', hc⟩ := brow_cells R2.out j v hv
          rw [e] at e'
          cases e'
          have hc2 := old_cell HO.out hc
          exact hc2
        have HP := Lib.hid hpos
        have HCS := Lib.hid hcs
        have hfit : 0 + (strCells b2).length ≤ (zeros8 b2.size).toList.length := by simp [strCells, zeros8, madeCells]
        have HFT := Lib.hid hfit
        clear hM hpos hcs hfit n0 n1 f0 f1 hmk
        go_region_law (refine step_copy_splice rfl (.tmp 38) (.tmp 40) 59 59 rfl 5 Try.underlying59 (by kernel_rfl) _ _ _ _ _ _ rfl rfl (wr.heap.size + 1) 0 (zeros8 b2.size).toList 5 HM.out.row (strCells b2) HCS.out HP.out HFT.out (strCells_oneCell b2) (wr.heap.size + 1) W3 (below_drewN (Below.refl _ _) 1) (Nat.le_refl _) ?_; intro w4 hg4 hb4)
        all_goals
          go_wp2_with fail
          go_roundw
          case rel => exact Made.done (by decide) Z2.out HE.out HF.out HB.out X2.out HM.out hg4 hb4
          case measure => simp [intOf]
    · have hsz := Z3.out
      have hg := HE.out.at_.lt
      have hmk := fun W => make8 W b3.size hsz
      have n0 : wr.cell? ⟨w.heap.size, 6, none⟩ = some (v' 3) := (HE.out.at_.cell 6).trans (cellsD_row v' _ 3 (by decide))
      have n1 : wr.cell? ⟨w.heap.size, 7, none⟩ = some (.int .i64 ((partM M 3).f 3).safe) := (HE.out.at_.cell 7).trans (cellsD_safe v' _ 3 (by decide))
      have f0 := HE.out.at_.free 6
      have f1 := HE.out.at_.free 7
      go_wp2_with (refine wpList_index61 rfl _ _ rfl _ rfl 3 rfl (by decide) ?_)
      go_region
      all_goals
        go_wp2_with fail
        refine Made.wp 3 HE.out.at_ fun W3 hM => ?_
        have HM := Lib.hid hM
        have HO := Lib.hid (hM.old HB.out (Nat.le_refl _))
        have y0 : W3.cell? ⟨w.heap.size, 6, none⟩ = some _ := hM.cell (by decide)
        have y1 := hM.box
        have hcs : (strCells b3).length = Nat.min b3.size b3.size := by simp [strCells]
        have hpos : 0 < (strCells b3).length → (some ⟨wr.heap.size + 1, 0, none⟩ : Option Addr) = some ⟨wr.heap.size + 1, 0, none⟩ ∧ ∃ ad, A3 = some ad ∧ ∀ j v, (strCells b3)[j]? = some v → W3.drew.cell? (ad.add j) = some v := by
          intro hp
          refine ⟨rfl, ?_⟩
          obtain ⟨ad, e, _⟩ := brow_cells R3.out 0 _ (List.getElem?_eq_getElem hp)
          refine ⟨ad, e, fun j v hv => ?_⟩
          obtain ⟨ad', e', hc⟩ := brow_cells R3.out j v hv
          rw [e] at e'
          cases e'
          have hc2 := old_cell HO.out hc
          exact hc2
        have HP := Lib.hid hpos
        have HCS := Lib.hid hcs
        have hfit : 0 + (strCells b3).length ≤ (zeros8 b3.size).toList.length := by simp [strCells, zeros8, madeCells]
        have HFT := Lib.hid hfit
        clear hM hpos hcs hfit n0 n1 f0 f1 hmk
        go_region_law (refine step_copy_splice rfl (.tmp 38) (.tmp 40) 59 59 rfl 5 Try.underlying59 (by kernel_rfl) _ _ _ _ _ _ rfl rfl (wr.heap.size + 1) 0 (zeros8 b3.size).toList 5 HM.out.row (strCells b3) HCS.out HP.out HFT.out (strCells_oneCell b3) (wr.heap.size + 1) W3 (below_drewN (Below.refl _ _) 1) (Nat.le_refl _) ?_; intro w4 hg4 hb4)
        all_goals
          go_wp2_with fail
          go_roundw
          case rel => exact Made.done (by decide) Z3.out HE.out HF.out HB.out X3.out HM.out hg4 hb4
          case measure => simp [intOf]
    · go_wp2_with fail
      go_ret
      refine ⟨_, v', rfl, ?_, HF.out, HB.out⟩
      have h := HE.out
      exact ⟨(cellsD_part M v') ▸ h.at_, fun i hi => by have := h.row i hi; simp only [partM, hi, if_true] at this; exact this, h.off, h.two⟩
end Go.Proofs.Ytjlpgjfgeikdeaa
