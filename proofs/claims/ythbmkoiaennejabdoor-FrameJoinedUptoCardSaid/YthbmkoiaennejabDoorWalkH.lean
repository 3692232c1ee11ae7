/- The walks of the laws FrameWraps and FrameScans. -/
import Derived.Test.YthbmkoiaennejabDoorWalkG
namespace Go.Proofs.YthbmkoiaennejabDoor
open Go.RowKit Go.ChangeShapes Go.WideShapes Go.ChangeAt
set_option maxHeartbeats 400000 in
theorem frameWraps_walk (a0 : ByteArray) (w : World) (hT : Table w) (w0 : a0.size ≤ 140737488351232) :
    Calls Tryd.prog 3 #[.string a0] w fun e w' => e = .returned (.bool true) ∧ Below w.heap.size w w' := by
  have HT := Lib.hid hT
  clear hT
  by_cases h : a0.size ≤ 200000
  · go_enter Tryd.func3, Tryd.ntmps3
    go_wp2_with fail
    refine (wrap_fits a0 _ h HT).mono ?_
    rintro e w1 ⟨rfl, hb1⟩
    have HT1 : Hid (Table w1) := HT.out.below HT.out.pos hb1
    go_wp2_with fail
    refine (wrap_fits a0 _ h HT1).mono ?_
    rintro e w2 ⟨rfl, hb2⟩
    have HB2 : Hid (Below w.heap.size w w2) := below_step hb1 hb2
    go_wp2_with fail
    refine (rwrap_fits a0 _ h).mono ?_
    rintro e w3 ⟨rfl, hb3⟩
    have HB3 : Hid (Below w.heap.size w w3) := below_step HB2.out hb3
    have HT3 : Hid (Table w3) := HT.out.below HT.out.pos HB3.out
    generalize wrapS a0 = x
    clear hb1 hb2 hb3
    go_wp2_with fail
    refine (live_any _ HT3).mono ?_
    rintro e w4 ⟨rfl, hb4⟩
    have HB4 : Hid (Below w.heap.size w w4) := below_step HB3.out hb4
    clear hb4
    go_wp2
    go_ret
    exact ⟨rfl, HB4.out⟩
  · have hm : a0.size ≤ maxLen := by unfold maxLen; omega
    have hl : 200000 < a0.size := by omega
    clear h
    go_enter Tryd.func3, Tryd.ntmps3
    go_wp2_with fail
    refine (wrap_long a0 _ hl hm).mono ?_
    rintro e w' ⟨rfl, rfl⟩
    go_wp2_with fail
    refine (wrap_long a0 _ hl hm).mono ?_
    rintro e w' ⟨rfl, rfl⟩
    go_wp2_with fail
    refine (rwrap_long a0 _ hl hm).mono ?_
    rintro e w' ⟨rfl, rfl⟩
    go_wp2_with fail
    refine (live_any _ HT).mono ?_
    rintro e w4 ⟨rfl, hb4⟩
    have HB4 := Lib.hid hb4
    clear hb4
    go_wp2
    go_ret
    exact ⟨rfl, HB4.out⟩
theorem map_bytes_inj {L M : List ByteArray} (h : L.map bytesOf = M.map bytesOf) : L = M := (List.map_inj_right (fun _ _ h => bytes_inj h)).1 h
theorem OwnS.drewN {w : World} {base : Nat} {v : Value} {L : List ByteArray} (h : OwnS w base v L) (m : Nat) : OwnS (w.drewN m) base v L := h
theorem OwnS.put {w : World} {base g cap : Nat} {L : List ByteArray} (h : OwnS w base (.slice (some ⟨g, 0, none⟩) L.length cap) L) (j : Nat) (y : ByteArray) : OwnS (w.setCell ⟨g, j, none⟩ (.string y)) base (.slice (some ⟨g, 0, none⟩) L.length cap) (L.set j y) := by
  have := (World.ownsRow.stored h j (.string y)).1
  unfold OwnS
  rw [List.length_set, List.map_set]
  exact this
theorem OwnS.far {w : World} {base : Nat} {v : Value} {L : List ByteArray} (h : OwnS w base v L) {p : Addr} (hp : p.block < base) (u : Value) : OwnS (w.setCell p u) base v L := h.setCell hp u
/-- how many texts at the most -/
theorem recs_le (s : ByteArray) (L : List ByteArray) (h : L.map bytesOf = (FrM.scanL (bytesOf s)).1) : L.length * 8 ≤ s.size := by
  have h2 : ∀ (n : Nat) (l : List Nat), l.length ≤ n → (FrM.scanL l).1.length * 8 ≤ l.length := by
    intro n
    induction n with
    | zero => intro l h; rw [FrM.scanL_none (by have := FrM.size_le l; omega)]; simp
    | succ n ih =>
      intro l h
      by_cases hs : FrM.size l = 0
      · rw [FrM.scanL_none hs]; simp
      · rw [FrM.scanL_step hs]
        have h1 := FrM.size_ge hs
        have h2 := FrM.size_le l
        have := ih (l.drop (FrM.size l)) (by rw [List.length_drop]; omega)
        rw [List.length_drop] at this
        simp only [List.length_cons]; omega
  have := h2 _ (bytesOf s) (Nat.le_refl _)
  rw [← h, List.length_map, len_bytes] at this
  exact this
set_option maxHeartbeats 800000 in
theorem frameScans_walk (a0 : ByteArray) (w : World) (hT : Table w) (w0 : a0.size ≤ 1048576) :
    Calls Tryd.prog 4 #[.string a0] w fun e w' => e = .returned (.bool true) ∧ Below w.heap.size w w' := by
  have HT := Lib.hid hT
  clear hT
  have hs : a0.size ≤ 35184372088832 := by omega
  go_enter Tryd.func4, Tryd.ntmps4
  go_wp2_with fail
  refine (scan_any a0 _ hs HT).mono ?_
  rintro e w1 ⟨v, L, rfl, hL, ho1, hb1⟩
  have HL := Lib.hid hL
  have HO1 := Lib.hid ho1
  have HB1 := Lib.hid hb1
  have hl8 := recs_le a0 L hL
  clear hL ho1 hb1
  go_wp2_with fail
  refine (rscan_any a0 _ hs).mono ?_
  rintro e w2 ⟨v2, M, rfl, hM, ho2, hb2⟩
  obtain rfl : M = L := map_bytes_inj (hM.trans HL.out.symm)
  have HO1' : Hid (OwnS w2 w.heap.size v M) := OwnS.below HO1 hb2
  have HOM := Lib.hid ho2
  have HBX : Hid (Below w.heap.size w w2) := below_step HB1.out hb2
  have HTX : Hid (Table w2) := HT.out.below HT.out.pos HBX.out
  have hl1 : M.length ≤ 140737488351232 := by omega
  have hbig : w.heap.size ≤ w1.heap.size := HB1.out.size
  have HSL := Lib.hid (ho2.slice)
  clear hM ho2 hb2
  rcases HO1.out.slice with ⟨rfl, rfl⟩ | ⟨g, cap, rfl, hg1, hg2, hcap, hcm⟩
  · go_wp2_with fail
    refine (same_any (.slice none 0 0) v2 [] [] w2 (OwnS.nil w2 0).strs HOM.out.strs hl1 hl1).mono ?_
    rintro e w' ⟨rfl, m0, rfl⟩
    rw [show decide (([] : List ByteArray) = []) = true from decide_eq_true rfl]
    replace HOM : Hid (OwnS (w2.drewN m0) w1.heap.size v2 []) := HOM
    replace HBX : Hid (Below w.heap.size w (w2.drewN m0)) := below_drewN HBX.out m0
    replace HTX : Hid (Table (w2.drewN m0)) := Table.drewN HTX.out m0
    generalize w2.drewN m0 = w3 at *
    go_wp2_with fail
    refine wp_loop_rounds 1 ?_
    rw [rounds_succ]
    go_wp2_with fail
    refine (scan_any a0 _ hs HTX).mono ?_
    rintro e w4 ⟨v4, L4, rfl, hL4, ho4, hb4⟩
    obtain rfl : L4 = [] := map_bytes_inj (hL4.trans HL.out.symm)
    have HO4 := Lib.hid (ho4.strs)
    have HO2' := Lib.hid ((OwnS.below HOM.out hb4).strs)
    have HB4 : Hid (Below w.heap.size w w4) := below_step HBX.out hb4
    have HT4 : Hid (Table w4) := HT.out.below HT.out.pos HB4.out
    clear hL4 ho4 hb4
    generalize (FrM.scanL (bytesOf a0)).2 = n
    go_wp2_with fail
    refine (same_any v4 v2 [] [] w4 HO4.out HO2'.out hl1 hl1).mono ?_
    rintro e w' ⟨rfl, m, rfl⟩
    rw [show decide (([] : List ByteArray) = []) = true from decide_eq_true rfl]
    go_wp2_with fail
    refine (live_any _ (Table.drewN HT4.out m)).mono ?_
    rintro e w5 ⟨rfl, hb5⟩
    have HB5 : Hid (Below w.heap.size w w5) := below_step (below_drewN HB4.out m) hb5
    clear hb5
    go_wp2
    go_ret
    exact ⟨rfl, HB5.out⟩
  · go_wp2_with fail
    refine (same_any (.slice (some ⟨g, 0, none⟩) M.length cap) v2 M M w2 HO1'.out.strs HOM.out.strs hl1 hl1).mono ?_
    rintro e w' ⟨rfl, m0, rfl⟩
    rw [show decide (M = M) = true from decide_eq_true rfl]
    replace HOM : Hid (OwnS (w2.drewN m0) w1.heap.size v2 M) := HOM
    replace HO1' : Hid (OwnS (w2.drewN m0) w.heap.size (.slice (some ⟨g, 0, none⟩) M.length cap) M) := HO1'
    replace HBX : Hid (Below w.heap.size w (w2.drewN m0)) := below_drewN HBX.out m0
    generalize w2.drewN m0 = w3 at *
    clear HTX
    go_wp2_with fail
    go_loopw [7] (fun i wr => ∃ (k : Nat) (K : List ByteArray), k ≤ M.length ∧ i = .int .i64 k ∧ K.length = M.length ∧ OwnS wr w.heap.size (.slice (some ⟨g, 0, none⟩) M.length cap) K ∧ OwnS wr w1.heap.size v2 M ∧ Below w.heap.size w wr) (fun i _ => M.length - (intOf i).toNat)
    case atStart => exact ⟨0, M, Nat.zero_le _, rfl, rfl, HO1'.out, HOM.out, HBX.out⟩
    case round =>
      obtain ⟨k, K, hk, rfl, hKl, hoK, hoM, hbX⟩ := hrel
      have HKL := Lib.hid hKl
      rw [← hKl] at hoK
      have HOK := Lib.hid hoK
      replace HOM := Lib.hid hoM
      replace HBX := Lib.hid hbX
      have HTX : Hid (Table wr) := HT.out.below HT.out.pos hbX
      clear hKl hoK hoM hbX
      by_cases hlt : k < M.length
      · have hc : wr.cell? ⟨g, k, none⟩ = some (.string (K.getD k noText)) := by
          have h := World.ownsRow.cellAt HOK.out k (by rw [HKL.out]; omega)
          rw [h]; simp [List.getD, HKL.out, hlt]
        have hf : wr.frozen? ⟨g, k, none⟩ = false := World.ownsRow.frozenAt HOK.out k
        go_wp2_with fail
        go_roundw
        case rel =>
          refine ⟨k + 1, K.set k ⟨#[120]⟩, by omega, by go_num, by rw [List.length_set]; exact HKL.out, ?_, HOM.out.far (by show g < _; omega) _, HBX.out.setCell (by show _ ≤ g; omega) _⟩
          have := HOK.out.put k ⟨#[120]⟩
          rwa [HKL.out] at this
        case measure => simp [intOf]; omega
      · go_wp2_with fail
        refine (scan_any a0 _ hs HTX).mono ?_
        rintro e w4 ⟨v4, L4, rfl, hL4, ho4, hb4⟩
        obtain rfl : L4 = M := map_bytes_inj (hL4.trans HL.out.symm)
        have HO4 := Lib.hid (ho4.strs)
        have HO2' := Lib.hid ((OwnS.below HOM.out hb4).strs)
        have HB4 : Hid (Below w.heap.size w w4) := below_step HBX.out hb4
        have HT4 : Hid (Table w4) := HT.out.below HT.out.pos HB4.out
        clear hL4 ho4 hb4
        generalize (FrM.scanL (bytesOf a0)).2 = n
        go_wp2_with fail
        refine (same_any v4 v2 L4 L4 w4 HO4.out HO2'.out hl1 hl1).mono ?_
        rintro e w' ⟨rfl, m, rfl⟩
        rw [show decide (L4 = L4) = true from decide_eq_true rfl]
        go_wp2_with fail
        refine (live_any _ (Table.drewN HT4.out m)).mono ?_
        rintro e w5 ⟨rfl, hb5⟩
        have HB5 : Hid (Below w.heap.size w w5) := below_step (below_drewN HB4.out m) hb5
        clear hb5
        go_wp2
        go_ret
        exact ⟨rfl, HB5.out⟩
end Go.Proofs.YthbmkoiaennejabDoor
