/- The walk of the law FrameStands. -/
import Derived.Test.YthbmkoiaennejabDoorWalkI
namespace Go.Proofs.YthbmkoiaennejabDoor
open Go.RowKit Go.ChangeShapes Go.WideShapes Go.ChangeAt
theorem take_succ_getD {α : Type} (M : List α) (k : Nat) (d : α) (h : k < M.length) : M.take (k + 1) = M.take k ++ [M.getD k d] := by
  rw [List.take_succ_eq_append_getElem h, ← List.getElem_eq_getD (h := h) d]
/-- frames one behind the other -/
def catS (L : List ByteArray) : ByteArray := L.foldl (fun s x => s ++ wrapS x) noText
theorem catS_snoc (L : List ByteArray) (x : ByteArray) : catS (L ++ [x]) = catS L ++ wrapS x := by unfold catS; rw [List.foldl_append]; rfl
theorem bytes_catS (L : List ByteArray) : bytesOf (catS L) = FrM.wraps (L.map bytesOf) := by
  have h : ∀ (L : List ByteArray) (s : ByteArray), bytesOf (L.foldl (fun s x => s ++ wrapS x) s) = bytesOf s ++ FrM.wraps (L.map bytesOf) := by
    intro L
    induction L with
    | nil => intro s; simp [FrM.wraps]
    | cons x L ih => intro s; rw [List.foldl_cons, ih, bytes_append, bytes_wrap]; simp [FrM.wraps]
  have := h L noText
  rw [show bytesOf noText = [] from rfl, List.nil_append] at this
  exact this
theorem OwnS.form {w : World} {base : Nat} {v : Value} {L : List ByteArray} (h : OwnS w base v L) : ∃ A c, v = .slice A L.length c ∧ (0 < L.length → ∃ g, A = some ⟨g, 0, none⟩ ∧ base ≤ g) := by
  rcases h.slice with ⟨rfl, rfl⟩ | ⟨g, cap, rfl, hg, _⟩
  · exact ⟨none, 0, rfl, fun h => absurd h (by simp)⟩
  · exact ⟨_, cap, rfl, fun _ => ⟨g, rfl, hg⟩⟩
theorem OwnS.cellAt {w : World} {base g cap n : Nat} {L : List ByteArray} (h : OwnS w base (.slice (some ⟨g, 0, none⟩) n cap) L) (k : Nat) (hk : k < L.length) : w.cell? ⟨g, k, none⟩ = some (.string (L.getD k noText)) := by
  have e : n = L.length := by
    rcases h.slice with ⟨h, _⟩ | ⟨_, _, h, _⟩
    · cases h
    · injection h
  subst e
  have := World.ownsRow.cellAt h k (by omega)
  rw [this]; simp [List.getD, hk]
theorem catS_size_le (L M : List ByteArray) : (catS L).size ≤ (catS (L ++ M)).size := by
  rw [← len_bytes, ← len_bytes, bytes_catS, bytes_catS, List.map_append, FrM.wraps_append, List.length_append]; omega
set_option maxHeartbeats 800000 in
theorem frameStands_walk (a0 : ByteArray) (w : World) (hT : Table w) (w0 : a0.size ≤ 1048576) :
    Calls Tryd.prog 6 #[.string a0] w fun e w' => e = .returned (.bool true) ∧ Below w.heap.size w w' := by
  have HT := Lib.hid hT
  clear hT
  have hs : a0.size ≤ 35184372088832 := by omega
  obtain ⟨n, hn⟩ : ∃ n, n = (FrM.scanL (bytesOf a0)).2 := ⟨_, rfl⟩
  have hnl : n ≤ a0.size := by rw [hn, ← len_bytes]; exact FrM.scan_le _ _ (Nat.le_refl _)
  have HST : Hid (FrM.scanL (bytesOf (a0.extract 0 n)) = FrM.scanL (bytesOf a0)) := by
    show _ = _
    rw [bytes_extract, List.drop_zero, Nat.sub_zero, hn]
    exact FrM.scan_take _ _ (Nat.le_refl _)
  have hwr := FrM.wraps_scan _ (bytesOf a0) (Nat.le_refl _) (bytes_lt' a0)
  rw [← hn] at hwr
  have HWR := Lib.hid hwr
  have HN := Lib.hid hn
  clear hn hwr
  have hxs : (a0.extract 0 n).size ≤ 35184372088832 := by rw [ByteArray.size_extract]; omega
  go_enter Tryd.func6, Tryd.ntmps6
  go_wp2_with fail
  refine (scan_any a0 _ hs HT).mono ?_
  rintro e w1 ⟨v, L, rfl, hL, ho1, hb1⟩
  have HL := Lib.hid hL
  have HO1 := Lib.hid ho1
  have HB1 := Lib.hid hb1
  have hl8 := recs_le a0 L hL
  have HT1 : Hid (Table w1) := HT.out.below HT.out.pos hb1
  clear hL ho1 hb1
  rw [← HN.out]
  go_wp2_with fail
  refine (scan_any _ _ hxs HT1).mono ?_
  rintro e w2 ⟨v2, M, rfl, hM, ho2, hb2⟩
  rw [HST.out] at hM ⊢
  obtain rfl : M = L := map_bytes_inj (hM.trans HL.out.symm)
  have HO1' : Hid (OwnS w2 w.heap.size v M) := OwnS.below HO1 hb2
  have HOM := Lib.hid ho2.strs
  have HBX : Hid (Below w.heap.size w w2) := below_step HB1.out hb2
  have hl1 : M.length ≤ 140737488351232 := by omega
  rw [← HN.out]
  clear hM ho2 hb2
  go_wp2_with fail
  refine (same_any v v2 M M w2 HO1'.out.strs HOM.out hl1 hl1).mono ?_
  rintro e w' ⟨rfl, m0, rfl⟩
  rw [show decide (M = M) = true from decide_eq_true rfl]
  replace HO1' : Hid (OwnS (w2.drewN m0) w.heap.size v M) := HO1'
  replace HBX : Hid (Below w.heap.size w (w2.drewN m0)) := below_drewN HBX.out m0
  generalize w2.drewN m0 = w3 at *
  clear HOM HST hxs
  have HCS : Hid (bytesOf (catS M) = (bytesOf a0).take n) := by show _ = _; rw [bytes_catS, HL.out]; exact HWR.out.1
  have HR : Hid (∀ x ∈ M, x.size ≤ 200000) := fun x hx => by
    rw [← len_bytes]
    exact HWR.out.2 _ (by rw [← HL.out]; exact List.mem_map.2 ⟨x, hx, rfl⟩)
  have HSZ : Hid ((catS M).size ≤ 1048576) := by show _ ≤ _; rw [← len_bytes, HCS.out, List.length_take, len_bytes]; omega
  obtain ⟨A, cap, rfl, hA⟩ := HO1'.out.form
  have HA := Lib.hid hA
  clear hA
  go_wp2_with fail
  go_loopw [7, 8] (fun t i wr => ∃ k : Nat, k ≤ M.length ∧ i = .int .i64 k ∧ t = .string (catS (M.take k)) ∧ OwnS wr w.heap.size (.slice A M.length cap) M ∧ Below w.heap.size w wr) (fun _ i _ => M.length - (intOf i).toNat)
  case atStart => exact ⟨0, Nat.zero_le _, rfl, rfl, HO1'.out, HBX.out⟩
  case round =>
    obtain ⟨k, hk, rfl, rfl, hoK, hbX⟩ := hrel
    have HOK := Lib.hid hoK
    have HBK := Lib.hid hbX
    have HTK : Hid (Table wr) := HT.out.below HT.out.pos hbX
    clear hoK hbX
    by_cases hlt : k < M.length
    · obtain ⟨g, rfl, hg⟩ := HA.out (by omega)
      have hc := HOK.out.cellAt k hlt
      have hx := HR.out (M.getD k noText) (by rw [← List.getElem_eq_getD (h := hlt)]; exact List.getElem_mem _)
      have HCK : Hid (catS (M.take k) ++ wrapS (M.getD k noText) = catS (M.take (k + 1))) := by show _ = _; rw [take_succ_getD M k noText hlt, catS_snoc]
      have hsz1 : (catS (M.take k)).size ≤ 1048576 := by
        have := catS_size_le (M.take k) (M.drop k)
        rw [List.take_append_drop] at this
        exact Nat.le_trans this HSZ.out
      have hsz2 : (wrapS (M.getD k noText)).size ≤ 200008 := by rw [wrapS_size]; omega
      generalize M.getD k noText = x at *
      go_wp2_with fail
      refine (wrap_fits x _ hx HTK).mono ?_
      rintro e w4 ⟨rfl, hb4⟩
      have HB4 : Hid (Below w.heap.size w w4) := below_step HBK.out hb4
      have HO4 := Lib.hid (HOK.out.below hb4)
      clear hb4
      go_wp2_with fail
      go_roundw
      case rel => exact ⟨k + 1, by omega, by go_num, by rw [HCK.out], HO4.out, HB4.out⟩
      case measure => simp [intOf]; omega
    · obtain rfl : k = M.length := by omega
      rw [List.take_length]
      have htest : ((catS M).toList == (a0.extract 0 n).toList) = true := by
        rw [str_eq]; exact decide_eq_true (by rw [HCS.out, bytes_extract]; simp)
      go_wp2_with fail
      refine (live_any _ HTK).mono ?_
      rintro e w5 ⟨rfl, hb5⟩
      have HB5 : Hid (Below w.heap.size w w5) := below_step HBK.out hb5
      clear hb5
      go_wp2
      go_ret
      exact ⟨rfl, HB5.out⟩
end Go.Proofs.YthbmkoiaennejabDoor
