/- The walk of the law FrameJoined. -/
import Derived.Test.YthbmkoiaennejabDoorWalkK
namespace Go.Proofs.YthbmkoiaennejabDoor
open Go.RowKit Go.ChangeShapes Go.WideShapes Go.ChangeAt
theorem scan_join (G : List ByteArray) (rest : ByteArray) (h : ∀ r ∈ G.map bytesOf, r.length ≤ 200000) : FrM.scanL (bytesOf (catS G ++ rest)) = (G.map bytesOf ++ (FrM.scanL (bytesOf rest)).1, (catS G).size + (FrM.scanL (bytesOf rest)).2) := by
  rw [bytes_append, ← len_bytes (catS _), bytes_catS]; exact FrM.scan_wraps _ _ h
theorem strs_behind {w : World} {base g c n : Nat} {G L : List ByteArray} (h : OwnS w base (.slice (some ⟨g, 0, none⟩) n c) (G ++ L)) (A : Option Addr) (c' : Nat) (hA : 0 < L.length → A = some ⟨g, G.length, none⟩) : Strs w (.slice A L.length c') L := by
  refine ⟨A, c', rfl, ?_⟩
  by_cases hL : L = []
  · exact .inl hL
  · refine .inr ⟨_, hA (by cases L with
      | nil => exact absurd rfl hL
      | cons => simp), fun i hi => ?_⟩
    have := h.cellAt (G.length + i) (by simp; omega)
    have e : (⟨g, G.length, none⟩ : Addr).add i = ⟨g, G.length + i, none⟩ := by unfold Addr.add; split <;> simp_all
    rw [e, this]
    congr 2
    simp only [List.getD]
    rw [List.getElem?_append_right (by omega), show G.length + i - G.length = i by omega]
set_option maxHeartbeats 1600000 in
theorem frameJoined_walk (A : Option Addr) (n0 cap0 : Nat) (L : List ByteArray) (a1 : ByteArray) (w : World) (hT : Table w) (w0 : Strs w (.slice A n0 cap0) L) (y0 : bulkS L ≤ 1048576) (w1 : a1.size ≤ 1048576) :
    Calls Tryd.prog 8 #[.slice A n0 cap0, .string a1] w fun e w' => e = .returned (.bool true) ∧ Below w.heap.size w w' := by
  have HT := Lib.hid hT
  have HS0 := Lib.hid w0
  obtain ⟨rfl, hcell0⟩ := w0.at_
  have HC0 := Lib.hid hcell0
  have hll : L.length ≤ 1048576 := Nat.le_trans (bulk_length L) y0
  clear hT w0 hcell0
  go_enter Tryd.func8, Tryd.ntmps8
  go_wp2_with fail
  go_loopw [5, 6, 7] (fun s n i wr => ∃ k : Nat, k ≤ L.length ∧ i = .int .i64 k ∧ s = .string (catS (fits (L.take k))) ∧ n = .int .i64 ((fits (L.take k)).length : Nat) ∧ Below w.heap.size w wr) (fun _ _ i _ => L.length - (intOf i).toNat)
  case atStart => exact ⟨0, Nat.zero_le _, rfl, rfl, rfl, Below.refl _ _⟩
  case round =>
    obtain ⟨k, hk, rfl, rfl, rfl, hbX⟩ := hrel
    have HBK := Lib.hid hbX
    have HTK : Hid (Table wr) := HT.out.below HT.out.pos hbX
    have hsz1 : (catS (fits (L.take k))).size ≤ 8388608 := by
      rw [catS_sum]; exact Nat.le_trans (fits_take_le L k) (by omega)
    have hgl : (fits (L.take k)).length ≤ 1048576 := Nat.le_trans (fits_length L k) hll
    clear hbX
    by_cases hlt : k < L.length
    · obtain ⟨ad, rfl, hcs⟩ := HC0.out (by omega)
      obtain ⟨ad', e, hc⟩ := ((Strs.keep HS0.out HBK.out).at_.2 (by omega))
      cases e
      replace hc := hc k hlt
      have hxl := bulk_get L k hlt
      by_cases hx : (L.getD k noText).size ≤ 200000
      · have HF : Hid (fits (L.take (k + 1)) = fits (L.take k) ++ [L.getD k noText]) := fits_yes L k hlt hx
        have HCK : Hid (catS (fits (L.take k)) ++ wrapS (L.getD k noText) = catS (fits (L.take (k + 1)))) := by show _ = _; rw [HF.out, catS_snoc]
        have hsz2 : (wrapS (L.getD k noText)).size ≤ 200008 := by rw [wrapS_size]; omega
        generalize L.getD k noText = x at *
        generalize hG : fits (L.take k) = G at *
        clear hG hcs
        go_wp2_with fail
        refine (wrap_fits x _ hx HTK).mono ?_
        rintro e w4 ⟨rfl, hb4⟩
        have HB4 : Hid (Below w.heap.size w w4) := below_step HBK.out hb4
        clear hb4 hc
        generalize wrapS x = t at *
        go_wp2_with fail
        go_roundw
        case rel => exact ⟨k + 1, by omega, by go_num, by rw [HCK.out], by rw [HF.out]; simp, HB4.out⟩
        case measure => simp [intOf]; omega
      · have HF : Hid (fits (L.take (k + 1)) = fits (L.take k)) := fits_no L k hlt hx
        have hm : (L.getD k noText).size ≤ maxLen := by unfold maxLen; omega
        have hl : 200000 < (L.getD k noText).size := by omega
        generalize L.getD k noText = x at *
        clear hcs hx
        go_wp2_with fail
        refine (wrap_long x _ hl hm).mono ?_
        rintro e w' ⟨rfl, rfl⟩
        go_wp2_with fail
        go_roundw
        case rel => exact ⟨k + 1, by omega, by go_num, by rw [HF.out], by rw [HF.out], HBK.out⟩
        case measure => simp [intOf]; omega
    · have HSC := Lib.hid (scan_join (fits (L.take k)) a1 (fits_le (L.take k)))
      generalize fits (L.take k) = G at *
      have hs1 : a1.size ≤ 35184372088832 := by omega
      have hs2 : (catS G ++ a1).size ≤ 35184372088832 := by rw [ByteArray.size_append]; omega
      generalize catS G = S at *
      go_wp2_with fail
      refine (scan_any a1 _ hs1 HTK).mono ?_
      rintro e w2 ⟨v2, M, rfl, hM, ho2, hb2⟩
      have hl8 := recs_le a1 M hM
      have hnm : (FrM.scanL (bytesOf a1)).2 ≤ a1.size := by rw [← len_bytes]; exact FrM.scan_le _ _ (Nat.le_refl _)
      have HM := Lib.hid hM
      have HOM := Lib.hid ho2
      have HB2 : Hid (Below w.heap.size w w2) := below_step HBK.out hb2
      have HT2 : Hid (Table w2) := HT.out.below HT.out.pos HB2.out
      clear hM ho2 hb2
      generalize hgn : (FrM.scanL (bytesOf a1)).2 = m at *
      clear hgn
      go_wp2_with fail
      refine (scan_any (S ++ a1) _ hs2 HT2).mono ?_
      rintro e w3 ⟨v3, N, rfl, hN, ho3, hb3⟩
      rw [HSC.out] at hN ⊢
      obtain rfl : N = G ++ M := map_bytes_inj (by rw [hN, List.map_append, HM.out])
      have HOM3 : Hid (OwnS w3 wr.heap.size v2 M) := HOM.out.below hb3
      have HB3 : Hid (Below w.heap.size w w3) := below_step HB2.out hb3
      have HT3 : Hid (Table w3) := HT.out.below HT.out.pos HB3.out
      have HON := Lib.hid ho3
      have hl1 : M.length ≤ 140737488351232 := by omega
      clear hN ho3 hb3 HSC HM
      have hlen : (G ++ M).length = G.length + M.length := by simp
      have HLEN := Lib.hid hlen
      obtain ⟨A2, c2, rfl, _⟩ := HOM3.out.form
      clear HOM
      have hml : M.length ≤ 1048576 := by omega
      rcases HON.out.slice with ⟨rfl, hnil⟩ | ⟨g, cap, rfl, _, _, hcap, hcm⟩
      · have hG : G = [] := (List.append_eq_nil_iff.1 hnil).1
        have hM : M = [] := (List.append_eq_nil_iff.1 hnil).2
        subst hG hM
        have HB : Hid (Strs w3 (.slice none 0 0) []) := (OwnS.nil w3 0).strs
        clear hnil hlen
        go_wp2_with fail
        refine (same_any _ _ [] [] w3 HB.out HOM3.out.strs hl1 hl1).mono ?_
        rintro e w' ⟨rfl, m1, rfl⟩
        rw [show decide (([] : List ByteArray) = []) = true from decide_eq_true rfl]
        go_wp2_with fail
        refine (live_any _ (Table.drewN HT3.out m1)).mono ?_
        rintro e w5 ⟨rfl, hb5⟩
        have HB5 : Hid (Below w.heap.size w w5) := below_step (below_drewN HB3.out m1) hb5
        clear hb5
        go_wp2
        go_ret
        exact ⟨rfl, HB5.out⟩
      · rw [hlen] at hcap
        unfold maxLen at hcm
        rw [hlen]
        have t1 : ((G.length : Int) + (M.length : Int) == (G.length : Int) + (M.length : Int)) = true := by simp
        by_cases hce : cap = G.length
        · have hM : M = [] := List.eq_nil_of_length_eq_zero (by omega)
          subst hM hce
          have HB : Hid (Strs w3 (.slice (some ⟨g, 0, none⟩) 0 0) []) := ⟨_, _, rfl, .inl rfl⟩
          clear hlen
          go_wp2_with fail
          refine (same_any _ _ [] [] w3 HB.out HOM3.out.strs hl1 hl1).mono ?_
          rintro e w' ⟨rfl, m1, rfl⟩
          rw [show decide (([] : List ByteArray) = []) = true from decide_eq_true rfl]
          go_wp2_with fail
          refine (live_any _ (Table.drewN HT3.out m1)).mono ?_
          rintro e w5 ⟨rfl, hb5⟩
          have HB5 : Hid (Below w.heap.size w w5) := below_step (below_drewN HB3.out m1) hb5
          clear hb5
          go_wp2
          go_ret
          exact ⟨rfl, HB5.out⟩
        · have HB : Hid (Strs w3 (.slice (some ⟨g, G.length, none⟩) M.length (cap - G.length)) M) := strs_behind HON.out _ _ (fun _ => rfl)
          clear hlen
          go_wp2_with fail
          refine (same_any _ _ M M w3 HB.out HOM3.out.strs hl1 hl1).mono ?_
          rintro e w' ⟨rfl, m1, rfl⟩
          rw [show decide (M = M) = true from decide_eq_true rfl]
          go_wp2_with fail
          refine (live_any _ (Table.drewN HT3.out m1)).mono ?_
          rintro e w5 ⟨rfl, hb5⟩
          have HB5 : Hid (Below w.heap.size w w5) := below_step (below_drewN HB3.out m1) hb5
          clear hb5
          go_wp2
          go_ret
          exact ⟨rfl, HB5.out⟩
end Go.Proofs.YthbmkoiaennejabDoor
