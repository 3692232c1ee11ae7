/- The walks of the laws FrameBack and FrameJoined. -/
import Derived.Test.YthbmkoiaennejabDoorWalkJ
namespace Go.Proofs.YthbmkoiaennejabDoor
open Go.RowKit Go.ChangeShapes Go.WideShapes Go.ChangeAt
def bulkS (L : List ByteArray) : Nat := (L.map fun x => x.size + 1).sum
def fits (L : List ByteArray) : List ByteArray := L.filter fun x => decide (x.size ≤ 200000)
theorem catS_sum (L : List ByteArray) : (catS L).size = (L.map fun x => x.size + 8).sum := by
  rw [← len_bytes, bytes_catS]
  induction L with
  | nil => rfl
  | cons x L ih => simp only [List.map_cons, FrM.wraps, List.length_append, FrM.wrap_length, len_bytes, List.sum_cons, ih]
theorem fits_take_le (L : List ByteArray) : ∀ k, ((fits (L.take k)).map fun x => x.size + 8).sum ≤ 8 * bulkS L := by
  induction L with
  | nil => intro k; simp [fits]
  | cons x L ih =>
    intro k
    cases k with
    | zero => simp [fits]
    | succ k =>
      have := ih k
      unfold fits bulkS at *
      simp only [List.take_succ_cons, List.map_cons, List.sum_cons]
      by_cases h : x.size ≤ 200000
      · rw [List.filter_cons_of_pos (by simpa using h)]; simp only [List.map_cons, List.sum_cons]; omega
      · rw [List.filter_cons_of_neg (by simpa using h)]; omega
theorem bulk_length (L : List ByteArray) : L.length ≤ bulkS L := by
  induction L with
  | nil => simp [bulkS]
  | cons x L ih => unfold bulkS at *; simp only [List.map_cons, List.sum_cons, List.length_cons]; omega
theorem fits_length (L : List ByteArray) (k : Nat) : (fits (L.take k)).length ≤ L.length :=
  Nat.le_trans (List.length_filter_le _ _) (by rw [List.length_take]; omega)
theorem fits_yes (L : List ByteArray) (k : Nat) (h : k < L.length) (hx : (L.getD k noText).size ≤ 200000) : fits (L.take (k + 1)) = fits (L.take k) ++ [L.getD k noText] := by
  unfold fits; rw [take_succ_getD L k noText h, List.filter_append, List.filter_cons_of_pos (by exact decide_eq_true hx), List.filter_nil]
theorem fits_no (L : List ByteArray) (k : Nat) (h : k < L.length) (hx : ¬ (L.getD k noText).size ≤ 200000) : fits (L.take (k + 1)) = fits (L.take k) := by
  unfold fits; rw [take_succ_getD L k noText h, List.filter_append, List.filter_cons_of_neg (by simpa using decide_eq_false hx), List.filter_nil, List.append_nil]
theorem fits_le (L : List ByteArray) : ∀ r ∈ (fits L).map bytesOf, r.length ≤ 200000 := by
  intro r hr
  obtain ⟨x, hx, rfl⟩ := List.mem_map.1 hr
  rw [len_bytes]
  simpa using (List.mem_filter.1 hx).2
theorem bulk_get (L : List ByteArray) (k : Nat) (h : k < L.length) : (L.getD k noText).size ≤ bulkS L := by
  induction L generalizing k with
  | nil => simp at h
  | cons x L ih =>
    unfold bulkS at *
    simp only [List.map_cons, List.sum_cons]
    cases k with
    | zero => show x.size ≤ _; omega
    | succ k => have := ih k (by simpa using h); show (L.getD k noText).size ≤ _; omega
def lastOf (G : List ByteArray) : Nat := match G.getLast? with | none => 0 | some x => x.size + 8
theorem lastOf_snoc (G : List ByteArray) (x : ByteArray) : lastOf (G ++ [x]) = x.size + 8 := by simp [lastOf]
theorem Strs.keep {w w' : World} {v : Value} {L : List ByteArray} (h : Strs w v L) (hb : Below w.heap.size w w') : Strs w' v L := by
  obtain ⟨A, c, rfl, h⟩ := h
  refine ⟨A, c, rfl, h.imp id ?_⟩
  rintro ⟨ad, rfl, hc⟩
  refine ⟨ad, rfl, fun i hi => (hb.cell ?_).trans (hc i hi)⟩
  have h0 := hc i hi
  rcases Nat.lt_or_ge (ad.add i).block w.heap.size with h' | h'
  · exact h'
  · simp [World.cell?, Array.getElem?_eq_none h'] at h0
theorem Strs.at_ {w : World} {A : Option Addr} {n c : Nat} {L : List ByteArray} (h : Strs w (.slice A n c) L) : n = L.length ∧ (0 < L.length → ∃ ad, A = some ad ∧ ∀ i, i < L.length → w.cell? (ad.add i) = some (.string (L.getD i noText))) := by
  obtain ⟨A', c', e, h⟩ := h
  injection e with e1 e2 e3
  subst e1 e2 e3
  refine ⟨rfl, fun hp => ?_⟩
  rcases h with rfl | h
  · simp at hp
  · exact h
theorem OwnS.le_cap {w : World} {base n c : Nat} {A : Option Addr} {L : List ByteArray} (h : OwnS w base (.slice A n c) L) : L.length ≤ c := by
  rcases h.slice with ⟨e, h⟩ | ⟨g, cap, e, _, _, h, _⟩
  · rw [h]; simp
  · injection e with _ _ e; omega
theorem scan_catS (L : List ByteArray) (k : Nat) : FrM.scanL (bytesOf (catS (fits (L.take k)))) = ((fits (L.take k)).map bytesOf, (catS (fits (L.take k))).size) := by
  rw [← len_bytes (catS _), bytes_catS]; exact FrM.scan_wraps' _ (fits_le _)
set_option maxHeartbeats 1600000 in
theorem frameBack_walk (A : Option Addr) (n0 cap0 : Nat) (L : List ByteArray) (a1 : Int) (w : World) (hT : Table w) (w0 : Strs w (.slice A n0 cap0) L) (y0 : bulkS L ≤ 1048576) (w1 : (Lit.int .i64 a1).wf = true) :
    Calls Tryd.prog 5 #[.slice A n0 cap0, .int .i64 a1] w fun e w' => e = .returned (.bool true) ∧ Below w.heap.size w w' := by
  have HT := Lib.hid hT
  have HS0 := Lib.hid w0
  obtain ⟨rfl, hcell0⟩ := w0.at_
  have HC0 := Lib.hid hcell0
  obtain ⟨h1a, h1b⟩ := i64_of w1
  have hll : L.length ≤ 1048576 := Nat.le_trans (bulk_length L) y0
  clear hT w0 hcell0 w1
  go_enter Tryd.func5, Tryd.ntmps5
  go_wp2_with fail
  go_loopw [5, 6, 7, 8] (fun s good last i wr => ∃ k : Nat, k ≤ L.length ∧ i = .int .i64 k ∧ s = .string (catS (fits (L.take k))) ∧ last = .int .i64 (lastOf (fits (L.take k)) : Nat) ∧ OwnS wr w.heap.size good (fits (L.take k)) ∧ Below w.heap.size w wr) (fun _ _ _ i _ => L.length - (intOf i).toNat)
  case atStart => exact ⟨0, Nat.zero_le _, rfl, rfl, rfl, OwnS.nil _ _, Below.refl _ _⟩
  case round =>
    obtain ⟨k, hk, rfl, rfl, rfl, hoK, hbX⟩ := hrel
    have HOK := Lib.hid hoK
    have HBK := Lib.hid hbX
    have HTK : Hid (Table wr) := HT.out.below HT.out.pos hbX
    have hsz1 : (catS (fits (L.take k))).size ≤ 8388608 := by
      rw [catS_sum]; exact Nat.le_trans (fits_take_le L k) (by omega)
    have hgl : (fits (L.take k)).length ≤ 1048576 := Nat.le_trans (fits_length L k) hll
    have hbw : w.heap.size ≤ wr.heap.size := hbX.size
    clear hoK hbX
    by_cases hlt : k < L.length
    · obtain ⟨ad, rfl, hcs⟩ := HC0.out (by omega)
      have hc := ((Strs.keep HS0.out HBK.out).at_.2 (by omega))
      obtain ⟨ad', e, hc⟩ := hc
      cases e
      replace hc := hc k hlt
      have hxl := bulk_get L k hlt
      by_cases hx : (L.getD k noText).size ≤ 200000
      · have HF : Hid (fits (L.take (k + 1)) = fits (L.take k) ++ [L.getD k noText]) := fits_yes L k hlt hx
        have HCK : Hid (catS (fits (L.take k)) ++ wrapS (L.getD k noText) = catS (fits (L.take (k + 1)))) := by show _ = _; rw [HF.out, catS_snoc]
        have HLK : Hid (lastOf (fits (L.take (k + 1))) = (wrapS (L.getD k noText)).size) := by show _ = _; rw [HF.out, lastOf_snoc, wrapS_size]
        have hsz2 : (wrapS (L.getD k noText)).size ≤ 200008 := by rw [wrapS_size]; omega
        have hle : decide (((L.getD k noText).size : Int) ≤ 200000) = true := decide_eq_true (by omega)
        generalize L.getD k noText = x at *
        generalize hG : fits (L.take k) = G at *
        clear hG hcs
        go_wp2_with fail
        refine (wrap_fits x _ hx HTK).mono ?_
        rintro e w4 ⟨rfl, hb4⟩
        have HB4 : Hid (Below w.heap.size w w4) := below_step HBK.out hb4
        have HO4 : Hid (OwnS w4 w.heap.size u6 G) := HOK.out.below hb4
        have HR4 : Hid (∀ k, u6.ownBlock = some k → w.heap.size ≤ k) := OwnS.blocks HO4.out
        have hc4 : w4.cell? (ad.add k) = some (.string x) := by
          refine (hb4.cell ?_).trans hc
          rcases Nat.lt_or_ge (ad.add k).block wr.heap.size with h' | h'
          · exact h'
          · simp [World.cell?, Array.getElem?_eq_none h'] at hc
        have hbs : w.heap.size ≤ w4.heap.size := HB4.out.size
        have h16 : (G.length + 1) * 16 ≤ 140737488355328 := by omega
        clear hb4 hc
        generalize wrapS x = t at *
        go_wp2_with (at_builtin; refine app_str rfl _ _ rfl x rfl HO4.out hbs rfl h16 ?_; intro v2 w5 ho2 hg2; have HO2 := Lib.hid ho2; have HG := Lib.hid hg2; clear ho2 hg2)
        go_roundw
        case rel =>
          exact ⟨k + 1, by omega, by go_num, by rw [HCK.out], by rw [HLK.out], by rw [HF.out]; exact HO2.out, (HB4.out.alloc hbs _).grown HG.out (by simp [World.alloc, -World.alloc_eq]; omega) HR4.out⟩
        case measure => simp [intOf]; omega
      · have HF : Hid (fits (L.take (k + 1)) = fits (L.take k)) := fits_no L k hlt hx
        have hle : decide (((L.getD k noText).size : Int) ≤ 200000) = false := decide_eq_false (by omega)
        have hm : (L.getD k noText).size ≤ maxLen := by unfold maxLen; omega
        have hl : 200000 < (L.getD k noText).size := by omega
        generalize L.getD k noText = x at *
        clear hcs hx
        go_wp2_with fail
        refine (wrap_long x _ hl hm).mono ?_
        rintro e w' ⟨rfl, rfl⟩
        go_wp2_with fail
        go_roundw
        case rel => exact ⟨k + 1, by omega, by go_num, by rw [HF.out], by rw [HF.out], by rw [HF.out]; exact HOK.out, HBK.out⟩
        case measure => simp [intOf]; omega
    · have HSC := Lib.hid (scan_catS L k)
      have HFL := Lib.hid (fits_le (L.take k))
      generalize fits (L.take k) = G at *
      have hs1 : (catS G).size ≤ 35184372088832 := by omega
      go_wp2_with fail
      refine (scan_any (catS G) _ hs1 HTK).mono ?_
      rintro e w2 ⟨v2, M, rfl, hM, ho2, hb2⟩
      rw [HSC.out] at hM ⊢
      obtain rfl : M = G := map_bytes_inj hM
      have HO1 : Hid (OwnS w2 w.heap.size u6 M) := HOK.out.below hb2
      have HOM := Lib.hid ho2.strs
      have HB2 : Hid (Below w.heap.size w w2) := below_step HBK.out hb2
      have hl1 : M.length ≤ 140737488351232 := by omega
      clear hM ho2 hb2
      go_wp2_with fail
      refine (same_any v2 u6 M M w2 HOM.out HO1.out.strs hl1 hl1).mono ?_
      rintro e w' ⟨rfl, m0, rfl⟩
      rw [show decide (M = M) = true from decide_eq_true rfl]
      replace HO1 : Hid (OwnS (w2.drewN m0) w.heap.size u6 M) := HO1
      replace HB2 : Hid (Below w.heap.size w (w2.drewN m0)) := below_drewN HB2.out m0
      generalize w2.drewN m0 = w3 at *
      have HT3 : Hid (Table w3) := HT.out.below HT.out.pos HB2.out
      clear HOM
      obtain ⟨A6, c6, rfl, hA6⟩ := HO1.out.form
      rcases List.eq_nil_or_concat M with rfl | ⟨G, r, rfl⟩
      · clear hA6
        go_wp2_with fail
        refine (live_any _ HT3).mono ?_
        rintro e w5 ⟨rfl, hb5⟩
        have HB5 : Hid (Below w.heap.size w w5) := below_step HB2.out hb5
        clear hb5
        go_wp2
        go_ret
        exact ⟨rfl, HB5.out⟩
      · simp only [List.concat_eq_append] at *
        obtain ⟨g, rfl, hg⟩ := hA6 (by simp)
        have HLO : Hid (lastOf (G ++ [r]) = r.size + 8) := lastOf_snoc G r
        have HFR : Hid (∀ x ∈ G.map bytesOf ++ [bytesOf r], x.length ≤ 200000) := by
          have := HFL.out
          rwa [List.map_append] at this
        have hcs : (catS (G ++ [r])).size = (catS G).size + (r.size + 8) := by rw [catS_snoc, ByteArray.size_append, wrapS_size]
        have hlen : (G ++ [r]).length = G.length + 1 := by simp
        have HSLS : Hid (Strs w3 (.slice (some ⟨g, 0, none⟩) G.length c6) G) := by
          refine ⟨_, _, rfl, ?_⟩
          by_cases hG : G = []
          · exact .inl hG
          · refine .inr ⟨_, rfl, fun i hi => ?_⟩
            have := HO1.out.cellAt i (by rw [hlen]; omega)
            have e : (⟨g, 0, none⟩ : Addr).add i = ⟨g, i, none⟩ := by unfold Addr.add; split <;> simp_all
            rw [e, this]
            congr 2
            simp [List.getD, List.getElem?_append_left hi]
        obtain ⟨f, hf, hfe⟩ : ∃ f : Nat, (f : Int) < ((lastOf (G ++ [r]) : Nat) : Int) ∧ (if a1 < 0 then -(a1 + 1) else a1) % ((lastOf (G ++ [r]) : Nat) : Int) = (f : Int) := by
          have hp1 : 0 < ((lastOf (G ++ [r]) : Nat) : Int) := by rw [HLO.out]; omega
          refine ⟨((if a1 < 0 then -(a1 + 1) else a1) % ((lastOf (G ++ [r]) : Nat) : Int)).toNat, ?_, ?_⟩
          · have := Int.emod_lt_of_pos (if a1 < 0 then -(a1 + 1) else a1) hp1
            have := Int.emod_nonneg (if a1 < 0 then -(a1 + 1) else a1) (show ((lastOf (G ++ [r]) : Nat) : Int) ≠ 0 by omega)
            omega
          · have := Int.emod_nonneg (if a1 < 0 then -(a1 + 1) else a1) (show ((lastOf (G ++ [r]) : Nat) : Int) ≠ 0 by omega)
            omega
        have hfn : a1 < 0 → -(a1 + 1).tmod ((lastOf (G ++ [r]) : Nat) : Int) = (f : Int) := by
          intro h
          rw [if_pos h] at hfe
          rw [← hfe, ← Int.neg_tmod, Int.tmod_eq_emod_of_nonneg (by omega)]
        have hfp : ¬ a1 < 0 → a1 % ((lastOf (G ++ [r]) : Nat) : Int) = (f : Int) := by
          intro h
          rw [if_neg h] at hfe
          exact hfe
        have HSC2 : Hid (FrM.scanL (bytesOf ((catS (G ++ [r])).extract 0 ((catS (G ++ [r])).size - (1 + f)))) = (G.map bytesOf, (catS (G ++ [r])).size - (r.size + 8))) := by
          show _ = _
          have h := FrM.scan_cut (G.map bytesOf) (bytesOf r) HFR.out (1 + f) (by omega) (by rw [len_bytes]; have := HLO.out; omega)
          have e : FrM.wraps (G.map bytesOf ++ [bytesOf r]) = bytesOf (catS (G ++ [r])) := by rw [bytes_catS, List.map_append]; rfl
          rw [e, len_bytes, len_bytes] at h
          rw [bytes_extract, List.drop_zero, Nat.sub_zero]
          exact h
        have hlz : ¬ (((lastOf (G ++ [r]) : Nat) : Int) = 0) := by rw [HLO.out]; omega
        have hlb : lastOf (G ++ [r]) ≤ 200008 + 8388608 := by have := HLO.out; omega
        have hl8 : lastOf (G ++ [r]) ≤ (catS (G ++ [r])).size := by have := HLO.out; omega
        have HCS := Lib.hid hcs
        clear hfe HFR HFL HSC hcs
        have t0 : (((G.length : Int) + 1) == 0) = false := by rw [beq_eq_false_iff_ne]; omega
        have hGl : G.length ≤ 1048576 := by omega
        rw [hlen]
        have hcap := HO1.out.le_cap
        rw [hlen] at hcap
        clear hA6 HOK HO1 HC0 HS0 hlt
        generalize catS (G ++ [r]) = S at *
        generalize lastOf (G ++ [r]) = la at *
        have r1 : ((S.size : Int) - (1 + (f : Int))).toNat = S.size - (1 + f) := by omega
        have r2 : 0 ≤ (S.size : Int) - (1 + (f : Int)) := by omega
        have r3 : (S.size : Int) - (1 + (f : Int)) ≤ (S.size : Int) := by omega
        have hxs : (S.extract 0 (S.size - (1 + f))).size ≤ 35184372088832 := by rw [ByteArray.size_extract]; omega
        have hl2 : G.length ≤ 140737488351232 := by omega
        have r5 : (((S.size - (r.size + 8) : Nat) : Int) == (S.size : Int) - (la : Int)) = true := by
          rw [beq_iff_eq]; have := HLO.out; omega
        by_cases hneg : a1 < 0
        all_goals
          first
          | (have hfe := hfn hneg; clear hfn hfp)
          | (have hfe := hfp hneg; clear hfn hfp)
          go_wp2_with fail
          refine (scan_any _ _ hxs HT3).mono ?_
          rintro e w4 ⟨v4, M4, rfl, hM4, ho4, hb4⟩
          rw [HSC2.out] at hM4 ⊢
          obtain rfl : M4 = G := map_bytes_inj hM4
          have HO4 := Lib.hid ho4.strs
          have HS4 := Lib.hid (HSLS.out.keep hb4)
          have HB4 : Hid (Below w.heap.size w w4) := below_step HB2.out hb4
          have HT4 : Hid (Table w4) := HT.out.below HT.out.pos HB4.out
          clear hM4 ho4 hb4
          go_wp2_with fail
          refine (same_any v4 _ M4 M4 w4 HO4.out HS4.out hl2 hl2).mono ?_
          rintro e w' ⟨rfl, m1, rfl⟩
          rw [show decide (M4 = M4) = true from decide_eq_true rfl]
          go_wp2_with fail
          refine (live_any _ (Table.drewN HT4.out m1)).mono ?_
          rintro e w5 ⟨rfl, hb5⟩
          have HB5 : Hid (Below w.heap.size w w5) := below_step (below_drewN HB4.out m1) hb5
          clear hb5
          go_wp2
          go_ret
          exact ⟨rfl, HB5.out⟩
end Go.Proofs.YthbmkoiaennejabDoor
