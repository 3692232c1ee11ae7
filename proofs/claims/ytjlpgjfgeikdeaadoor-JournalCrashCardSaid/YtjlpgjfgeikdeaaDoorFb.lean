import Derived.Test.YtjlpgjfgeikdeaaDoorFa
import Derived.Deep.RegionHeld
import Derived.WalkSpells
section
/- What the closure in frame.Scan does: one frame more, or none. -/
set_option maxRecDepth 100000
namespace Go.Proofs.YtjlpgjfgeikdeaaDoor.Fr
open Go.RowKit Go.ChangeShapes Go.WideShapes Go.ChangeAt
/-- what the closure has captured -/
structure St (w : World) (N : Nat) (s : ByteArray) (a : Nat) (v : Value) (L : List ByteArray) : Prop where
  cs : w.cell? ⟨N, 0, none⟩ = some (.string s)
  cv : w.cell? ⟨N + 1, 0, none⟩ = some v
  fv : w.frozen? ⟨N + 1, 0, none⟩ = false
  ca : w.cell? ⟨N + 2, 0, none⟩ = some (.int .i64 (a : Int))
  fa : w.frozen? ⟨N + 2, 0, none⟩ = false
  own : OwnS w (N + 3) v L
  big : N + 3 ≤ w.heap.size
theorem St.below {w w' : World} {N : Nat} {s : ByteArray} {a : Nat} {v : Value} {L : List ByteArray} (h : St w N s a v L) (hb : Below w.heap.size w w') : St w' N s a v L where
  cs := (hb.cell (p := ⟨N, 0, none⟩) (by have := h.big; show N < _; omega)).trans h.cs
  cv := (hb.cell (p := ⟨N + 1, 0, none⟩) (by have := h.big; show N + 1 < _; omega)).trans h.cv
  fv := (hb.frozen (p := ⟨N + 1, 0, none⟩) (by have := h.big; show N + 1 < _; omega)).trans h.fv
  ca := (hb.cell (p := ⟨N + 2, 0, none⟩) (by have := h.big; show N + 2 < _; omega)).trans h.ca
  fa := (hb.frozen (p := ⟨N + 2, 0, none⟩) (by have := h.big; show N + 2 < _; omega)).trans h.fa
  own := h.own.below hb
  big := Nat.le_trans h.big hb.size
theorem OwnS.setCell {w : World} {base : Nat} {v : Value} {L : List ByteArray} (h : OwnS w base v L) {p : Addr} (hp : p.block < base) (u : Value) : OwnS (w.setCell p u) base v L := by
  obtain ⟨h1, h2⟩ := h
  refine ⟨h1, h2.imp id ?_⟩
  rintro ⟨g, cap, cur, e1, e2, e3, e4⟩
  exact ⟨g, cap, cur, e1, e2, (Below.heap_setCell w p u g (by omega)).trans e3, e4⟩
theorem app_below {w w2 : World} {base : Nat} {v : Value} {L : List ByteArray} {y : ByteArray} (h : OwnS w base v L) (hb : base ≤ w.heap.size) (hg : (w.alloc (.cells #[.string y] 9)).grownBy w2 v.ownBlock) : Below base w w2 :=
  ((Below.refl base w).alloc hb _).grown hg (by simp [World.alloc, -World.alloc_eq]; omega) h.blocks
theorem OwnS.cons {w : World} {base : Nat} {v : Value} {L : List ByteArray} {y : ByteArray} (h : OwnS w base v (L ++ [y])) : ∃ g cap, v = .slice (some ⟨g, 0, none⟩) (L.length + 1) cap ∧ base ≤ g := by
  rcases h.slice with ⟨_, h2⟩ | ⟨g, cap, e, hg, _⟩
  · simp at h2
  · exact ⟨g, cap, by rw [e]; simp, hg⟩
theorem St.next {w : World} {N : Nat} {s : ByteArray} {v v2 : Value} {L : List ByteArray} {n : Int} (a : Nat) (hn : n = (a : Int)) (hcs : w.cell? ⟨N, 0, none⟩ = some (.string s)) (hcv : w.cell? ⟨N + 1, 0, none⟩ = some v) (hfv : w.frozen? ⟨N + 1, 0, none⟩ = false) {u : Value}
    (hca : w.cell? ⟨N + 2, 0, none⟩ = some u) (hfa : w.frozen? ⟨N + 2, 0, none⟩ = false) (ho : OwnS w (N + 3) v2 L) (hbig : N + 3 ≤ w.heap.size) : St ((w.setCell ⟨N + 1, 0, none⟩ v2).setCell ⟨N + 2, 0, none⟩ (.int .i64 n)) N s a v2 L := by
  subst hn
  refine ⟨?_, ?_, ?_, ?_, ?_, ?_, ?_⟩
  · rw [World.cell?_setCell_far _ _ _ _ (by show N + 2 ≠ N; omega), World.cell?_setCell_far _ _ _ _ (by show N + 1 ≠ N; omega)]; exact hcs
  · rw [World.cell?_setCell_far _ _ _ _ (by show N + 2 ≠ N + 1; omega)]; exact World.cell?_setCell_same w _ _ hcv
  · rw [World.frozen?_setCell, World.frozen?_setCell]; exact hfv
  · exact World.cell?_setCell_same _ _ _ ((World.cell?_setCell_far _ _ _ _ (by show N + 1 ≠ N + 2; omega)).trans hca)
  · rw [World.frozen?_setCell, World.frozen?_setCell]; exact hfa
  · exact (ho.setCell (by show N + 1 < N + 3; omega) _).setCell (by show N + 2 < N + 3; omega) _
  · simp; exact hbig
def Next (N : Nat) (s : ByteArray) (a : Nat) (L : List ByteArray) (w : World) (e : Ending) (w' : World) : Prop :=
  ∃ v', e = .returned (.bool (!(FrM.size (restOf s a) == 0))) ∧ St w' N s (a + FrM.size (restOf s a)) v' (if FrM.size (restOf s a) = 0 then L else L ++ [s.extract (a + 8) (a + FrM.size (restOf s a))]) ∧ Below N w w'
theorem next_no {N : Nat} {s : ByteArray} {a : Nat} {L : List ByteArray} {w w' : World} {v : Value} (hz : FrM.size (restOf s a) = 0) (h : St w N s a v L) (hb : Below w.heap.size w w') : Next N s a L w (.returned (.bool false)) w' :=
  ⟨v, by rw [hz]; rfl, by rw [hz, if_pos rfl]; exact h.below hb, hb.mono (by have := h.big; omega)⟩
theorem next_yes {N : Nat} {s : ByteArray} {a z : Nat} {L : List ByteArray} {w w' : World} {v : Value} (hz : FrM.size (restOf s a) = z) (h0 : z ≠ 0) (h : St w' N s (a + z) v (L ++ [s.extract (a + 8) (a + z)])) (hb : Below N w w') : Next N s a L w (.returned (.bool true)) w' := by
  subst hz
  exact ⟨v, by simp [h0], by rw [if_neg h0]; exact h, hb⟩
theorem or_low (a b : Nat) (ha : a < 256) (hb : b < 256) : bits .or .i64 (a : Int) ((b : Int) * 256) = ((a + 256 * b : Nat) : Int) := by
  have h := (bits_nat .i64 63 (by decide) (fun n h0 h1 => by rw [IntKind.wrap_i64]; omega) a (b * 256) (by omega) (by omega)).2
  have e : a ||| b * 256 = a + 256 * b := by
    have := Nat.two_pow_add_eq_or_of_lt (i := 8) ha b
    rw [Nat.or_comm, Nat.mul_comm b 256, show 256 * b = 2 ^ 8 * b from rfl, ← this]; omega
  rw [e] at h
  rw [← h]; congr 1
theorem or_mid (a b : Nat) (ha : a < 65536) (hb : b < 256) : bits .or .i64 (a : Int) ((b : Int) * 65536) = ((a + 65536 * b : Nat) : Int) := by
  have h := (bits_nat .i64 63 (by decide) (fun n h0 h1 => by rw [IntKind.wrap_i64]; omega) a (b * 65536) (by omega) (by omega)).2
  have e : a ||| b * 65536 = a + 65536 * b := by
    have := Nat.two_pow_add_eq_or_of_lt (i := 16) ha b
    rw [Nat.or_comm, Nat.mul_comm b 65536, show 65536 * b = 2 ^ 16 * b from rfl, ← this]; omega
  rw [e] at h
  rw [← h]; congr 1
theorem getD_bytes (a : ByteArray) (k : Nat) (h : k < a.size) : (bytesOf a).getD k 0 = a[k].toNat := by
  unfold bytesOf
  simp [List.getD, h]
  rfl
theorem first_byte (r : ByteArray) (h : 0 < r.size) : ((r.extract 0 1).toList == [167]) = decide ((bytesOf r).getD 0 0 = 167) := by
  have e := str_eq (r.extract 0 1) { data := #[167] }
  have e2 : ({ data := #[167] } : ByteArray).toList = [167] := by rw [ByteArray.toList_eq]
  rw [e2] at e
  rw [e, bytes_extract, Bool.eq_iff_iff, decide_eq_true_iff, decide_eq_true_iff]
  have hl := len_bytes r
  cases hb : bytesOf r with
  | nil => rw [hb] at hl; simp at hl; omega
  | cons x l => simp [bytesOf]
set_option maxHeartbeats 800000 in
theorem next_any (N : Nat) (s : ByteArray) (a : Nat) (v : Value) (L : List ByteArray) (w : World) (hs : s.size ≤ 35184372088832) (ha : a ≤ s.size) (hL8 : L.length * 8 ≤ a) (hst : St w N s a v L) (hT : Table w) :
    Calls Tryd.prog 68 #[.pointer (some ⟨N, 0, none⟩), .pointer (some ⟨N + 2, 0, none⟩), .pointer (some ⟨N + 1, 0, none⟩)] w (Next N s a L w) := by
  have HT := Lib.hid hT
  have HST := Lib.hid hst
  clear hT
  obtain ⟨hcs, hcv, hfv, hca, hfa, _, hbig⟩ := hst
  obtain ⟨r, hr⟩ : ∃ r, s.extract a s.size = r := ⟨_, rfl⟩
  have HRB : Hid (bytesOf r = restOf s a) := by
    show _ = _; rw [← hr, bytes_extract]; unfold restOf; rw [List.take_of_length_le (by rw [List.length_drop, len_bytes]; omega)]
  have hrs : (r.size : Int) = (s.size : Int) - (a : Int) := by rw [← hr, ByteArray.size_extract]; omega
  have HRS := Lib.hid hrs
  have hl := rest_length s a
  have hrb : r.size ≤ 35184372088832 := by omega
  clear hrs
  by_cases h8 : r.size < 8
  · have HZ : Hid (FrM.size (restOf s a) = 0) := if_neg (fun h => by have := h.1; have := HRS.out; omega)
    clear hl
    go_enter Tryd.func68, Tryd.ntmps68
    go_wp2_with fail
    go_ret
    exact next_no HZ.out HST.out (Below.refl _ _)
  · have h8' : 8 ≤ r.size := by omega
    have hfst := first_byte r (by omega)
    by_cases h167 : (bytesOf r).getD 0 0 = 167
    · rw [decide_eq_true h167] at hfst
      clear h8
      have HG := Lib.hid h167
      obtain ⟨n, hn⟩ : ∃ n, n = FrM.numOf (restOf s a) := ⟨_, rfl⟩
      have hn2 : r[1].toNat + 256 * r[2].toNat + 65536 * r[3].toNat = n := by
        rw [hn, ← HRB.out]; unfold FrM.numOf
        rw [getD_bytes r 1 (by omega), getD_bytes r 2 (by omega), getD_bytes r 3 (by omega)]
      have g1 := r[1].toNat_lt
      have g2 := r[2].toNat_lt
      have g3 := r[3].toNat_lt
      have hnb : n ≤ 16777215 := by omega
      have HN := Lib.hid hn
      have HN2 := Lib.hid hn2
      have HL := Lib.hid hl
      have HR := Lib.hid hr
      clear hn hn2 hl h167
      go_enter Tryd.func68, Tryd.ntmps68
      go_wp2_with fail
      clear hr hfst
      go_cut [5] (fun v wx => v = .int .i64 (n : Int) ∧ Below w.heap.size w wx)
      case first =>
        obtain ⟨m, hm⟩ : ∃ m, m = r[1].toNat + 256 * r[2].toNat := ⟨_, rfl⟩
        have hmb : m < 65536 := by omega
        have q1 : bits .or .i64 (r[1].toNat : Int) ((r[2].toNat : Int) * 256) = (m : Int) := by rw [hm]; exact or_low r[1].toNat r[2].toNat g1 g2
        have q2 : bits .or .i64 (m : Int) ((r[3].toNat : Int) * 65536) = (n : Int) := by
          rw [or_mid m r[3].toNat hmb g3, hm, HN2.out]
        clear hm
        have b1 : (1 : Int) < r.size := by omega
        have b2 : (2 : Int) < r.size := by omega
        have b3 : (3 : Int) < r.size := by omega
        go_quiet (fail)
        go_wp2_with fail
        go_meet
        exact ⟨rfl, below_drewN (Below.refl _ _) _⟩
      case rest =>
        obtain ⟨rfl, hbel⟩ := hcut
        have hA : 200000 < n ∨ n ≤ 200000 := by omega
        have hB : r.size - 8 < n ∨ n ≤ r.size - 8 := by omega
        rcases hA with hA | hA
        · have HZ : Hid (FrM.size (restOf s a) = 0) := if_neg (fun h => by
            have h2 := h.2.2.2.1
            rw [← HN.out] at h2; omega)
          clear hB
          go_wp2_with fail
          go_ret
          exact next_no HZ.out HST.out hbel
        · rcases hB with hB | hB
          · have HZ : Hid (FrM.size (restOf s a) = 0) := if_neg (fun h => by
              have h2 := h.2.2.2.2.1
              have := HRS.out
              rw [← HN.out, HL.out] at h2; omega)
            go_wp2_with fail
            go_ret
            exact next_no HZ.out HST.out hbel
          · have hB2 : n + 8 ≤ r.size := by omega
            have p9 : 0 ≤ 8 + (n : Int) := by omega
            have r9 : (8 + (n : Int)).toNat = 8 + n := by omega
            have d1 : (8 : Int) ≤ 8 + (n : Int) := by omega
            have d2 : 8 + (n : Int) ≤ (r.size : Int) := by omega
            clear hB
            go_wp2_with fail
            have HTC : Hid (Table wc) := HT.out.below HT.out.pos hbel
            have hz1 : (r.extract 1 4).size ≤ maxLen := by rw [ByteArray.size_extract]; unfold maxLen; omega
            have hz2 : (r.extract 8 (8 + n)).size ≤ maxLen := by rw [ByteArray.size_extract]; unfold maxLen; omega
            have hpb := ext_lt 0 (r.extract 1 4) (by decide)
            have HQ : Hid (CrcM.ext (CrcM.ext 0 (bytesOf (r.extract 1 4))) (bytesOf (r.extract 8 (8 + n))) = FrM.sumOf (((restOf s a).drop 1).take 3 ++ ((restOf s a).drop 8).take n)) := by
              show _ = _
              rw [CrcM.ext_append, bytes_extract, bytes_extract, HRB.out, show 8 + n - 8 = n by omega]; rfl
            obtain ⟨tb, htb⟩ : ∃ tb, tb = !((strOfNats (FrM.low (CrcM.ext (CrcM.ext 0 (bytesOf (r.extract 1 4))) (bytesOf (r.extract 8 (8 + n)))) 4)).toList == (r.extract 4 8).toList) := ⟨_, rfl⟩
            have HTB : Hid (tb = false ↔ FrM.low (FrM.sumOf (((restOf s a).drop 1).take 3 ++ ((restOf s a).drop 8).take n)) 4 = ((restOf s a).drop 4).take 4) := by
              show _ ↔ _
              rw [htb, Bool.not_eq_false', str_eq, decide_eq_true_iff, strOfNats_bytes _ (FrM.low_lt _ _), HQ.out, bytes_extract r 4 8, HRB.out]
            have c4 : (4 : Int) ≤ r.size := by omega
            have c8 : (8 : Int) ≤ r.size := by omega
            go_cut [52] (fun v wx => v = .bool tb ∧ Below w.heap.size w wx)
            case first =>
              go_region_with (first
                | (go_at_call 64; refine (sum_any (r.extract 1 4) _ hz1 ?_).mono ?_; exact fun i hi => HTC.out i hi; rintro e w' ⟨rfl, rfl⟩)
                | (go_at_call 63; refine (ext_any _ (r.extract 8 (8 + n)) _ hpb hz2 ?_).mono ?_; exact fun i hi => HTC.out i hi; rintro e w' ⟨rfl, rfl⟩)
                | (go_at_call 62; refine (low_any _ 4 _ (by decide)).mono ?_; rintro e w2 ⟨rfl, hb2⟩))
              all_goals
                go_wp2_with fail
                go_meet
                exact ⟨by rw [htb], below_step hbel.drew hb2⟩
            case rest =>
              obtain ⟨rfl, hbel3⟩ := hcut
              clear htb
              cases tb with
              | true =>
                have HZ : Hid (FrM.size (restOf s a) = 0) := if_neg (fun h => by
                  have h2 := h.2.2.2.2.2
                  rw [← HN.out] at h2
                  exact absurd (HTB.out.2 h2) (by decide))
                go_wp2_with fail
                go_ret
                exact next_no HZ.out HST.out hbel3
              | false =>
                have HZ : Hid (FrM.size (restOf s a) = n + 8) := FrM.size_of ⟨by have := HRS.out; rw [HL.out]; omega, by rw [← HRB.out]; exact HG, HN.out, hA, by have := HRS.out; rw [HL.out]; omega, HTB.out.1 rfl⟩
                have hst3 := HST.out.below hbel3
                obtain ⟨hcs3, hcv3, hfv3, hca3, hfa3, ho3, hbig3⟩ := hst3
                have HO := Lib.hid ho3
                clear ho3 hcs hcv hfv hca hfa hbel d1 d2 p9 r9 c4 c8 hz1 hz2 hpb
                have hbs : N + 3 ≤ wc.heap.size := hbig3
                have h16 : (L.length + 1) * 16 ≤ 140737488355328 := by omega
                have HX := Lib.hid (And.intro hcs3 (And.intro hcv3 (And.intro hfv3 (And.intro hca3 hfa3))))
                go_wp2_with (at_builtin; refine app_str rfl _ _ rfl (r.extract 8 (8 + n)) rfl HO.out hbs rfl h16 ?_; intro v2 w2 ho2 hg2; have hb3 := app_below HO.out hbs hg2; obtain ⟨g, cap, rfl, hgN⟩ := ho2.cons; have hcv4 := (hb3.cell (p := ⟨N + 1, 0, none⟩) (by show N + 1 < N + 3; omega)).trans HX.out.2.1; have hfv4 := (hb3.frozen (p := ⟨N + 1, 0, none⟩) (by show N + 1 < N + 3; omega)).trans HX.out.2.2.1; have hca4 := (hb3.cell (p := ⟨N + 2, 0, none⟩) (by show N + 2 < N + 3; omega)).trans HX.out.2.2.2.1; have hfa4 := (hb3.frozen (p := ⟨N + 2, 0, none⟩) (by show N + 2 < N + 3; omega)).trans HX.out.2.2.2.2; clear hcs3 hcv3 hfv3 hca3 hfa3; have HO2 := Lib.hid ho2; clear ho2 hg2)
                go_ret
                have hr4 : s.extract (a + 8) (a + (n + 8)) = r.extract 8 (8 + n) := by
                  apply bytes_inj
                  rw [bytes_extract, bytes_extract, HRB.out]
                  unfold restOf
                  rw [List.drop_drop, show a + (n + 8) - (a + 8) = 8 + n - 8 by omega]
                have hcs4 := (hb3.cell (p := ⟨N, 0, none⟩) (by show N < N + 3; omega)).trans HX.out.1
                have hbN : Below N w wc := hbel3.mono (by omega)
                have hbN2 : Below N w w2 := hbN.trans (hb3.mono (by omega))
                exact next_yes HZ.out (by omega) (by rw [hr4]; exact St.next (a + (n + 8)) (by omega) hcs4 hcv4 hfv4 hca4 hfa4 HO2.out (Nat.le_trans hbig3 hb3.size)) ((hbN2.setCell (p := ⟨N + 1, 0, none⟩) (by show N ≤ N + 1; omega) _).setCell (p := ⟨N + 2, 0, none⟩) (by show N ≤ N + 2; omega) _)
    · have HZ : Hid (FrM.size (restOf s a) = 0) := if_neg (fun h => h167 (by rw [HRB.out]; exact h.2.1))
      rw [decide_eq_false h167] at hfst
      clear hl h167 h8
      go_enter Tryd.func68, Tryd.ntmps68
      go_wp2_with fail
      go_ret
      exact next_no HZ.out HST.out (Below.refl _ _)
end Go.Proofs.YtjlpgjfgeikdeaaDoor.Fr
end

section
/- What frame.Scan computes, and odysseylaw05.same. -/
set_option maxRecDepth 100000
namespace Go.Proofs.YtjlpgjfgeikdeaaDoor.Fr
open Go.RowKit Go.ChangeShapes Go.WideShapes Go.ChangeAt
theorem heap_new (w : World) (o : Obj) : (w.alloc o).heap[w.heap.size]? = some o := by simp [World.alloc, -World.alloc_eq]
theorem cell_new {w : World} {b t : Nat} {v : Value} (h : w.heap[b]? = some (.cells #[v] t)) : w.cell? ⟨b, 0, none⟩ = some v := by simp [World.cell?, h]
theorem free_new {w : World} {b t : Nat} {cs : Array Value} (h : w.heap[b]? = some (.cells cs t)) : w.frozen? ⟨b, 0, none⟩ = false := by simp [World.frozen?, h]
theorem OwnS.mono {w : World} {base base' : Nat} {v : Value} {L : List ByteArray} (h : OwnS w base' v L) (hb : base ≤ base') : OwnS w base v L := by
  obtain ⟨h1, h2⟩ := h
  refine ⟨h1, h2.imp id ?_⟩
  rintro ⟨g, cap, cur, e1, e2, e3⟩
  exact ⟨g, cap, cur, e1, by omega, e3⟩
set_option maxHeartbeats 800000 in
theorem scan_any (s : ByteArray) (w : World) (hs : s.size ≤ 35184372088832) (hT : Table w) :
    Calls Tryd.prog 58 #[.string s] w fun e w' => ∃ v L, e = .returned (.tuple #[v, .int .i64 (((FrM.scanL (bytesOf s)).2 : Nat) : Int)]) ∧ L.map bytesOf = (FrM.scanL (bytesOf s)).1 ∧ OwnS w' w.heap.size v L ∧ Below w.heap.size w w' := by
  have HT := Lib.hid hT
  clear hT
  go_enter Tryd.func58, Tryd.ntmps58
  go_wp2_with fail
  go_loopg [] s.size (fun kq wr => ∃ (a : Nat) (v : Value) (L : List ByteArray), kq = s.size - a ∧ a ≤ s.size ∧ L.length * 8 ≤ a ∧ St wr w.heap.size s a v L ∧ Below w.heap.size w wr ∧
    (L.map bytesOf ++ (FrM.scanL (restOf s a)).1, a + (FrM.scanL (restOf s a)).2) = FrM.scanL (bytesOf s))
  case atStart =>
    have e0 : ((((w.alloc (.cells #[.string s] 9)).alloc (.cells #[.slice none 0 0] 37)).alloc (.cells #[.int .i64 0] 3))).heap[w.heap.size]? = some (.cells #[.string s] 9) := by
      rw [Below.heap_alloc _ _ _ (by simp; omega), Below.heap_alloc _ _ _ (by simp), heap_new]
    have e1 : ((((w.alloc (.cells #[.string s] 9)).alloc (.cells #[.slice none 0 0] 37)).alloc (.cells #[.int .i64 0] 3))).heap[w.heap.size + 1]? = some (.cells #[.slice none 0 0] 37) := by
      rw [Below.heap_alloc _ _ _ (by simp)]
      have := heap_new (w.alloc (.cells #[.string s] 9)) (.cells #[.slice none 0 0] 37)
      simpa using this
    have e2 : ((((w.alloc (.cells #[.string s] 9)).alloc (.cells #[.slice none 0 0] 37)).alloc (.cells #[.int .i64 0] 3))).heap[w.heap.size + 2]? = some (.cells #[.int .i64 0] 3) := by
      have := heap_new ((w.alloc (.cells #[.string s] 9)).alloc (.cells #[.slice none 0 0] 37)) (.cells #[.int .i64 0] 3)
      simpa using this
    refine ⟨0, .slice none 0 0, [], by omega, Nat.zero_le _, by simp, ⟨cell_new e0, cell_new e1, free_new e1, cell_new e2, free_new e2, OwnS.nil _ _, by simp⟩, ((((Below.refl _ w).alloc (Nat.le_refl _) _).alloc (by simp) _).alloc (by simp; omega) _), by simp [restOf]⟩
  case round =>
    obtain ⟨a, v, L, rfl, ha, hL8, hst, hbel, heq⟩ := hrel
    have HE := Lib.hid heq
    have HST := Lib.hid hst
    clear heq hst
    have HTR : Hid (Table wr) := HT.out.below HT.out.pos hbel
    go_wp2_with fail
    refine (next_any w.heap.size s a v L wr hs ha hL8 HST HTR).mono ?_
    rintro e w1 ⟨v1, rfl, hst1, hb1⟩
    have HB : Hid (Below w.heap.size w w1) := hbel.trans hb1
    by_cases hz : FrM.size (restOf s a) = 0
    · have HZ : Hid (FrM.scanL (restOf s a) = ([], 0)) := FrM.scanL_none hz
      rw [hz, if_pos rfl, Nat.add_zero] at hst1
      rw [hz]
      clear hz
      obtain ⟨hcs, hcv, hfv, hca, hfa, ho, hbig⟩ := hst1
      have HO := Lib.hid ho
      clear ho hb1
      go_wp2_with fail
      go_quiet (fail)
      go_wp2
      go_ret2
      rw [HZ.out] at HE
      refine ⟨v1, L, ?_, ?_, ?_, below_drewN HB.out _⟩
      · rw [← HE.out]; simp
      · rw [← HE.out]; simp
      · exact OwnS.mono (w := w1) HO.out (by omega)
    · have hz8 := FrM.size_ge hz
      have hzl := FrM.size_le (restOf s a)
      rw [rest_length] at hzl
      have HE2 : Hid (FrM.scanL (restOf s a) = (((restOf s a).drop 8).take (FrM.size (restOf s a) - 8) :: (FrM.scanL (restOf s (a + FrM.size (restOf s a)))).1, FrM.size (restOf s a) + (FrM.scanL (restOf s (a + FrM.size (restOf s a)))).2)) := by
        show _ = _
        have e : (restOf s a).drop (FrM.size (restOf s a)) = restOf s (a + FrM.size (restOf s a)) := by unfold restOf; rw [List.drop_drop]
        rw [FrM.scanL_step hz, e]
      rw [if_neg hz] at hst1
      have ht : (!(FrM.size (restOf s a) == 0)) = true := by simp [hz]
      rw [ht]
      generalize FrM.size (restOf s a) = z at *
      have HST1 := Lib.hid hst1
      clear hst1 hb1 hz ht
      go_wp2_with fail
      go_roundg (s.size - (a + z))
      case measure => omega
      case rel =>
        refine ⟨a + z, v1, _, rfl, by omega, by simp; omega, HST1.out, HB.out, ?_⟩
        rw [← HE.out, HE2.out, List.map_append, List.append_assoc]
        simp only [List.map_cons, List.map_nil, List.singleton_append, bytes_extract, Nat.add_assoc]
        unfold restOf
        rw [List.drop_drop, show a + z - (a + 8) = z - 8 by omega]
end Go.Proofs.YtjlpgjfgeikdeaaDoor.Fr
end

section
/- What odysseylaw05.same tells. -/
set_option maxRecDepth 100000
namespace Go.Proofs.YtjlpgjfgeikdeaaDoor.Fr
open Go.RowKit Go.ChangeShapes Go.WideShapes Go.ChangeAt
abbrev noText : ByteArray := ⟨#[]⟩
/-- a slice that reads as these texts -/
def Strs (w : World) (v : Value) (L : List ByteArray) : Prop := ∃ (A : Option Addr) (c : Nat), v = .slice A L.length c ∧ (L = [] ∨ ∃ ad, A = some ad ∧ ∀ i, i < L.length → w.cell? (ad.add i) = some (.string (L.getD i noText)))
theorem OwnS.strs {w : World} {base : Nat} {v : Value} {L : List ByteArray} (h : OwnS w base v L) : Strs w v L := by
  rcases h.slice with ⟨rfl, rfl⟩ | ⟨g, cap, rfl, _⟩
  · exact ⟨none, 0, rfl, .inl rfl⟩
  · refine ⟨_, cap, rfl, .inr ⟨⟨g, 0, none⟩, rfl, fun i hi => ?_⟩⟩
    have := World.ownsRow.cellAt h i (by omega)
    have e : (⟨g, 0, none⟩ : Addr).add i = ⟨g, i, none⟩ := by unfold Addr.add; split <;> simp_all
    rw [e, this]
    simp [List.getD, hi]
theorem Strs.below {w w' : World} {v : Value} {L : List ByteArray} {n : Nat} (h : Strs w v L) (hb : Below n w w') (hlt : ∀ A l c, v = .slice (some A) l c → A.block < n) : Strs w' v L := by
  obtain ⟨A, c, rfl, h⟩ := h
  refine ⟨A, c, rfl, h.imp id ?_⟩
  rintro ⟨ad, rfl, hc⟩
  refine ⟨ad, rfl, fun i hi => (hb.cell ?_).trans (hc i hi)⟩
  have := hlt _ _ _ rfl
  have e : (ad.add i).block = ad.block := by unfold Addr.add; split <;> rfl
  rw [e]; exact this
theorem Strs.drewN {w : World} {v : Value} {L : List ByteArray} (h : Strs w v L) (m : Nat) : Strs (w.drewN m) v L := h
theorem take_eq_snoc {α : Type} {L M : List α} {k : Nat} {d : α} (h : L.take k = M.take k) (hL : k < L.length) (hM : k < M.length) (he : L.getD k d = M.getD k d) : L.take (k + 1) = M.take (k + 1) := by
  rw [← List.getElem_eq_getD (h := hL) d, ← List.getElem_eq_getD (h := hM) d] at he
  rw [List.take_succ_eq_append_getElem hL, List.take_succ_eq_append_getElem hM, h, he]
set_option maxHeartbeats 400000 in
theorem same_any (v1 v2 : Value) (L1 L2 : List ByteArray) (w : World) (h1 : Strs w v1 L1) (h2 : Strs w v2 L2) (hl1 : L1.length ≤ 140737488351232) (hl2 : L2.length ≤ 140737488351232) :
    Calls Tryd.prog 18 #[v1, v2] w fun e w' => e = .returned (.bool (decide (L1 = L2))) ∧ ∃ n, w' = w.drewN n := by
  obtain ⟨A1, c1, rfl, h1⟩ := h1
  obtain ⟨A2, c2, rfl, h2⟩ := h2
  by_cases hlen : L1.length = L2.length
  · have t0 : ((L1.length : Int) != (L2.length : Int)) = false := by rw [bne_eq_false_iff_eq]; omega
    have t0' : (L1.length == L2.length) = true := by simpa using hlen
    have HLEN := Lib.hid hlen
    by_cases hem : L1 = []
    · have hem2 : L2 = [] := List.eq_nil_of_length_eq_zero (by rw [← hlen, hem]; rfl)
      subst hem hem2
      clear HLEN hlen
      go_enter Tryd.func18, Tryd.ntmps18
      go_wp2_with fail
      refine wp_loop_rounds 1 ?_
      rw [rounds_succ]
      go_wp2
      go_ret
      exact ⟨rfl, 0, rfl⟩
    · obtain ⟨ad1, rfl, hc1⟩ := h1.resolve_left hem
      obtain ⟨ad2, rfl, hc2⟩ := h2.resolve_left (fun h => hem (List.eq_nil_of_length_eq_zero (by rw [hlen, h]; rfl)))
      have HC1 := Lib.hid hc1
      have HC2 := Lib.hid hc2
      clear h1 h2 hc1 hc2 hlen hem
      go_enter Tryd.func18, Tryd.ntmps18
      go_wp2_with fail
      clear t0 t0'
      go_loopw [5] (fun i wr => ∃ k : Nat, k ≤ L1.length ∧ i = .int .i64 k ∧ L1.take k = L2.take k ∧ ∃ m, wr = w.drewN m) (fun i _ => L1.length - (intOf i).toNat)
      case atStart => exact ⟨0, Nat.zero_le _, rfl, rfl, 0, rfl⟩
      case round =>
        obtain ⟨k, hk, rfl, htk, m, rfl⟩ := hrel
        have HTK := Lib.hid htk
        clear htk
        by_cases hlt : k < L1.length
        · have e1 := HC1.out k hlt
          have e2 := HC2.out k (by rw [← HLEN.out]; exact hlt)
          have hlt2 : k < L2.length := by rw [← HLEN.out]; exact hlt
          by_cases heq : L1.getD k noText = L2.getD k noText
          · have t1 : ((L1.getD k noText).toList == (L2.getD k noText).toList) = true := by
              rw [str_eq, heq]; exact decide_eq_true rfl
            have HT2 : Hid (L1.take (k + 1) = L2.take (k + 1)) := take_eq_snoc HTK.out hlt hlt2 heq
            clear heq
            generalize L1.getD k noText = x at *
            generalize L2.getD k noText = y at *
            go_wp2_with fail
            go_quiet (fail)
            go_wp2_with fail
            go_roundw
            case rel => exact ⟨k + 1, by omega, by go_num, HT2, m + nq, by first | rfl | exact World.drewN_drewN w m nq⟩
            case measure => simp [intOf]; omega
          · have HE : Hid (decide (L1 = L2) = false) := decide_eq_false (fun h => heq (by rw [h]))
            have t1 : ((L1.getD k noText).toList == (L2.getD k noText).toList) = false := by
              rw [str_eq]; exact decide_eq_false (fun h => heq (bytes_inj h))
            clear heq
            generalize L1.getD k noText = x at *
            generalize L2.getD k noText = y at *
            go_wp2_with fail
            go_quiet (fail)
            go_wp2
            go_ret
            exact ⟨by rw [HE.out]; rfl, m + nq, by first | rfl | exact World.drewN_drewN w m nq⟩
        · have HE : Hid (decide (L1 = L2) = true) := decide_eq_true (by
            have h := HTK.out
            have := HLEN.out
            rwa [List.take_of_length_le (by omega), List.take_of_length_le (by omega)] at h)
          go_wp2
          go_ret
          exact ⟨by rw [HE.out]; rfl, m, rfl⟩
  · have t0 : ((L1.length : Int) != (L2.length : Int)) = true := by rw [bne_iff_ne]; omega
    have t0' : (L1.length == L2.length) = false := by simpa using hlen
    have HE : Hid (decide (L1 = L2) = false) := decide_eq_false (fun h => hlen (by rw [h]))
    clear hlen h1 h2
    go_enter Tryd.func18, Tryd.ntmps18
    go_wp2
    go_ret
    exact ⟨by rw [HE.out]; rfl, 0, rfl⟩
end Go.Proofs.YtjlpgjfgeikdeaaDoor.Fr
end
