/- What odysseylaw05.same tells. -/
import Derived.Test.YthbmkoiaennejabDoorWalkF
namespace Go.Proofs.YthbmkoiaennejabDoor
open Go.RowKit Go.ChangeShapes Go.WideShapes Go.ChangeAt
abbrev noText : ByteArray := ⟨#[]⟩
/-- a slice that reads as these texts -/
def Strs (w : World) (v : Value) (L : List ByteArray) : Prop := ∃ (A : Option Addr) (c : Nat), v = .slice A L.length c ∧ (L = [] ∨ ∃ ad, A = some ad ∧ ∀ i, i < L.length → w.cell? (ad.add i) = some (.string (L.getD i noText)))
theorem OwnS.strs {w : World} {base : Nat} {v : Value} {L : List ByteArray} (h : OwnS w base v L) : Strs w v L := by
  rcases h.slice with ⟨rfl, rfl⟩ | ⟨g, cap, rfl, _⟩
  · exact ⟨none, 0, rfl, .inl rfl⟩
  · refine ⟨_, cap, rfl, .inr ⟨⟨g, 0, none⟩, rfl, fun i hi => ?_⟩⟩
    have := World.ownsRow.cellAt h i (by omega)
    have e : (⟨g, 0, none⟩ : Addr).add i = ⟨g, i, none⟩ := by unfold Addr.add; split <;> simp_all
    rw [e, this]
    simp [List.getD, hi]
theorem Strs.below {w w' : World} {v : Value} {L : List ByteArray} {n : Nat} (h : Strs w v L) (hb : Below n w w') (hlt : ∀ A l c, v = .slice (some A) l c → A.block < n) : Strs w' v L := by
  obtain ⟨A, c, rfl, h⟩ := h
  refine ⟨A, c, rfl, h.imp id ?_⟩
  rintro ⟨ad, rfl, hc⟩
  refine ⟨ad, rfl, fun i hi => (hb.cell ?_).trans (hc i hi)⟩
  have := hlt _ _ _ rfl
  have e : (ad.add i).block = ad.block := by unfold Addr.add; split <;> rfl
  rw [e]; exact this
theorem Strs.drewN {w : World} {v : Value} {L : List ByteArray} (h : Strs w v L) (m : Nat) : Strs (w.drewN m) v L := h
theorem take_eq_snoc {α : Type} {L M : List α} {k : Nat} {d : α} (h : L.take k = M.take k) (hL : k < L.length) (hM : k < M.length) (he : L.getD k d = M.getD k d) : L.take (k + 1) = M.take (k + 1) := by
  rw [← List.getElem_eq_getD (h := hL) d, ← List.getElem_eq_getD (h := hM) d] at he
  rw [List.take_succ_eq_append_getElem hL, List.take_succ_eq_append_getElem hM, h, he]
set_option maxHeartbeats 400000 in
theorem same_any (v1 v2 : Value) (L1 L2 : List ByteArray) (w : World) (h1 : Strs w v1 L1) (h2 : Strs w v2 L2) (hl1 : L1.length ≤ 140737488351232) (hl2 : L2.length ≤ 140737488351232) :
    Calls Tryd.prog 14 #[v1, v2] w fun e w' => e = .returned (.bool (decide (L1 = L2))) ∧ ∃ n, w' = w.drewN n := by
  obtain ⟨A1, c1, rfl, h1⟩ := h1
  obtain ⟨A2, c2, rfl, h2⟩ := h2
  by_cases hlen : L1.length = L2.length
  · have t0 : ((L1.length : Int) != (L2.length : Int)) = false := by rw [bne_eq_false_iff_eq]; omega
    have t0' : (L1.length == L2.length) = true := by simpa using hlen
    have HLEN := Lib.hid hlen
    by_cases hem : L1 = []
    · have hem2 : L2 = [] := List.eq_nil_of_length_eq_zero (by rw [← hlen, hem]; rfl)
      subst hem hem2
      clear HLEN hlen
      go_enter Tryd.func14, Tryd.ntmps14
      go_wp2_with fail
      refine wp_loop_rounds 1 ?_
      rw [rounds_succ]
      go_wp2
      go_ret
      exact ⟨rfl, 0, rfl⟩
    · obtain ⟨ad1, rfl, hc1⟩ := h1.resolve_left hem
      obtain ⟨ad2, rfl, hc2⟩ := h2.resolve_left (fun h => hem (List.eq_nil_of_length_eq_zero (by rw [hlen, h]; rfl)))
      have HC1 := Lib.hid hc1
      have HC2 := Lib.hid hc2
      clear h1 h2 hc1 hc2 hlen hem
      go_enter Tryd.func14, Tryd.ntmps14
      go_wp2_with fail
      clear t0 t0'
      go_loopw [5] (fun i wr => ∃ k : Nat, k ≤ L1.length ∧ i = .int .i64 k ∧ L1.take k = L2.take k ∧ ∃ m, wr = w.drewN m) (fun i _ => L1.length - (intOf i).toNat)
      case atStart => exact ⟨0, Nat.zero_le _, rfl, rfl, 0, rfl⟩
      case round =>
        obtain ⟨k, hk, rfl, htk, m, rfl⟩ := hrel
        have HTK := Lib.hid htk
        clear htk
        by_cases hlt : k < L1.length
        · have e1 := HC1.out k hlt
          have e2 := HC2.out k (by rw [← HLEN.out]; exact hlt)
          have hlt2 : k < L2.length := by rw [← HLEN.out]; exact hlt
          by_cases heq : L1.getD k noText = L2.getD k noText
          · have t1 : ((L1.getD k noText).toList == (L2.getD k noText).toList) = true := by
              rw [str_eq, heq]; exact decide_eq_true rfl
            have HT2 : Hid (L1.take (k + 1) = L2.take (k + 1)) := take_eq_snoc HTK.out hlt hlt2 heq
            clear heq
            generalize L1.getD k noText = x at *
            generalize L2.getD k noText = y at *
            go_wp2_with fail
            go_quiet (fail)
            go_wp2_with fail
            go_roundw
            case rel => exact ⟨k + 1, by omega, by go_num, HT2, m + nq, by first | rfl | exact World.drewN_drewN w m nq⟩
            case measure => simp [intOf]; omega
          · have HE : Hid (decide (L1 = L2) = false) := decide_eq_false (fun h => heq (by rw [h]))
            have t1 : ((L1.getD k noText).toList == (L2.getD k noText).toList) = false := by
              rw [str_eq]; exact decide_eq_false (fun h => heq (bytes_inj h))
            clear heq
            generalize L1.getD k noText = x at *
            generalize L2.getD k noText = y at *
            go_wp2_with fail
            go_quiet (fail)
            go_wp2
            go_ret
            exact ⟨by rw [HE.out]; rfl, m + nq, by first | rfl | exact World.drewN_drewN w m nq⟩
        · have HE : Hid (decide (L1 = L2) = true) := decide_eq_true (by
            have h := HTK.out
            have := HLEN.out
            rwa [List.take_of_length_le (by omega), List.take_of_length_le (by omega)] at h)
          go_wp2
          go_ret
          exact ⟨by rw [HE.out]; rfl, m, rfl⟩
  · have t0 : ((L1.length : Int) != (L2.length : Int)) = true := by rw [bne_iff_ne]; omega
    have t0' : (L1.length == L2.length) = false := by simpa using hlen
    have HE : Hid (decide (L1 = L2) = false) := decide_eq_false (fun h => hlen (by rw [h]))
    clear hlen h1 h2
    go_enter Tryd.func14, Tryd.ntmps14
    go_wp2
    go_ret
    exact ⟨by rw [HE.out]; rfl, 0, rfl⟩
theorem wrap_empty : wrapS noText = ⟨#[167, 0, 0, 0, 18, 217, 65, 255]⟩ := by
  apply bytes_inj
  rw [bytes_wrap]
  decide +kernel
theorem scan_nine : FrM.scanL (bytesOf ⟨#[167, 0, 0, 0, 18, 217, 65, 255, 120]⟩) = ([[]], 8) := by decide +kernel
theorem live_any (w : World) (hT : Table w) :
    Calls Tryd.prog 11 #[] w fun e w' => e = .returned (.bool true) ∧ Below w.heap.size w w' := by
  have HT := Lib.hid hT
  clear hT
  have HWE := Lib.hid wrap_empty
  go_enter Tryd.func11, Tryd.ntmps11
  go_wp2_with fail
  refine (wrap_fits ⟨#[]⟩ _ (by decide) HT).mono ?_
  rintro e w1 ⟨rfl, hb1⟩
  rw [HWE.out]
  have HT1 : Hid (Table w1) := HT.out.below HT.out.pos hb1
  go_wp2_with fail
  refine (scan_any ⟨#[167, 0, 0, 0, 18, 217, 65, 255, 120]⟩ _ (by decide) HT1).mono ?_
  rintro e w2 ⟨v, L, rfl, hL, ho, hb2⟩
  rw [scan_nine] at hL ⊢
  obtain ⟨x, rfl⟩ : ∃ x, L = [x] := List.length_eq_one_iff.1 (by have := congrArg List.length hL; simpa using this)
  have hx : bytesOf x = [] := by simpa using hL
  have hx2 : x = noText := bytes_inj hx
  subst hx2
  rcases ho.slice with ⟨_, h⟩ | ⟨g, cap, rfl, _, hg, _⟩
  · simp at h
  · have hc : w2.cell? ⟨g, 0, none⟩ = some (.string ⟨#[]⟩) := by
      have := World.ownsRow.cellAt ho 0 (by simp)
      simpa using this
    have HB : Hid (Below w.heap.size w w2) := below_step hb1 hb2
    clear hL hx ho hb1 hb2
    go_wp2
    go_ret
    exact ⟨rfl, HB.out⟩
end Go.Proofs.YthbmkoiaennejabDoor
