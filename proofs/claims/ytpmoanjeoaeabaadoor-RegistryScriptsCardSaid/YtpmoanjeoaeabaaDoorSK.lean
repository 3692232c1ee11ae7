/- The registry's Names. -/
import Derived.Test.YtpmoanjeoaeabaaDoorSJ
set_option linter.unusedVariables false
set_option linter.unusedSimpArgs false
set_option linter.unnecessarySimpa false
set_option maxRecDepth 100000
namespace Go.Proofs.YtpmoanjeoaeabaaDoor
open Go.RowKit Go.ChangeShapes Go.WideShapes Go.ChangeAt
def bytesL (b : ByteArray) : List UInt8 := b.data.toList
theorem bytesL_inj {a b : ByteArray} (h : bytesL a = bytesL b) : a = b := by
  cases a; cases b
  simp [bytesL] at h
  rw [h]
def rB (a b : List UInt8) : Prop := cmpN ⟨a.toArray⟩ ⟨b.toArray⟩ < 0
theorem rB_of (a b : ByteArray) : rB (bytesL a) (bytesL b) ↔ cmpN a b < 0 := by
  unfold rB bytesL
  simp
theorem rB_asym : ∀ a b, rB a b → ¬ rB b a := fun a b h k => by
  unfold rB at h k
  have := cmp_back ⟨a.toArray⟩ ⟨b.toArray⟩
  omega
theorem compact_names (M M' : List ByteArray) (hM : ∀ x ∈ M, isN x = true) (hm : ∀ x, x ∈ M' ↔ x ∈ M) (hs : ∀ i j (hi : i < M'.length) (hj : j < M'.length), i < j → M'[i] ≠ M'[j] → cmpN M'[i] M'[j] < 0) :
    Lib.compact (M'.map bytesL) = (namesN M).map bytesL := by
  obtain ⟨g1, g2⟩ := names_good M hM
  have hc := compact_strict (r := rB) rB_asym (M'.map bytesL).toArray (fun i j hij hj hne => by
    have hj' : j < M'.length := by simpa using hj
    have hi' : i < M'.length := by omega
    rw [getElem!_pos _ i (by simpa using hi'), getElem!_pos _ j (by simpa using hj')] at hne ⊢
    simp only [List.getElem_toArray, List.getElem_map] at hne ⊢
    exact (rB_of _ _).2 (hs i j hi' hj' hij fun e => hne (by rw [e]))) (M'.map bytesL).length (by simp)
  refine strict_unique rB_asym _ _ hc.1 (List.Pairwise.map bytesL (fun a b h => (rB_of a b).2 h) g1) fun x => ?_
  show x ∈ Lib.compactUpTo _ _ ↔ _
  rw [hc.2, List.mem_map]
  constructor
  · rintro ⟨j, hj, rfl⟩
    have hj' : j < M'.length := by simpa using hj
    refine ⟨M'[j], (g2 _).2 ((hm _).1 (List.getElem_mem hj')), ?_⟩
    rw [getElem!_pos _ j (by simpa using hj')]
    simp
  · rintro ⟨b, hb, rfl⟩
    obtain ⟨j, hj, rfl⟩ := List.getElem_of_mem ((hm b).2 ((g2 b).1 hb))
    refine ⟨j, by simpa using hj, ?_⟩
    rw [getElem!_pos _ j (by simpa using hj)]
    simp
theorem compact_row {w0 w : World} {L : List HP} {g c : Nat} (M M' : List ByteArray) (hM : ∀ x ∈ M, isN x = true) (hl : M'.length = M.length) (hm : ∀ x, x ∈ M' ↔ x ∈ M) (hs : ∀ i j (hi : i < M'.length) (hj : j < M'.length), i < j → M'[i] ≠ M'[j] → cmpN M'[i] M'[j] < 0)
    (hS : Sat w0 w (Row 9 1 (some ⟨g, 0, none⟩) M.length c (strV M') :: L)) :
    Calls Tryd.prog 90 #[.slice (some ⟨g, 0, none⟩) M.length c] w fun e w' => e = .returned (.slice (some ⟨g, 0, none⟩) (namesN M).length c) ∧ Sat w0 w' (Row 9 1 (some ⟨g, 0, none⟩) (namesN M).length c (strV (namesN M)) :: L) := by
  have hcap := hS.rowCap
  have hcn := compact_names M M' hM hm hs
  rw [← hl] at hS hcap
  have hle := Lib.compact_length_le (M'.map bytesL)
  rw [hcn] at hle
  simp only [List.length_map] at hle
  have hz : (M'.map bytesL).length = M'.length := by simp
  have hcon := Tryd.slices_Compact_string g 0 c (M'.map bytesL) w hS.holdsStr (by rw [hz]; have := hcap.2; have := hcap.1; unfold maxLen at *; omega) (by rw [hz]; exact hcap.1)
  rw [hcn, hz, List.length_map] at hcon
  rw [← hl]
  refine hcon.mono ?_
  rintro e w' ⟨rfl, q, rfl⟩
  refine ⟨rfl, ?_⟩
  have h1 := hS.putRow encStr ((namesN M).map bytesL ++ List.replicate (M'.length - (namesN M).length) []).toArray (by simp; omega) q
  have h2 := h1.rowShrink hle (by intro h; cases h)
  have e : (((namesN M).map bytesL ++ List.replicate (M'.length - (namesN M).length) []).toArray.toList.map encStr).take ((namesN M).length * 1) = strV (namesN M) := by
    rw [Nat.mul_one, List.map_append, List.take_left' (by simp)]
    unfold strV
    rw [List.map_map]
    rfl
  rw [e] at h2
  exact h2
def NmRel (w0 : World) (L : List HP) (l : List ByteArray) (out i : Value) (wr : World) : Prop :=
  ∃ (k : Nat) (A2 : Option Addr) (c2 : Nat), k ≤ l.length ∧ i = .int .i64 k ∧ out = .slice A2 k c2 ∧ Sat w0 wr (Row 9 1 A2 k c2 (strV (l.take k)) :: L)
set_option maxHeartbeats 3200000 in
theorem names_any {w w0 : World} {F : List HP} {rb : Nat} {R : List Ver} (hN : ∀ r ∈ R, isN r.d.name = true) (h0 : 0 < R.length) (hlen : R.length ≤ 16) (hO : Old w0 ∈ F) (hT0 : Lib.Utf8Tabs 0 1 w0) (hS : Sat w0 w (RegP rb R :: F)) :
    Calls Tryd.prog 62 #[.pointer (some ⟨rb, 0, none⟩)] w fun e w' => ∃ (g c2 : Nat), e = .returned (.slice (some ⟨g, 0, none⟩) (namesN (verNames R)).length c2) ∧ Sat w0 w' (Row 9 1 (some ⟨g, 0, none⟩) (namesN (verNames R)).length c2 (strV (namesN (verNames R))) :: RegP rb R :: F) := by
  obtain ⟨A, c, mb, lb, hR⟩ := hS.regOpen
  obtain ⟨n, hn⟩ : ∃ n, R.length = n := ⟨_, rfl⟩
  obtain ⟨LL, hLL⟩ : ∃ x, x = Blk rb 78 [.slice A n c, .map (some mb), .map (some lb)] :: Row 80 2 A n c (plcC (R.map Ver.p)) :: MapP mb (R.map fun r => (r.p, r.d.v)) :: MapC lb n (fun s => (verN R s : Int)) :: sep (R.map fun r => OwnP r.d) :: F := ⟨_, rfl⟩
  have HLL := Lib.hid hLL
  have HN := Lib.hid hn
  obtain ⟨l, hL⟩ : ∃ l, verNames R = l := ⟨_, rfl⟩
  have hll : l.length = n := by rw [← hL, ← hn]; simp [verNames]
  have HGET : Hid (∀ (k : Nat) (r : Ver), R[k]? = some r → l[k]? = some r.d.name) := fun k r h => by rw [← hL]; simp [verNames, h]
  have HMEM : Hid (∀ x ∈ l, isN x = true) := fun x hx => by
    rw [← hL] at hx
    obtain ⟨r, hr, rfl⟩ := List.mem_map.1 hx
    exact hN r hr
  rw [hn] at hR hlen h0
  rw [← hLL] at hR
  rw [hL]
  have HCL : Hid (∀ W X, Sat w0 W (X :: LL) → Sat w0 W (X :: RegP rb R :: F)) := fun W X h => by
    rw [HLL.out, ← HN.out] at h
    have h1 : Sat w0 W (RegP rb R :: F ++ [X]) := Sat.regClose (A := A) (c := c) (mb := mb) (lb := lb) (h.swapA (L := [X]))
    exact h1.swapA (M := [X])
  have HOL : Hid (Old w0 ∈ LL) := by show _ ∈ _; rw [hLL]; simp [hO]
  have HT0 := Lib.hid hT0
  obtain ⟨i9, hi9, hz9, hs9, hb9⟩ := info_parts infoS
  have HI9 := Lib.hid hi9
  have x0 : w.cell? ⟨rb, 0, none⟩ = some (.slice A n c) := by rw [hLL] at hR; exact hR.blk.cell 0
  have H1 := Lib.hid (hR.nilRow 9 1)
  clear hS hR hLL hn hN hL hi9 hT0
  go_enter Tryd.func62, Tryd.ntmps62
  go_wp2_with fail
  go_loopw [3, 11] (NmRel w0 LL l) (fun _ i _ => n - (intOf i).toNat)
  case atStart => exact ⟨0, none, 0, Nat.zero_le _, rfl, rfl, H1.out⟩
  case round =>
    obtain ⟨k, A2, c2, hkn, rfl, rfl, hS⟩ := hrel
    rw [hll] at hkn
    clear H1 x0
    have hS5 := hS
    rw [HLL.out] at hS5
    by_cases hlt : k < n
    · have hk1 : k < R.length := by rw [HN.out]; exact hlt
      obtain ⟨r, hr⟩ : ∃ r, R[k]? = some r := ⟨_, List.getElem?_eq_getElem hk1⟩
      have hlk := HGET.out k r hr
      have hj1 : k < (R.map Ver.p).length := by simpa using hk1
      have g0 := plcC_get (R.map Ver.p) k 0 hj1 (by decide)
      have g1 := plcC_get (R.map Ver.p) k 1 hj1 (by decide)
      have hrk : R[k] = r := (List.getElem?_eq_some_iff.1 hr).2
      rw [List.getElem_map, hrk] at g0 g1
      obtain ⟨g, hA, _, _⟩ := hS5.r3.rowCell (by intro e; rw [e] at g0; simp [plcV] at g0)
      subst hA
      rw [Nat.add_zero] at g0
      have c0 := (hS5.r3.rowAt (j := k * 2) (v := .string r.d.name) (by rw [g0]; rfl)).1
      have c1 := (hS5.r3.rowAt (j := k * 2 + 1) (v := .int .i64 r.v) (by rw [g1]; rfl)).1
      have hp := hS.new #[.string r.d.name, .int .i64 r.v] 80
      have s1 : (wr.alloc (.cells #[.string r.d.name, .int .i64 r.v] 80)).heap.size = wr.heap.size + 1 := by simp
      have hp2 := hp.tail.new #[.string r.d.name] 9
      rw [s1] at hp2
      have HB := Lib.hid hp2
      have HTK : Hid (l.take (k + 1) = l.take k ++ [r.d.name]) := by
        obtain ⟨h1, h2⟩ := List.getElem?_eq_some_iff.1 hlk
        show _ = _
        rw [List.take_succ_eq_append_getElem h1, h2]
      have hbk : k + 1 ≤ maxLen ∧ (k + 1) * 16 ≤ 140737488355328 := by unfold maxLen; omega
      have HONE : Hid (∀ u ∈ (#[.string r.d.name] : Array Value).toList, u.oneCell' = true) := by
        show ∀ u ∈ _, _
        intro u hu
        simp at hu
        subst hu; rfl
      clear hS hS5 hr hlk hj1 g0 g1 hrk hk1 hp hp2 s1
      go_wp2_with (first
        | (at_builtin; refine wpList_app1 rfl (.tmp 15) (.tmp 18) 32 rfl 9 i9 (.string ⟨#[]⟩) 1 16 Tryd.underlying32 HI9.out hz9 hs9 hb9 rfl (by decide) rfl HB.out rfl rfl HONE.out hbk.1 hbk.2 ?_; intro A3 c3 W8 hS8; have H8 := Lib.hid hS8; clear hS8))
      go_roundw
      case rel =>
        refine ⟨k + 1, A3, c3, by rw [hll]; omega, by go_num, rfl, ?_⟩
        rw [HTK.out, strV_app]
        exact H8.out
      case measure => simp [intOf]; omega
    · obtain rfl : k = n := by omega
      have e : l.take k = l := by rw [← hll]; exact List.take_length
      rw [e] at hS
      obtain ⟨g, hA, _, _⟩ := hS.rowCell (by intro e; have h := hS.rowLen; rw [e] at h; simp at h; omega)
      subst hA
      rw [← hll] at hS
      have HSRT := Lib.hid (sort_names l HMEM.out (by omega) (by omega) HOL.out HT0.out hS)
      rw [hll] at HSRT
      clear hS hS5 e
      go_wp2_with fail
      refine HSRT.out.mono ?_
      rintro e w5 ⟨rfl, M', hm1, hm2, hm3, h5⟩
      rw [← hll] at h5
      have HCMP := Lib.hid (compact_row l M' HMEM.out (hm1.trans hll.symm) hm2 hm3 h5)
      rw [hll] at HCMP
      clear h5 hm1 hm2 hm3 HSRT
      go_wp2_with fail
      refine HCMP.out.mono ?_
      rintro e w6 ⟨rfl, h6⟩
      have H6 := Lib.hid (HCL.out _ _ h6)
      clear h6 HCMP
      go_wp2_with fail
      go_ret
      exact ⟨g, c2, rfl, H6.out⟩
end Go.Proofs.YtpmoanjeoaeabaaDoor
