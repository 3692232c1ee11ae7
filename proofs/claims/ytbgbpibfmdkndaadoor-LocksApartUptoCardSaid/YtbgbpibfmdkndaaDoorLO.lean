/- The laws' own functions: same, copied, filled, has, pick, small. -/
import Derived.Test.YtbgbpibfmdkndaaDoorLN
set_option linter.unusedVariables false
set_option linter.unusedSimpArgs false
set_option linter.unnecessarySimpa false
set_option maxRecDepth 100000
namespace Go.Proofs.YtbgbpibfmdkndaaDoor
open Go.RowKit Go.ChangeShapes Go.WideShapes Go.ChangeAt
/-- texts that stand at an address, in this world -/
def KsAt (w : World) (A : Option Addr) (keys : List ByteArray) : Prop :=
  keys = [] ∨ ∃ b o, A = some ⟨b, o, none⟩ ∧ ∀ j k, keys[j]? = some k → w.cell? ⟨b, o + j, none⟩ = some (.string k)
theorem KeysF.ks {w0 W : World} {F L : List HP} {A : Option Addr} {keys : List ByteArray} (h : KeysF w0 F A keys) (hS : Sat w0 W (L ++ F)) : KsAt W A keys := by
  rcases h with h | ⟨b, o, h1, h2⟩
  · exact .inl h
  · exact .inr ⟨b, o, h1, h2 W L hS⟩
theorem KsAt.drewN {w : World} {A : Option Addr} {keys : List ByteArray} (h : KsAt w A keys) (n : Nat) : KsAt (w.drewN n) A keys := h
theorem KsAt.take {w : World} {A : Option Addr} {keys : List ByteArray} (h : KsAt w A keys) (n : Nat) : KsAt w A (keys.take n) := by
  rcases h with h | ⟨b, o, h1, h2⟩
  · exact .inl (by rw [h]; simp)
  · refine .inr ⟨b, o, h1, fun j k hk => h2 j k ?_⟩
    rw [List.getElem?_take] at hk
    split at hk
    · exact hk
    · cases hk
theorem Sat.rowKs {w0 w : World} {F : List HP} {A : Option Addr} {n c : Nat} {l : List ByteArray} (h : Sat w0 w (Row 9 1 A n c (strV l) :: F)) : KsAt w A l := by
  by_cases h0 : l = []
  · exact .inl h0
  · obtain ⟨g, rfl, hc, _⟩ := h.rowCell (by unfold strV; simpa using h0)
    refine .inr ⟨g, 0, rfl, fun j k hk => ?_⟩
    have hv : (strV l)[j]? = some (.string k) := by unfold strV; rw [List.getElem?_map, hk]; rfl
    rw [Nat.zero_add]
    exact (h.rowAt hv).1
theorem rowKeysF {w0 : World} {F : List HP} {A : Option Addr} {n c : Nat} {l : List ByteArray} (h0 : l = [] ∨ A ≠ none) (hg : ∀ a, A = some a → ∃ b, a = ⟨b, 0, none⟩) : KeysF w0 (Row 9 1 A n c (strV l) :: F) A l := by
  by_cases hl : l = []
  · exact .inl hl
  · obtain ⟨a, rfl⟩ := Option.ne_none_iff_exists'.1 (h0.resolve_left hl)
    obtain ⟨b, rfl⟩ := hg a rfl
    refine .inr ⟨b, 0, rfl, fun W L hS j k hk => ?_⟩
    have hv : (strV l)[j]? = some (.string k) := by unfold strV; rw [List.getElem?_map, hk]; rfl
    have hS2 : Sat w0 W (Row 9 1 (some ⟨b, 0, none⟩) n c (strV l) :: (F ++ L)) := hS.swapA
    rw [Nat.zero_add]
    exact (hS2.rowAt hv).1
theorem Sat.rowKF {w0 w : World} {F : List HP} {A : Option Addr} {n c : Nat} {l : List ByteArray} (h : Sat w0 w (Row 9 1 A n c (strV l) :: F)) : KeysF w0 (Row 9 1 A n c (strV l) :: F) A l := by
  cases A with
  | none =>
    obtain ⟨_, _, e⟩ := h.rowNone
    exact .inl (by unfold strV at e; simpa using e)
  | some a =>
    obtain ⟨g, cur, e, _⟩ := h.rowBlk
    exact rowKeysF (.inr (by simp)) fun b hb => by injection hb with hb; subst hb; exact ⟨g, e⟩
theorem blkKF {w0 : World} {F : List HP} {g : Nat} (l : List ByteArray) : KeysF w0 (Blk g 9 (strV l) :: F) (some ⟨g, 0, none⟩) l := by
  refine .inr ⟨g, 0, rfl, fun W L hS j k hk => ?_⟩
  have hS2 : Sat w0 W (Blk g 9 (strV l) :: (F ++ L)) := hS.swapA
  rw [Nat.zero_add]
  have hv : (strV l)[j]? = some (.string k) := by unfold strV; rw [List.getElem?_map, hk]; rfl
  rw [← hv]
  exact hS2.blk.cell j
theorem KsAt.rd {w : World} {A : Option Addr} {keys : List ByteArray} (h : KsAt w A keys) : Rd w A keys.length 1 (strV keys) := by
  refine ⟨by unfold strV; simp, fun j u hu => ?_⟩
  unfold strV at hu
  rw [List.getElem?_map] at hu
  cases hk : keys[j]? with
  | none => rw [hk] at hu; cases hu
  | some k =>
    rw [hk] at hu
    injection hu with hu
    subst hu
    obtain ⟨b, o, rfl, h2⟩ := h.resolve_left (by rintro rfl; simp at hk)
    refine ⟨_, rfl, ?_⟩
    rw [show (⟨b, o, none⟩ : Addr).add j = ⟨b, o + j, none⟩ by by_cases hj0 : j = 0 <;> simp [Addr.add, hj0]]
    exact h2 j k hk
def SmR (w : World) (n : Nat) (L M : List ByteArray) (i : Value) (wr : World) : Prop := ∃ k : Nat, k ≤ n ∧ i = .int .i64 k ∧ L.take k = M.take k ∧ ∃ m, wr = w.drewN m
theorem take_both {L M : List ByteArray} {k : Nat} {x y : ByteArray} (h : L.take k = M.take k) (hx : L[k]? = some x) (hy : M[k]? = some y) (e : x = y) : L.take (k + 1) = M.take (k + 1) := by
  rw [take_snoc hx, take_snoc hy, h, e]
set_option maxHeartbeats 1600000 in
theorem same_any {w : World} {A B : Option Addr} {c e : Nat} {L M : List ByteArray} (h1 : KsAt w A L) (h2 : KsAt w B M) (hl : L.length ≤ 140737488351232) (hm : M.length ≤ 140737488351232) :
    Calls Tryd.prog 12 #[.slice A L.length c, .slice B M.length e] w fun en w' => en = .returned (.bool (decide (L = M))) ∧ ∃ n, w' = w.drewN n := by
  by_cases hlen : L.length = M.length
  · obtain ⟨n, hn⟩ : ∃ n, M.length = n := ⟨_, rfl⟩
    have HLN : Hid (L.length = n) := hlen.trans hn
    have HMN := Lib.hid hn
    rw [hlen, hn]
    rw [hn] at hm
    have t0 : ((n : Int) != (n : Int)) = false := by rw [bne_eq_false_iff_eq]
    clear hlen hn hl
    have H1 := Lib.hid h1
    have H2 := Lib.hid h2
    clear h1 h2
    go_enter Tryd.func12, Tryd.ntmps12
    go_wp2_with fail
    clear t0
    go_loopw [5] (SmR w n L M) (fun i _ => n - (intOf i).toNat)
    case atStart => exact ⟨0, Nat.zero_le _, rfl, rfl, 0, rfl⟩
    case round =>
      obtain ⟨k, hk, rfl, htk, m, rfl⟩ := hrel
      have HTK := Lib.hid htk
      clear htk
      by_cases hlt : k < n
      · obtain ⟨x, hx⟩ : ∃ x, L[k]? = some x := ⟨_, List.getElem?_eq_getElem (by rw [HLN.out]; exact hlt)⟩
        obtain ⟨y, hy⟩ : ∃ x, M[k]? = some x := ⟨_, List.getElem?_eq_getElem (by rw [HMN.out]; exact hlt)⟩
        obtain ⟨b1, o1, rfl, c1⟩ := H1.out.resolve_left (by rintro rfl; simp at hx)
        obtain ⟨b2, o2, rfl, c2⟩ := H2.out.resolve_left (by rintro rfl; simp at hy)
        have e1 := c1 k x hx
        have e2 := c2 k y hy
        have HX := Lib.hid hx
        have HY := Lib.hid hy
        clear c1 c2 hx hy
        by_cases hxy : x = y
        · have t1 : (x.toList == y.toList) = true := str_yes hxy
          have HT2 : Hid (L.take (k + 1) = M.take (k + 1)) := take_both HTK.out HX.out HY.out hxy
          clear hxy
          go_wp2_with fail
          go_quiet (fail)
          go_wp2_with fail
          go_roundw
          case rel => exact ⟨k + 1, by omega, by go_num, HT2.out, m + nq, by first | rfl | exact World.drewN_drewN w m nq⟩
          case measure => simp [intOf]; omega
        · have HE : Hid (decide (L = M) = false) := decide_eq_false (fun h => hxy (by
            have h1 := HX.out
            rw [h, HY.out] at h1
            injection h1 with h1
            exact h1.symm))
          have t1 : (x.toList == y.toList) = false := str_no hxy
          clear hxy
          go_wp2_with fail
          go_quiet (fail)
          go_wp2
          go_ret
          exact ⟨by rw [HE.out]; rfl, m + nq, by first | rfl | exact World.drewN_drewN w m nq⟩
      · have HE : Hid (decide (L = M) = true) := decide_eq_true (by
          have h := HTK.out
          have h1 := HLN.out
          have h2 := HMN.out
          rwa [List.take_of_length_le (by omega), List.take_of_length_le (by omega)] at h)
        go_wp2
        go_ret
        exact ⟨by rw [HE.out]; rfl, m, rfl⟩
  · have t0 : ((L.length : Int) != (M.length : Int)) = true := by rw [bne_iff_ne]; omega
    have t0' : (L.length == M.length) = false := by simpa using hlen
    have HE : Hid (decide (L = M) = false) := decide_eq_false (fun h => hlen (by rw [h]))
    clear hlen h1 h2
    go_enter Tryd.func12, Tryd.ntmps12
    go_wp2
    go_ret
    exact ⟨by rw [HE.out]; rfl, 0, rfl⟩
section
variable {w w0 : World} {F : List HP} {A B : Option Addr} {c e : Nat} {L M keys : List ByteArray}
theorem same_sat (hS : Sat w0 w F) (h1 : KsAt w A L) (h2 : KsAt w B M) (hl : L.length ≤ 140737488351232) (hm : M.length ≤ 140737488351232) :
    Calls Tryd.prog 12 #[.slice A L.length c, .slice B M.length e] w fun en w' => en = .returned (.bool (decide (L = M))) ∧ Sat w0 w' F := by
  refine (same_any h1 h2 hl hm).mono ?_
  rintro en w' ⟨rfl, n, rfl⟩
  exact ⟨rfl, hS.drewN n⟩
theorem copied_any (hK : KsAt w A keys) (hl : keys.length ≤ 1048576) (hS : Sat w0 w F) :
    Calls Tryd.prog 9 #[.slice A keys.length c] w fun en w' => ∃ A' c', en = .returned (.slice A' keys.length c') ∧ Sat w0 w' (Row 9 1 A' keys.length c' (strV keys) :: F) := by
  have HR := Lib.hid hK.rd
  have H1 := Lib.hid (hS.nilRow 9 1)
  obtain ⟨i9, hi9, hz9, hs9, hb9⟩ := info_parts infoS
  have HI9 := Lib.hid hi9
  have hb1 : 0 + keys.length ≤ maxLen ∧ (0 + keys.length) * 16 ≤ 140737488355328 := by unfold maxLen; omega
  have HO1 := Lib.hid (strV_one keys)
  obtain ⟨n, hn⟩ : ∃ n, keys.length = n := ⟨_, rfl⟩
  rw [hn] at HR hl hb1 ⊢
  clear hK hS hi9 hn
  go_enter Tryd.func9, Tryd.ntmps9
  go_wp2_with (at_builtin; refine wpList_appS rfl (.tmp 4) (.tmp 5) 27 rfl 9 i9 (.string ⟨#[]⟩) 1 16 Tryd.underlying27 HI9.out hz9 hs9 hb9 rfl (by decide) rfl H1.out rfl HR.out HO1.out hb1.1 hb1.2 ?_; intro A3 c3 W8 hS8; rw [Nat.zero_add, List.nil_append] at hS8; have H8 := Lib.hid hS8; clear hS8)
  go_ret
  exact ⟨A3, c3, rfl, H8.out⟩
def wrt : ByteArray := ⟨#[119, 114, 105, 116, 116, 101, 110]⟩
def ovr : ByteArray := ⟨#[111, 118, 101, 114]⟩
def FilRel (w0 : World) (F : List HP) (A : Option Addr) (c n : Nat) (i : Value) (wr : World) : Prop :=
  ∃ (k : Nat) (K : List ByteArray), K.length = n ∧ k ≤ n ∧ i = .int .i64 k ∧ Sat w0 wr (Row 9 1 A n c (strV K) :: F)
theorem strV_len (K : List ByteArray) : (strV K).length = K.length := by unfold strV; simp
theorem filled_last {A' : Option Addr} {c' n : Nat} {K : List ByteArray} (hKL : K.length = n) (hT2 : Sat w0 w (Row 9 1 A' (n + 2) c' (strV K ++ [.string ovr, .string ovr]) :: F)) :
    ∃ g', w.cell? ⟨g', n + 1, none⟩ = some (.string ovr) ∧ w.frozen? ⟨g', n + 1, none⟩ = false ∧ Hid (Sat w0 (w.setCell ⟨g', n + 1, none⟩ (.string ⟨#[97, 108, 108]⟩)) F) ∧ A' = some ⟨g', 0, none⟩ := by
  obtain ⟨g', rfl, hc', hfr'⟩ := hT2.rowCell (by simp)
  refine ⟨g', ?_, hfr' _, Lib.hid (hT2.rowSet (n + 1) (.string ⟨#[97, 108, 108]⟩)).tail, rfl⟩
  rw [hc' (n + 1) (by rw [List.length_append, strV_len, hKL]; simp), List.getElem?_append_right (by rw [strV_len, hKL]; omega), strV_len, hKL]
  simp
set_option maxHeartbeats 1600000 in
theorem filled_any (hS : Sat w0 w (Row 9 1 A L.length c (strV L) :: F)) (hl : L.length ≤ 4194304) :
    Calls Tryd.prog 13 #[.slice A L.length c] w fun e w' => e = .returned (.tuple #[]) ∧ Sat w0 w' F := by
  obtain ⟨ii, hi, hz, hsz9, hby⟩ := info_parts infoS
  obtain ⟨n, hn⟩ : ∃ n, L.length = n := ⟨_, rfl⟩
  rw [hn] at hl hS ⊢
  have HN := Lib.hid hn
  clear hn
  go_enter Tryd.func13, Tryd.ntmps13
  go_wp2_with fail
  go_loopw [2] (FilRel w0 F A c n) (fun i _ => n - (intOf i).toNat)
  case atStart => exact ⟨0, L, HN.out, by omega, rfl, hS⟩
  case round =>
    obtain ⟨k, K, hKL, hk, rfl, hT⟩ := hrel
    clear hS
    have HKL := Lib.hid hKL
    clear hKL
    by_cases hlt : k < n
    · obtain ⟨g, rfl, hc, hfr⟩ := hT.rowCell (by intro e; have := strV_len K; rw [e, HKL.out] at this; simp at this; omega)
      obtain ⟨x, hx⟩ : ∃ x, K[k]? = some x := ⟨_, List.getElem?_eq_getElem (by rw [HKL.out]; exact hlt)⟩
      have x0 := hc k (by rw [strV_len, HKL.out]; omega)
      rw [show (strV K)[k]? = some (.string x) by unfold strV; rw [List.getElem?_map, hx]; rfl] at x0
      have f := hfr k
      have hT2 := Lib.hid (hT.rowSet k (.string wrt))
      unfold wrt at hT2
      clear hc hfr hx
      go_wp2_with fail
      go_roundw
      case rel => exact ⟨k + 1, K.set k wrt, by rw [List.length_set]; exact HKL.out, by omega, by go_num, by rw [show strV (K.set k wrt) = (strV K).set k (.string wrt) by simp [strV, List.map_set]]; exact hT2.out⟩
      case measure => simp [intOf]; omega
    · obtain rfl : k = n := by omega
      have hm1 : k + 2 ≤ maxLen := by unfold maxLen; omega
      have hm2 : (k + 2) * 16 ≤ 140737488355328 := by omega
      have hNB := hT.new #[.string ovr, .string ovr] 9
      unfold ovr at hNB
      have HKL2 := HKL
      go_wp2_with (at_builtin; refine wpList_appS rfl (.tmp 12) (.tmp 13) 27 rfl 9 ii (.string ⟨#[]⟩) 1 16 Tryd.underlying27 hi hz hsz9 hby rfl (by decide) (by rfl) hNB.tail (by rfl) (hNB.rdBlk 2 1 (by simp)) (strV_one [ovr, ovr]) hm1 hm2 ?_; intro A' c' w' hT2; obtain ⟨g', x, f, HT3, rfl⟩ := filled_last HKL.out hT2; clear hT2 hNB; unfold ovr at x)
      go_end0
      exact ⟨rfl, HT3.out⟩
/-- is the text among them? -/
def hasB (l : List ByteArray) (s : ByteArray) : Bool := l.any fun x => decide (x = s)
theorem hasB_iff {l : List ByteArray} {s : ByteArray} : hasB l s = true ↔ s ∈ l := by
  unfold hasB
  rw [List.any_eq_true]
  constructor
  · rintro ⟨x, hx, e⟩
    have : x = s := by simpa using e
    rw [← this]; exact hx
  · exact fun h => ⟨s, h, by simp⟩
theorem hasB_no {l : List ByteArray} {s : ByteArray} (h : s ∉ l) : hasB l s = false := by
  cases hb : hasB l s with
  | false => rfl
  | true => exact absurd (hasB_iff.1 hb) h
def HasR (w : World) (l : List ByteArray) (s : ByteArray) (i : Value) (wr : World) : Prop := ∃ k : Nat, k ≤ l.length ∧ i = .int .i64 k ∧ wr = w ∧ ∀ j x, j < k → l[j]? = some x → x ≠ s
set_option maxHeartbeats 1600000 in
theorem has_any {l : List ByteArray} (s : ByteArray) (hK : KsAt w A l) (hl : l.length ≤ 4194304) :
    Calls Tryd.prog 23 #[.slice A l.length c, .string s] w fun e w' => e = .returned (.bool (hasB l s)) ∧ w' = w := by
  have HK := Lib.hid hK
  obtain ⟨n, hn⟩ : ∃ n, l.length = n := ⟨_, rfl⟩
  have HN := Lib.hid hn
  rw [hn] at hl ⊢
  clear hn hK
  go_enter Tryd.func23, Tryd.ntmps23
  go_wp2_with fail
  go_loopw [5] (HasR w l s) (fun i _ => n - (intOf i).toNat)
  case atStart => exact ⟨0, Nat.zero_le _, rfl, rfl, fun j x hj => absurd hj (Nat.not_lt_zero _)⟩
  case round =>
    obtain ⟨k, hk, rfl, rfl, ha⟩ := hrel
    rw [HN.out] at hk
    have HA := Lib.hid ha
    clear ha
    by_cases hlt : k < n
    · obtain ⟨x, hx⟩ : ∃ x, l[k]? = some x := ⟨_, List.getElem?_eq_getElem (by rw [HN.out]; exact hlt)⟩
      obtain ⟨b1, o1, rfl, c1⟩ := HK.out.resolve_left (by rintro rfl; simp at hx)
      have e1 := c1 k x hx
      have HX := Lib.hid hx
      clear c1 hx
      by_cases hxs : x = s
      · have t1 : (x.toList == s.toList) = true := str_yes hxs
        have HE : Hid (hasB l s = true) := hasB_iff.2 (by rw [← hxs]; exact List.mem_of_getElem? HX.out)
        clear hxs
        go_wp2_with fail
        go_ret
        exact ⟨by rw [HE.out]; rfl, rfl⟩
      · have t1 : (x.toList == s.toList) = false := str_no hxs
        have HXS := Lib.hid hxs
        clear hxs
        go_wp2_with fail
        go_roundw
        case rel =>
          refine ⟨k + 1, by rw [HN.out]; omega, by go_num, rfl, fun j y hj hy => ?_⟩
          by_cases hjk : j < k
          · exact HA.out j y hjk hy
          · obtain rfl : j = k := by omega
            rw [HX.out] at hy
            injection hy with hy
            subst hy
            exact HXS.out
        case measure => simp [intOf]; omega
    · have HE : Hid (hasB l s = false) := hasB_no (fun h => by
        obtain ⟨i, hi, e⟩ := List.getElem_of_mem h
        exact HA.out i s (by rw [HN.out] at hi; omega) (by rw [← e]; exact List.getElem?_eq_getElem hi) rfl)
      go_wp2_with fail
      go_ret
      exact ⟨by rw [HE.out]; rfl, rfl⟩
end
def wf64 (n : Int) : Prop := -9223372036854775808 ≤ n ∧ n ≤ 9223372036854775807
theorem wf64_of {n : Int} (h : (Lit.int .i64 n).wf = true) : wf64 n := by
  have hh := i64_of h
  unfold wf64
  exact ⟨hh.1, hh.2⟩
def pickN (c : Int) (n : Nat) : Nat := (if c < 0 then -(c + 1) else c).toNat % n
theorem pickN_lt (c : Int) (n : Nat) (h : 0 < n) : pickN c n < n := Nat.mod_lt _ h
theorem pick_any (c : Int) (n : Nat) (w : World) (hc : wf64 c) (hn : 0 < n) (hn2 : n ≤ 1048576) : Calls Tryd.prog 33 #[.int .i64 c, .int .i64 n] w fun e w' => e = .returned (.int .i64 (pickN c n : Nat)) ∧ w' = w := by
  unfold wf64 at hc
  have t0 : ((n : Int) == 0) = false := by rw [beq_eq_false_iff_ne]; omega
  have t1 : ¬ (n : Int) = 0 := by omega
  by_cases h : c < 0
  · obtain ⟨m, hm⟩ : ∃ m : Nat, -(c + 1) = (m : Int) := ⟨(-(c + 1)).toNat, by omega⟩
    have HX : Hid (pickN c n = m % n) := by show _ = _; unfold pickN; rw [if_pos h, hm, Int.toNat_natCast]
    have sw1 : IntKind.i64.wrap (c + 1) = c + 1 := IntWalk.i64_in _ (by omega)
    have sw2 : IntKind.i64.wrap (-(c + 1)) = (m : Int) := by rw [IntWalk.i64_in _ (by omega)]; exact hm
    have t2 : decide (c < 0) = true := decide_eq_true h
    go_enter Tryd.func33, Tryd.ntmps33
    go_wp2
    go_ret
    exact ⟨by rw [HX.out]; first | rfl | exact congrArg (fun x => Ending.returned (Value.int .i64 x)) (by omega), rfl⟩
  · obtain ⟨m, rfl⟩ : ∃ m : Nat, c = (m : Int) := ⟨c.toNat, by omega⟩
    have HX : Hid (pickN (m : Int) n = m % n) := by show _ = _; unfold pickN; rw [if_neg h, Int.toNat_natCast]
    have t2 : decide ((m : Int) < 0) = false := decide_eq_false h
    go_enter Tryd.func33, Tryd.ntmps33
    go_wp2
    go_ret
    exact ⟨by rw [HX.out]; first | rfl | exact congrArg (fun x => Ending.returned (Value.int .i64 x)) (by omega), rfl⟩
/-- an instance of 1 to 6 -/
def smN (c : Int) : Nat := pickN c 6 + 1
theorem small_in (c : Int) : 1 ≤ smN c ∧ smN c ≤ 6 := by
  have := pickN_lt c 6 (by decide)
  unfold smN
  omega
theorem small_any (c : Int) (w : World) (hc : wf64 c) : Calls Tryd.prog 21 #[.int .i64 c] w fun e w' => e = .returned (.int .i64 (smN c : Nat)) ∧ w' = w := by
  have HC := Lib.hid (pick_any c 6 w hc (by decide) (by decide))
  have hl := pickN_lt c 6 (by decide)
  have HS : Hid (smN c = pickN c 6 + 1) := rfl
  obtain ⟨p, hp⟩ : ∃ p, pickN c 6 = p := ⟨_, rfl⟩
  rw [hp] at hl HC HS
  clear hp
  go_enter Tryd.func21, Tryd.ntmps21
  go_wp2_with fail
  refine HC.out.mono ?_
  rintro e w1 ⟨rfl, rfl⟩
  go_wp2_with fail
  go_ret
  refine ⟨?_, rfl⟩
  rw [HS.out, show ((p + 1 : Nat) : Int) = 1 + (p : Int) by omega]
  rfl
end Go.Proofs.YtbgbpibfmdkndaaDoor
