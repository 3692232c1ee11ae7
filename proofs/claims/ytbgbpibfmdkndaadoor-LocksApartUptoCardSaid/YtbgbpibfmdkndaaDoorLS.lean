/- Plain: what the laws without the document say; whole. -/
import Derived.Test.YtbgbpibfmdkndaaDoorLQ
set_option linter.unusedVariables false
set_option linter.unusedSimpArgs false
set_option linter.unnecessarySimpa false
set_option maxRecDepth 100000
namespace Go.Proofs.YtbgbpibfmdkndaaDoor
open Go.RowKit Go.ChangeShapes Go.WideShapes Go.ChangeAt
theorem take_no {D D' : List Ent} {inst : Int} {keys : List ByteArray} {s : ByteArray} (h : takeE D inst keys = (s, false, D')) : D' = D ∧ (s = ⟨#[]⟩ ∨ (s ∈ keys ∧ valE D s ≠ 0 ∧ valE D s ≠ inst)) := by
  unfold takeE at h
  split at h
  · split at h
    · rename_i k hk
      injection h with h1 h2
      injection h2 with _ h3
      subst h1 h3
      refine ⟨rfl, .inr ⟨List.mem_of_find?_eq_some hk, ?_⟩⟩
      have := List.find?_some hk
      unfold othE at this
      simpa using this
    · injection h with h1 h2
      injection h2 with h2 _
      cases h2
  · injection h with h1 h2
    injection h2 with _ h3
    exact ⟨h3.symm, .inl h1.symm⟩
structure Took (D D' : List Ent) (inst : Int) (keys : List ByteArray) (s : ByteArray) : Prop where
  eq : D' = takenE D inst keys
  s : s = ⟨#[]⟩
  pos : 1 ≤ inst
  name : ∀ k ∈ keys, isN k = true
  free : ∀ k ∈ keys, valE D k = 0 ∨ valE D k = inst
theorem take_yes {D D' : List Ent} {inst : Int} {keys : List ByteArray} {s : ByteArray} (h : takeE D inst keys = (s, true, D')) : Took D D' inst keys s := by
  unfold takeE at h
  split at h
  · rename_i ha
    unfold askE at ha
    rw [Bool.and_eq_true, decide_eq_true_eq, List.all_eq_true] at ha
    split at h
    · injection h with h1 h2
      injection h2 with h2 _
      cases h2
    · rename_i hf
      injection h with h1 h2
      injection h2 with _ h3
      refine ⟨h3.symm, h1.symm, ha.1, ha.2, fun k hk => ?_⟩
      have h1 := List.find?_eq_none.1 hf k hk
      unfold othE at h1
      simp at h1
      by_cases h0 : valE D k = 0
      · exact .inl h0
      · exact .inr (h1 h0)
  · injection h with h1 h2
    injection h2 with h2 _
    cases h2
theorem Took.val {D D' : List Ent} {inst : Int} {keys : List ByteArray} {s : ByteArray} (h : Took D D' inst keys s) (hD : TabOk D) : (∀ k ∈ keys, valE D' k = inst) ∧ (∀ x, valE D x = inst → valE D' x = inst) ∧ (∀ x, valE D' x = inst → valE D x = inst ∨ x ∈ keys) := by
  have hv := taken_val h.pos keys hD h.name
  rw [← h.eq] at hv
  have hp := h.pos
  refine ⟨fun k hk => ?_, fun x hx => ?_, fun x hx => ?_⟩
  · rw [hv]
    rcases h.free k hk with h0 | h0
    · rw [if_pos ⟨h0, hk⟩]
    · rw [if_neg (by rw [h0]; intro g; omega), h0]
  · rw [hv, if_neg (by rw [hx]; intro g; omega), hx]
  · rw [hv] at hx
    by_cases hc : valE D x = 0 ∧ x ∈ keys
    · exact .inr hc.2
    · rw [if_neg hc] at hx
      exact .inl hx
theorem drop_drop (D : List Ent) (i : Int) : dropE (dropE D i) i = dropE D i := by
  unfold dropE
  rw [List.filter_filter]
  congr 1
  funext m
  simp
theorem held_drop (D : List Ent) (i : Int) : heldE (dropE D i) i = [] := by
  unfold heldE dropE
  rw [List.filter_filter, List.filter_eq_nil_iff.2]
  · rfl
  · intro m _
    simp
theorem held_other (D : List Ent) {i k : Int} (h : k ≠ i) : heldE (dropE D i) k = heldE D k := by
  unfold heldE dropE
  rw [List.filter_filter]
  congr 2
  funext m
  by_cases hm : m.2 = k
  · have : m.2 ≠ i := by rw [hm]; exact h
    simp [hm, h]
  · simp [hm]
theorem drop_ins (D : List Ent) (i : Int) (k : ByteArray) : dropE (insE i D k) i = dropE D i := by
  by_cases h0 : valE D k = 0
  · unfold insE dropE
    rw [if_pos h0, List.filter_append, List.filter_cons]
    simp only [ne_eq, not_true_eq_false, decide_false, Bool.false_eq_true, if_false]
    rw [← List.filter_append, List.take_append_drop]
  · rw [insE_other h0]
theorem drop_taken (i : Int) : ∀ (keys : List ByteArray) (D : List Ent), dropE (takenE D i keys) i = dropE D i
  | [], D => rfl
  | k :: keys, D => by
    have e : takenE D i (k :: keys) = takenE (insE i D k) i keys := rfl
    rw [e, drop_taken i keys, drop_ins]
/-- how many of the first n stand for the first time -/
def cntU (l : List ByteArray) (n : Nat) : Nat := ((List.range n).filter fun i => !hasB (l.take i) (l.getD i ⟨#[]⟩)).length
theorem cntU_succ (l : List ByteArray) (n : Nat) : cntU l (n + 1) = cntU l n + if hasB (l.take n) (l.getD n ⟨#[]⟩) then 0 else 1 := by
  unfold cntU
  rw [List.range_succ, List.filter_append, List.length_append]
  congr 1
  cases h : hasB (l.take n) (l.getD n ⟨#[]⟩) <;> simp [h, -List.getD_eq_getElem?_getD]
theorem cntU_le (l : List ByteArray) (n : Nat) : cntU l n ≤ n := by
  unfold cntU
  refine Nat.le_trans (List.length_filter_le _ _) ?_
  rw [List.length_range]
  exact Nat.le_refl _
theorem held_ins {D : List Ent} {i : Int} {k : ByteArray} (h0 : valE D k = 0) : (heldE (insE i D k) i).length = (heldE D i).length + 1 := by
  unfold heldE
  have hp := (insE_perm (inst := i) h0).filter (fun m => decide (m.2 = i))
  rw [List.length_map, List.length_map, hp.length_eq]
  simp
theorem cnt_taken {D : List Ent} {i : Int} {keys : List ByteArray} (hD : TabOk D) (hi : 1 ≤ i) (hn : ∀ k ∈ keys, isN k = true) (hf : ∀ k ∈ keys, valE D k = 0) (hh : heldE D i = []) :
    ∀ n, n ≤ keys.length → (heldE (takenE D i (keys.take n)) i).length = cntU keys n
  | 0, _ => by
    rw [List.take_zero]
    show (heldE D i).length = 0
    rw [hh]; rfl
  | n + 1, h => by
    have hk : n < keys.length := h
    have hg : keys[n]? = some keys[n] := List.getElem?_eq_getElem hk
    have ih := cnt_taken hD hi hn hf hh n (by omega)
    rw [taken_succ _ _ _ _ _ hg, cntU_succ, ← ih]
    have hv := taken_val hi (keys.take n) hD (fun x hx => hn x (List.mem_of_mem_take hx)) keys[n]
    have e : keys.getD n ⟨#[]⟩ = keys[n] := (List.getElem_eq_getD (h := hk) ⟨#[]⟩).symm
    rw [e]
    by_cases hm : keys[n] ∈ keys.take n
    · rw [hasB_iff.2 hm, if_pos rfl, insE_other]
      · rfl
      · rw [hv, if_pos ⟨hf _ (List.getElem_mem hk), hm⟩]; omega
    · rw [hasB_no hm]
      rw [if_neg (fun g => hm g.2), hf _ (List.getElem_mem hk)] at hv
      rw [held_ins hv]
      rfl
theorem drop_mem {D : List Ent} {i : Int} {m : Ent} (h : m ∈ D) (hm : m.2 ≠ i) : m ∈ dropE D i := List.mem_filter.2 ⟨h, by simpa using hm⟩
theorem ins_mem_of {D : List Ent} {i : Int} {k : ByteArray} {m : Ent} (h : m ∈ D) : m ∈ insE i D k := by
  by_cases h0 : valE D k = 0
  · exact (insE_perm h0).mem_iff.2 (List.mem_cons_of_mem _ h)
  · rw [insE_other h0]; exact h
theorem taken_mem_of {i : Int} {m : Ent} : ∀ (keys : List ByteArray) {D : List Ent}, m ∈ D → m ∈ takenE D i keys
  | [], D, h => h
  | k :: keys, D, h => taken_mem_of keys (ins_mem_of h)
theorem take_mem_of {D : List Ent} {i : Int} {keys : List ByteArray} {m : Ent} (h : m ∈ D) : m ∈ (takeE D i keys).2.2 := by
  unfold takeE
  split
  · split
    · exact h
    · exact taken_mem_of keys h
  · exact h
theorem pl_mem {D : List Ent} {m : Ent} (h : m ∈ D) (hm : 6 < m.2) (o : LOp) : m ∈ plE D o := by
  unfold plE
  have := small_in o.inst
  split
  · exact drop_mem h (by omega)
  · exact take_mem_of h
theorem fold_mem {m : Ent} (hm : 6 < m.2) : ∀ (l : List LOp) {D : List Ent}, m ∈ D → m ∈ l.foldl plE D
  | [], D, h => h
  | o :: l, D, h => fold_mem hm l (pl_mem h hm o)
theorem plays_mem (l : List LOp) : (z2, (900001 : Int)) ∈ playsE l := fold_mem (by decide) l (by unfold begD; simp)
/-! whole -/
def bar : ByteArray := ⟨#[124]⟩
def wholeT (D : List Ent) (m : Nat) : List ByteArray := (List.range m).flatMap fun (i : Nat) => bar :: heldE D ((i : Int) + 1)
theorem whole_succ (D : List Ent) (m : Nat) : wholeT D (m + 1) = wholeT D m ++ bar :: heldE D ((m : Int) + 1) := by
  unfold wholeT
  rw [List.range_succ, List.flatMap_append]
  simp
theorem whole_len (D : List Ent) : ∀ m, (wholeT D m).length ≤ m * (D.length + 1)
  | 0 => by simp [wholeT]
  | m + 1 => by
    have ih := whole_len D m
    have h := held_len D ((m : Int) + 1)
    rw [whole_succ, List.length_append, List.length_cons, Nat.add_mul]
    omega
section
variable {w w0 : World} {F : List HP} {tb : Nat} {D : List Ent}
def WhRel (w0 : World) (F : List HP) (tb : Nat) (D : List Ent) (out i : Value) (wr : World) : Prop :=
  ∃ (m n : Nat) (A2 : Option Addr) (c2 : Nat), m ≤ 6 ∧ i = .int .i64 ((m : Int) + 1) ∧ out = .slice A2 n c2 ∧ (wholeT D m).length = n ∧ Sat w0 wr (Row 9 1 A2 n c2 (strV (wholeT D m)) :: TabP tb D :: F)
def WhRel2 (w0 : World) (L : List HP) (T h : List ByteArray) (n : Nat) (out i : Value) (wr : World) : Prop :=
  ∃ (k : Nat) (A2 : Option Addr) (c2 : Nat), k ≤ h.length ∧ i = .int .i64 k ∧ out = .slice A2 (n + 1 + k) c2 ∧ Sat w0 wr (Row 9 1 A2 (n + 1 + k) c2 (strV (T ++ bar :: h.take k)) :: L)
set_option maxHeartbeats 6400000 in
theorem whole_any (hD : TabOk D) (hlen : D.length ≤ 4194304) (hO : Old w0 ∈ F) (hT0 : Lib.Utf8Tabs 0 1 w0) (hS : Sat w0 w (TabP tb D :: F)) :
    Calls Tryd.prog 22 #[.pointer (some ⟨tb, 0, none⟩)] w fun e w' => ∃ (A2 : Option Addr) (c2 : Nat), e = .returned (.tuple #[.slice A2 (wholeT D 6).length c2, .bool true]) ∧
      Sat w0 w' (Row 9 1 A2 (wholeT D 6).length c2 (strV (wholeT D 6)) :: TabP tb D :: F) := by
  have H1 := Lib.hid (hS.nilRow 9 1)
  have HD := Lib.hid hD
  have HLN := Lib.hid hlen
  have HO := Lib.hid hO
  have HT0 := Lib.hid hT0
  obtain ⟨i9, hi9, hz9, hs9, hb9⟩ := info_parts infoS
  have HI9 := Lib.hid hi9
  clear hS hD hO hT0 hi9 hlen
  go_enter Tryd.func22, Tryd.ntmps22
  go_wp2_with fail
  go_loopw [4, 5] (WhRel w0 F tb D) (fun _ i _ => 7 - (intOf i).toNat)
  case atStart => exact ⟨0, 0, none, 0, Nat.zero_le _, rfl, rfl, rfl, H1.out⟩
  case round =>
    obtain ⟨m, n, A2, c2, hm, rfl, rfl, hn, hS⟩ := hrel
    clear H1
    have hwl := whole_len D m
    have hwl6 : m * (D.length + 1) ≤ 6 * 4194305 := Nat.mul_le_mul hm (by have := HLN.out; omega)
    rw [hn] at hwl
    have hn25 : n ≤ 25165830 := by omega
    have HNN := Lib.hid hn
    have HS := Lib.hid hS
    clear hwl hwl6 hn hS
    by_cases hlt : m < 6
    · have HH := Lib.hid (held_any HD.out HLN.out ((m : Int) + 1) (List.mem_cons_of_mem _ HO.out) HT0.out HS.out.r2)
      have hhl := Nat.le_trans (held_len D ((m : Int) + 1)) HLN.out
      have HV : Hid (∀ x ∈ heldE D ((m : Int) + 1), valE D x = (m : Int) + 1) := fun x hx => (HD.out.held_iff (by omega)).1 hx
      have HNX := Lib.hid (whole_succ D m)
      obtain ⟨T, hT⟩ : ∃ T, wholeT D m = T := ⟨_, rfl⟩
      obtain ⟨h, hh⟩ : ∃ h, heldE D ((m : Int) + 1) = h := ⟨_, rfl⟩
      obtain ⟨hn, hhn⟩ : ∃ q, h.length = q := ⟨_, rfl⟩
      have HHN := Lib.hid hhn
      rw [hT] at HS HNX HNN HH
      rw [hh] at HH HV HNX hhl
      rw [hhn] at HH hhl
      clear hT hh hhn
      go_wp2_with fail
      refine HH.out.mono ?_
      rintro e w3 ⟨Ah, ch, rfl, h3⟩
      have HB := Lib.hid (h3.r3.new #[.string ⟨#[124]⟩] 9)
      have hbk : n + 1 ≤ maxLen ∧ (n + 1) * 16 ≤ 140737488355328 := by unfold maxLen; omega
      have HONE : Hid (∀ u ∈ (#[.string ⟨#[124]⟩] : Array Value).toList, u.oneCell' = true) := strV_one [bar]
      clear h3 HH HS
      go_wp2_with (at_builtin; refine wpList_app1 rfl (.tmp 15) (.tmp 16) 27 rfl 9 i9 (.string ⟨#[]⟩) 1 16 Tryd.underlying27 HI9.out hz9 hs9 hb9 rfl (by decide) rfl HB.out rfl rfl HONE.out hbk.1 hbk.2 ?_; intro A3 c3 W8 hS8; have H8 := Lib.hid hS8; clear hS8)
      go_loopw [4, 7] (WhRel2 w0 (Row 9 1 Ah hn ch (strV h) :: TabP tb D :: F) T h n) (fun _ i _ => hn - (intOf i).toNat)
      case atStart =>
        refine ⟨0, A3, c3, Nat.zero_le _, rfl, rfl, ?_⟩
        have e : strV (T ++ bar :: h.take 0) = strV T ++ [.string ⟨#[124]⟩] := by rw [List.take_zero, strV_app]; rfl
        rw [e]
        exact H8.out
      case round =>
        obtain ⟨k, A4, c4, hk, rfl, rfl, hS4⟩ := hrel
        rw [HHN.out] at hk
        clear H8 HB
        by_cases hkl : k < hn
        · obtain ⟨x, hx⟩ : ∃ x, h[k]? = some x := ⟨_, List.getElem?_eq_getElem (by rw [HHN.out]; exact hkl)⟩
          have hxv : (strV h)[k]? = some (.string x) := by unfold strV; rw [List.getElem?_map, hx]; rfl
          obtain ⟨g, rfl, _, _⟩ := hS4.r2.rowCell (by intro e; rw [e] at hxv; simp at hxv)
          have x0 := (hS4.r2.rowAt hxv).1
          have hv := HV.out x (List.mem_of_getElem? hx)
          have HC := Lib.hid (holder_any HD.out x hS4.r3)
          rw [hv] at HC
          have HB := Lib.hid (hS4.new #[.string x] 9)
          have HX := Lib.hid (take_snoc hx)
          have hbk2 : n + 1 + k + 1 ≤ maxLen ∧ (n + 1 + k + 1) * 16 ≤ 140737488355328 := by unfold maxLen; omega
          have HONE2 : Hid (∀ u ∈ (#[.string x] : Array Value).toList, u.oneCell' = true) := strV_one [x]
          have q1 : (((m : Int) + 1) != ((m : Int) + 1)) = false := by simp
          clear hx hxv hv hS4
          go_wp2_with fail
          refine HC.out.mono ?_
          rintro e w5 ⟨rfl, rfl⟩
          go_wp2_with (at_builtin; refine wpList_app1 rfl (.tmp 32) (.tmp 37) 27 rfl 9 i9 (.string ⟨#[]⟩) 1 16 Tryd.underlying27 HI9.out hz9 hs9 hb9 rfl (by decide) rfl HB.out rfl rfl HONE2.out hbk2.1 hbk2.2 ?_; intro A5 c5 W9 hS9; have H9 := Lib.hid hS9; clear hS9)
          go_roundw
          case rel =>
            refine ⟨k + 1, A5, c5, by rw [HHN.out]; omega, by go_num, rfl, ?_⟩
            have e : strV (T ++ bar :: h.take (k + 1)) = strV (T ++ bar :: h.take k) ++ [.string x] := by
              rw [HX.out, show T ++ bar :: (h.take k ++ [x]) = (T ++ bar :: h.take k) ++ [x] by simp, strV_app]
              rfl
            rw [e]
            exact H9.out
          case measure => simp [intOf]; omega
        · obtain rfl : k = hn := by omega
          have HS4 := Lib.hid hS4
          clear hS4 hkl
          go_wp2_with fail
          go_roundw
          case rel =>
            refine ⟨m + 1, n + 1 + k, A4, c4, by omega, by go_num, rfl, ?_, ?_⟩
            · rw [HNX.out, List.length_append, List.length_cons, HNN.out, HHN.out]; omega
            · rw [HNX.out]
              have h := HS4.out
              rw [List.take_of_length_le (by rw [HHN.out]; exact Nat.le_refl _)] at h
              exact h.r2.tail
          case measure => simp [intOf]; omega
    · obtain rfl : m = 6 := by omega
      go_wp2_with fail
      go_ret2
      exact ⟨A2, c2, by rw [HNN.out]; rfl, by rw [HNN.out]; exact HS.out⟩
end
end Go.Proofs.YtbgbpibfmdkndaaDoor
