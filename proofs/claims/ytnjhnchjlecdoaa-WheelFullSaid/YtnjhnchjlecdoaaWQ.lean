/- The laws WheelAlike and WheelParts: the plain laws and the walks. -/
import Derived.Test.YtnjhnchjlecdoaaWP
set_option linter.unusedVariables false
set_option linter.unusedSimpArgs false
set_option linter.unnecessarySimpa false
set_option maxRecDepth 100000
namespace Go.Proofs.Ytnjhnchjlecdoaa
open Go.RowKit Go.ChangeShapes Go.WideShapes Go.ChangeAt
theorem bef_iff (a b : Tm) : bef a b = true ↔ a.2 < b.2 ∨ (a.2 = b.2 ∧ a.1 < b.1) := by unfold bef; simp
theorem bef_trans {a b c : Tm} (h : bef a b = true) (k : bef b c = true) : bef a c = true := by
  rw [bef_iff] at *
  omega
theorem bef_asymm {a b : Tm} (h : bef a b = true) (k : bef b a = true) : False := by
  rw [bef_iff] at *
  omega
theorem bef_total {a b : Tm} (hne : a.1 ≠ b.1) (h : bef a b = false) : bef b a = true := by
  have h2 : ¬ bef a b = true := by rw [h]; decide
  rw [bef_iff] at *
  omega
abbrev Srt (L : List Tm) : Prop := L.Pairwise fun a b => bef a b = true
theorem put_cons (y : Tm) (K : List Tm) (x : Tm) : putL (y :: K) x = if after x y = true then x :: y :: K else y :: putL K x := by
  unfold putL firstN
  rw [List.findIdx_cons]
  by_cases h : after x y = true
  · rw [if_pos h, h]; rfl
  · have h' : after x y = false := by simpa using h
    rw [if_neg h, h']; rfl
theorem put_mem (K : List Tm) (x y : Tm) : y ∈ putL K x ↔ y = x ∨ y ∈ K := by
  rw [(putL_perm K x).mem_iff, List.mem_cons]
theorem put_sorted (x : Tm) : ∀ K : List Tm, Srt K → (∀ y ∈ K, y.1 ≠ x.1) → Srt (putL K x)
  | [], _, _ => by
    show Srt [x]
    exact List.pairwise_singleton _ _
  | y :: K, hs, hn => by
    have hy := hn y (by simp)
    have ha := after_bef x y hy
    rw [put_cons]
    have hs' := List.pairwise_cons.1 hs
    split
    · rename_i h
      rw [h] at ha
      have hb : bef y x = false := by simpa using ha.symm
      have hxy := bef_total hy hb
      refine List.pairwise_cons.2 ⟨fun z hz => ?_, hs⟩
      rcases List.mem_cons.1 hz with rfl | hz
      · exact hxy
      · exact bef_trans hxy (hs'.1 z hz)
    · rename_i h
      have h' : after x y = false := by simpa using h
      rw [h'] at ha
      have hb : bef y x = true := by simpa using ha.symm
      refine List.pairwise_cons.2 ⟨fun z hz => ?_, put_sorted x K hs'.2 fun z hz => hn z (by simp [hz])⟩
      rcases (put_mem K x z).1 hz with rfl | hz
      · exact hb
      · exact hs'.1 z hz
theorem sorted_eq : ∀ L M : List Tm, Srt L → Srt M → L.Perm M → L = M
  | [], M, _, _, hp => (List.nil_perm.1 hp).symm
  | x :: l, [], _, _, hp => absurd hp.length_eq (by simp)
  | x :: l, y :: m, hl, hm, hp => by
    have hl' := List.pairwise_cons.1 hl
    have hm' := List.pairwise_cons.1 hm
    have hx : x ∈ y :: m := hp.mem_iff.1 (by simp)
    have hy : y ∈ x :: l := hp.mem_iff.2 (by simp)
    have e : x = y := by
      rcases List.mem_cons.1 hx with e | hx
      · exact e
      · rcases List.mem_cons.1 hy with e | hy
        · exact e.symm
        · exact (bef_asymm (hm'.1 x hx) (hl'.1 y hy)).elim
    subst e
    rw [sorted_eq l m hl'.2 hm'.2 (List.Perm.cons_inv hp)]
theorem stop_none {L : List Tm} {id : Int} (h : ∀ y ∈ L, y.1 ≠ id) : stopL L id = L := by
  unfold stopL
  have : firstN L (isId id) = L.length := first_none fun j hj => by
    unfold isId
    rw [beq_eq_false_iff_ne]
    exact h _ (List.getElem_mem hj)
  rw [this, List.eraseIdx_of_length_le (Nat.le_refl _)]
/-- the timer of a place -/
def tmOf (l : List TOp) (j : Nat) : Tm := ((j : Int), ((pickN (l.getD j ⟨0, 0, 0⟩).at_ 1000 : Nat) : Int))
theorem idx_lt {n i : Nat} {back : Bool} (h : i < n) : idxOf n back i < n := by
  unfold idxOf
  split <;> omega
theorem idx_inj {n i j : Nat} {back : Bool} (h : i < n) (hj : j < n) (e : idxOf n back i = idxOf n back j) : i = j := by
  unfold idxOf at e
  split at e <;> omega
theorem sets_perm (l : List TOp) (back : Bool) (hl : l.length ≤ 150) : ∀ i, i ≤ l.length → (setsL l back i).Perm ((List.range i).map (fun t => tmOf l (idxOf l.length back t)) ++ begL) ∧ Srt (setsL l back i)
  | 0, _ => ⟨List.Perm.refl _, by show Srt begL; decide⟩
  | i + 1, hi => by
    obtain ⟨hp, hs⟩ := sets_perm l back hl i (by omega)
    have hlt := idx_lt (back := back) (show i < l.length by omega)
    have hsm := sets_small l back i
    have hnew : ∀ y ∈ setsL l back i, y.1 ≠ ((idxOf l.length back i : Nat) : Int) := by
      intro y hy
      rcases List.mem_append.1 (hp.mem_iff.1 hy) with hy | hy
      · obtain ⟨t, ht, rfl⟩ := List.mem_map.1 hy
        have ht := List.mem_range.1 ht
        unfold tmOf
        intro e
        have e' : idxOf l.length back t = idxOf l.length back i := by simp only at e; omega
        have := idx_inj (by omega) (by omega) e'
        omega
      · unfold begL at hy
        simp only [List.mem_cons, List.not_mem_nil, or_false] at hy
        rcases hy with rfl | rfl <;> (simp only; omega)
    rw [sets_next l back i hlt, hsm.putL_eq _ _ (pickN_lt _ _ (by decide)), Nat.mod_eq_of_lt (by omega), stop_none hnew]
    have et : (((idxOf l.length back i : Nat) : Int), ((pickN l[idxOf l.length back i].at_ 1000 : Nat) : Int)) = tmOf l (idxOf l.length back i) := by
      unfold tmOf
      rw [← List.getElem_eq_getD (h := hlt)]
    rw [et]
    refine ⟨?_, put_sorted _ _ hs (by intro y hy; exact hnew y hy)⟩
    refine (putL_perm _ _).trans ?_
    rw [List.range_succ, List.map_append, List.append_assoc]
    refine (hp.cons _).trans ?_
    exact List.perm_middle.symm
theorem range_back (n : Nat) : (List.range n).map (fun t => n - 1 - t) = (List.range n).reverse := by
  apply List.ext_getElem
  · simp
  · intro i h1 h2
    simp at h1 h2 ⊢
theorem sets_alike (l : List TOp) (hl : l.length ≤ 150) : setsL l false l.length = setsL l true l.length := by
  obtain ⟨p1, s1⟩ := sets_perm l false hl l.length (Nat.le_refl _)
  obtain ⟨p2, s2⟩ := sets_perm l true hl l.length (Nat.le_refl _)
  refine sorted_eq _ _ s1 s2 (p1.trans (List.Perm.trans ?_ p2.symm))
  refine List.Perm.append_right _ ?_
  have e1 : (List.range l.length).map (fun t => tmOf l (idxOf l.length false t)) = (List.range l.length).map (tmOf l) := by
    apply List.map_congr_left
    intro t _
    unfold idxOf
    rw [if_neg (by decide)]
  have e2 : (List.range l.length).map (fun t => tmOf l (idxOf l.length true t)) = ((List.range l.length).map (tmOf l)).reverse := by
    rw [← List.map_reverse, ← range_back, List.map_map]
    apply List.map_congr_left
    intro t _
    unfold idxOf
    rw [if_pos rfl]
    rfl
  rw [e1, e2]
  exact (List.reverse_perm _).symm
theorem ops_take {w : World} {A : Option Addr} {n c q : Nat} {l : List TOp} (h : OpsAt w A n c l) (hq : q ≤ n) : OpsAt w A q c (l.take q) := by
  obtain ⟨hn, _, _⟩ := h.1.at_
  rw [List.length_map] at hn
  subst hn
  refine ⟨?_, fun o ho => h.2 o (List.mem_of_mem_take ho)⟩
  obtain ⟨A', c', e, h1, h2, h3, h4⟩ := h.1
  injection e with e1 e2 e3
  subst e1 e3
  have hl : ((l.take q).map TOp.vs).length = q := by simp; omega
  rw [List.length_map] at h1
  refine ⟨A, c, by rw [hl], by rw [hl]; omega, h2, fun x hx => ?_, ?_⟩
  · obtain ⟨o, _, rfl⟩ := List.mem_map.1 hx
    rfl
  · rcases h4 with h4 | ⟨b, of, rfl, hc⟩
    · left
      have : l = [] := by simpa using h4
      rw [this]
      simp
    · refine .inr ⟨b, of, rfl, fun i hi j hj => ?_⟩
      rw [hl] at hi
      have := hc i (by rw [List.length_map]; omega) j hj
      rw [this]
      have e1 : (l.map TOp.vs).getD i [] = (l[i]'(by omega)).vs := by simp [List.getD, show i < l.length by omega]
      have e2 : ((l.take q).map TOp.vs).getD i [] = (l[i]'(by omega)).vs := by simp [List.getD, show i < l.length by omega, hi]
      rw [e1, e2]
/-- what Due tells of a wheel, as numbers -/
theorem due_nums (L : List Tm) (t : Int) (hm : L.length ≤ 200) : ∃ Q : List Int, ids (L.take (dueN L t)) = nums Q ∧ Q.length = dueN L t ∧ Q.length ≤ 200 := by
  have := first_le L (isLate t)
  refine ⟨(L.take (dueN L t)).map (·.1), ids_nums _, ?_, ?_⟩
  · rw [List.length_map, List.length_take]
    unfold dueN
    omega
  · rw [List.length_map, List.length_take]
    omega
set_option maxHeartbeats 3200000 in
theorem wheelAlike_walk (A : Option Addr) (n c : Nat) (l : List TOp) (now : Int) (w : World) (w0 : OpsAt w A n c l) (_ : n * 24 ≤ 140737488351232) (w1 : (Lit.int .i64 now).wf = true) :
    Calls Try.prog 7 #[.slice A n c, .int .i64 now] w fun e w' => e = .returned (.bool true) ∧ Below w.heap.size w w' := by
  obtain ⟨hn, hml, _⟩ := w0.1.at_
  rw [List.length_map] at hn hml
  subst hn
  unfold maxLen at hml
  obtain ⟨A', c', e, hlc, hcm, _⟩ := w0.1
  injection e with e1 e2 e3
  subst e1 e3
  rw [List.length_map] at hlc
  unfold maxLen at hcm
  clear w1 e2
  by_cases hbig : 150 < l.length
  · have hI := ops_take w0 (q := 150) (by omega)
    have hl2 : (l.take 150).length ≤ 150 := by rw [List.length_take]; omega
    have h150 : (150 : Int) ≤ (c : Int) := by omega
    have hc150 : (150 : Nat) ≤ c := by omega
    clear w0
    have HC1 := Lib.hid (set_any A 150 c (l.take 150) false (Sat.start w) (by simp) hI)
    have HC2 := Lib.hid (fun (w1 : World) (F : List HP) (h : Sat w w1 F) (hO : Old w ∈ F) => set_any A 150 c (l.take 150) true h hO hI)
    have hal := sets_alike (l.take 150) hl2
    have HSM := sets_small (l.take 150) true ((l.take 150)).length
    rw [hal] at HC1
    obtain ⟨K, hK⟩ : ∃ K, setsL (l.take 150) true ((l.take 150)).length = K := ⟨_, rfl⟩
    rw [hK] at HC1 HC2 HSM
    have hkl := HSM.fine.len
    obtain ⟨Q, hQ1, hQ2, hQ3⟩ := due_nums K now hkl
    have HA := Lib.hid (fun (w1 : World) (g : Nat) (G : List HP) (h : Sat w w1 (WheelC g 48 50 K :: G)) => wdue_any now h (by omega))
    obtain ⟨R, hR⟩ : ∃ R, K.drop (dueN K now) = R := ⟨_, rfl⟩
    rw [hR, hQ1, ← hQ2] at HA
    have i1 : (nextN K == nextN K) = true := by simp
    have i2 : (nextB K == nextB K) = true := by simp
    have i3 : (((K.length : Nat) : Int) == ((K.length : Nat) : Int)) = true := by simp
    have i4 : (((R.length : Nat) : Int) == ((R.length : Nat) : Int)) = true := by simp
    clear hal hK hQ1 hQ2 hR hI HSM
    go_enter Try.func7, Try.ntmps7
    go_wp2_with fail
    refine HC1.out.mono ?_
    rintro e w1 ⟨g, rfl, h1⟩
    go_wp2_with fail
    refine (HC2.out _ _ h1 (by simp)).mono ?_
    rintro e w2 ⟨r, rfl, h2⟩
    clear HC1 HC2 h1
    go_wp2_with fail
    refine (wnext_any h2.r2 (by omega)).mono ?_
    rintro e v1 ⟨rfl, rfl⟩
    go_wp2_with fail
    refine (wnext_any h2 (by omega)).mono ?_
    rintro e v2 ⟨rfl, rfl⟩
    go_wp2_with fail
    refine (wlen_any h2.r2).mono ?_
    rintro e v3 ⟨rfl, rfl⟩
    go_wp2_with fail
    refine (wlen_any h2).mono ?_
    rintro e v4 ⟨rfl, rfl⟩
    go_wp2_with fail
    refine (HA.out _ g _ h2.r2).mono ?_
    rintro e w5 ⟨A1, c1, rfl, h5⟩
    clear h2
    go_wp2_with fail
    refine (HA.out _ r _ h5.r3).mono ?_
    rintro e w6 ⟨A2, c2, rfl, h6⟩
    have HSM := Lib.hid (same_yes h6.r3 (by omega))
    clear h5
    go_wp2_with fail
    refine HSM.out.mono ?_
    rintro e w7 ⟨rfl, h8⟩
    clear HSM h6
    go_wp2_with fail
    refine (wlen_any h8.r4).mono ?_
    rintro e v8 ⟨rfl, rfl⟩
    go_wp2_with fail
    refine (wlen_any h8.r3).mono ?_
    rintro e v9 ⟨rfl, rfl⟩
    go_wp2_with fail
    go_ret
    exact ⟨rfl, h8.old (by simp)⟩
  · have hI := w0
    have hl2 : l.length ≤ 150 := by omega
    clear w0
    have HC1 := Lib.hid (set_any A l.length c l false (Sat.start w) (by simp) hI)
    have HC2 := Lib.hid (fun (w1 : World) (F : List HP) (h : Sat w w1 F) (hO : Old w ∈ F) => set_any A l.length c l true h hO hI)
    have hal := sets_alike l hl2
    have HSM := sets_small l true (l).length
    rw [hal] at HC1
    obtain ⟨K, hK⟩ : ∃ K, setsL l true (l).length = K := ⟨_, rfl⟩
    rw [hK] at HC1 HC2 HSM
    have hkl := HSM.fine.len
    obtain ⟨Q, hQ1, hQ2, hQ3⟩ := due_nums K now hkl
    have HA := Lib.hid (fun (w1 : World) (g : Nat) (G : List HP) (h : Sat w w1 (WheelC g 48 50 K :: G)) => wdue_any now h (by omega))
    obtain ⟨R, hR⟩ : ∃ R, K.drop (dueN K now) = R := ⟨_, rfl⟩
    rw [hR, hQ1, ← hQ2] at HA
    have i1 : (nextN K == nextN K) = true := by simp
    have i2 : (nextB K == nextB K) = true := by simp
    have i3 : (((K.length : Nat) : Int) == ((K.length : Nat) : Int)) = true := by simp
    have i4 : (((R.length : Nat) : Int) == ((R.length : Nat) : Int)) = true := by simp
    clear hal hK hQ1 hQ2 hR hI HSM
    go_enter Try.func7, Try.ntmps7
    go_wp2_with fail
    refine HC1.out.mono ?_
    rintro e w1 ⟨g, rfl, h1⟩
    go_wp2_with fail
    refine (HC2.out _ _ h1 (by simp)).mono ?_
    rintro e w2 ⟨r, rfl, h2⟩
    clear HC1 HC2 h1
    go_wp2_with fail
    refine (wnext_any h2.r2 (by omega)).mono ?_
    rintro e v1 ⟨rfl, rfl⟩
    go_wp2_with fail
    refine (wnext_any h2 (by omega)).mono ?_
    rintro e v2 ⟨rfl, rfl⟩
    go_wp2_with fail
    refine (wlen_any h2.r2).mono ?_
    rintro e v3 ⟨rfl, rfl⟩
    go_wp2_with fail
    refine (wlen_any h2).mono ?_
    rintro e v4 ⟨rfl, rfl⟩
    go_wp2_with fail
    refine (HA.out _ g _ h2.r2).mono ?_
    rintro e w5 ⟨A1, c1, rfl, h5⟩
    clear h2
    go_wp2_with fail
    refine (HA.out _ r _ h5.r3).mono ?_
    rintro e w6 ⟨A2, c2, rfl, h6⟩
    have HSM := Lib.hid (same_yes h6.r3 (by omega))
    clear h5
    go_wp2_with fail
    refine HSM.out.mono ?_
    rintro e w7 ⟨rfl, h8⟩
    clear HSM h6
    go_wp2_with fail
    refine (wlen_any h8.r4).mono ?_
    rintro e v8 ⟨rfl, rfl⟩
    go_wp2_with fail
    refine (wlen_any h8.r3).mono ?_
    rintro e v9 ⟨rfl, rfl⟩
    go_wp2_with fail
    go_ret
    exact ⟨rfl, h8.old (by simp)⟩
theorem due_split (L : List Tm) {a b : Int} (h : a ≤ b) : dueN L a ≤ dueN L b ∧ dueN (L.drop (dueN L a)) b = dueN L b - dueN L a := by
  unfold dueN firstN
  induction L with
  | nil => exact ⟨Nat.le_refl _, rfl⟩
  | cons x l ih =>
    rw [List.findIdx_cons, List.findIdx_cons]
    by_cases ha : isLate a x = true
    · rw [ha]
      simp only [cond_true, List.drop_zero, Nat.sub_zero]
      rw [List.findIdx_cons]
      exact ⟨Nat.zero_le _, rfl⟩
    · have ha' : isLate a x = false := by simpa using ha
      have hb' : isLate b x = false := by
        unfold isLate at ha' ⊢
        have := of_decide_eq_false ha'
        exact decide_eq_false (by omega)
      rw [ha', hb']
      simp only [cond_false, List.drop_succ_cons]
      obtain ⟨i1, i2⟩ := ih
      exact ⟨by omega, by rw [i2]; omega⟩
theorem due_parts (L : List Tm) {a b : Int} (h : a ≤ b) : ids (L.take (dueN L a)) ++ ids ((L.drop (dueN L a)).take (dueN (L.drop (dueN L a)) b)) = ids (L.take (dueN L b)) ∧ (L.drop (dueN L a)).drop (dueN (L.drop (dueN L a)) b) = L.drop (dueN L b) ∧ dueN L a + dueN (L.drop (dueN L a)) b = dueN L b := by
  obtain ⟨h1, h2⟩ := due_split L h
  refine ⟨?_, ?_, by omega⟩
  · rw [h2]
    unfold ids
    rw [← List.map_append, ← List.take_add, show dueN L a + (dueN L b - dueN L a) = dueN L b by omega]
  · rw [h2, List.drop_drop]
    congr 1
    omega
end Go.Proofs.Ytnjhnchjlecdoaa
