/- Plain: the wheels and the map say what the document's waits say. -/
import Derived.Test.YtbgbpibfmdkndaaRL
import Derived.Test.YtbgbpibfmdkndaaRH
set_option linter.unusedVariables false
set_option linter.unusedSimpArgs false
set_option linter.unnecessarySimpa false
set_option maxRecDepth 100000
namespace Go.Proofs.Ytbgbpibfmdkndaa
theorem stop_eraseP (id : Int) : ∀ L : List Tm, stopL L id = L.eraseP (isId id)
  | [] => rfl
  | x :: l => by
    have ih := stop_eraseP id l
    unfold stopL firstN at ih ⊢
    rw [List.findIdx_cons]
    by_cases h : isId id x = true
    · rw [h, List.eraseP_cons_of_pos h]
      rfl
    · have h' : isId id x = false := by simpa using h
      rw [h', List.eraseP_cons_of_neg h]
      show x :: l.eraseIdx _ = _
      rw [ih]
def Keys (L : List Tm) : Prop := (L.map Prod.fst).Nodup
def Srt (L : List Tm) : Prop := L.Pairwise fun x y => x.2 ≤ y.2
theorem Keys.sub {L K : List Tm} (h : Keys L) (s : K.Sublist L) : Keys K := h.sublist (s.map _)
theorem key_ne {x : Tm} {l : List Tm} (h : Keys (x :: l)) {y : Tm} (hy : y ∈ l) : y.1 ≠ x.1 := fun e => (List.nodup_cons.1 h).1 (e ▸ List.mem_map_of_mem (f := Prod.fst) hy)
theorem stop_mem {id : Int} {x : Tm} : ∀ {L : List Tm}, Keys L → (x ∈ stopL L id ↔ x ∈ L ∧ x.1 ≠ id)
  | [], _ => by simp [stopL]
  | y :: l, h => by
    have ih := stop_mem (id := id) (x := x) (h.sub (List.sublist_cons_self y l))
    rw [stop_eraseP] at ih ⊢
    by_cases hy : isId id y = true
    · have e : y.1 = id := by unfold isId at hy; simpa using hy
      rw [List.eraseP_cons_of_pos hy]
      constructor
      · exact fun hx => ⟨List.mem_cons_of_mem _ hx, fun g => key_ne h hx (g.trans e.symm)⟩
      · rintro ⟨hx, hn⟩
        rcases List.mem_cons.1 hx with rfl | hx
        · exact absurd e hn
        · exact hx
    · have e : y.1 ≠ id := by unfold isId at hy; simpa using hy
      rw [List.eraseP_cons_of_neg hy, List.mem_cons, List.mem_cons, ih]
      constructor
      · rintro (rfl | hx)
        · exact ⟨.inl rfl, e⟩
        · exact ⟨.inr hx.1, hx.2⟩
      · rintro ⟨rfl | hx, hn⟩
        · exact .inl rfl
        · exact .inr ⟨hx, hn⟩
theorem putL_perm (K : List Tm) (x : Tm) : (putL K x).Perm (x :: K) := by
  unfold putL
  rw [List.append_assoc]
  have : K.take (firstN K (after x)) ++ ([x] ++ K.drop (firstN K (after x))) = K.take (firstN K (after x)) ++ x :: K.drop (firstN K (after x)) := rfl
  rw [this]
  refine List.perm_middle.trans ?_
  rw [List.take_append_drop]
theorem stop_sub (L : List Tm) (id : Int) : (stopL L id).Sublist L := List.eraseIdx_sublist _ _
theorem set_eq {L : List Tm} {id a : Int} (h : 0 ≤ id ∧ 0 ≤ a ∧ a ≤ 1073741824) (hl : L.length < 200) : setL L id a = putL (stopL L id) (id, a) := by
  unfold setL
  rw [if_pos h, if_neg (fun g => by omega)]
theorem set_mem {L : List Tm} {id a : Int} {x : Tm} (h : 0 ≤ id ∧ 0 ≤ a ∧ a ≤ 1073741824) (hl : L.length < 200) (hn : Keys L) : x ∈ setL L id a ↔ x = (id, a) ∨ (x ∈ L ∧ x.1 ≠ id) := by
  rw [set_eq h hl, (putL_perm _ _).mem_iff, List.mem_cons, stop_mem hn]
theorem set_keys {L : List Tm} {id a : Int} (h : 0 ≤ id ∧ 0 ≤ a ∧ a ≤ 1073741824) (hl : L.length < 200) (hn : Keys L) : Keys (setL L id a) := by
  unfold Keys
  rw [set_eq h hl, ((putL_perm _ _).map _).nodup_iff, List.map_cons, List.nodup_cons]
  refine ⟨fun hm => ?_, hn.sub (stop_sub L id)⟩
  obtain ⟨y, hy, e⟩ := List.mem_map.1 hm
  exact ((stop_mem hn).1 hy).2 e
theorem after_yes {x y : Tm} (h : after x y = true) : x.2 ≤ y.2 := by
  unfold after orI cmpI at h
  have h := of_decide_eq_true h
  by_cases h1 : y.2 < x.2
  · simp [h1] at h
  · omega
theorem after_no {x y : Tm} (h : after x y = false) : y.2 ≤ x.2 := by
  unfold after orI cmpI at h
  have h := of_decide_eq_false h
  by_cases h1 : x.2 < y.2
  · have h2 : ¬ y.2 < x.2 := by omega
    simp [h1, h2] at h
  · omega
theorem first_before {L : List Tm} {p : Tm → Bool} {x : Tm} (h : x ∈ L.take (firstN L p)) : p x = false := by
  obtain ⟨i, hi, rfl⟩ := List.getElem_of_mem h
  rw [List.length_take] at hi
  rw [List.getElem_take]
  unfold firstN at hi
  have := List.not_of_lt_findIdx (p := p) (xs := L) (i := i) (by omega)
  simpa using this
theorem first_behind {L : List Tm} {p : Tm → Bool} {y : Tm} {l : List Tm} (h : L.drop (firstN L p) = y :: l) : p y = true := by
  have hlt : firstN L p < L.length := by
    have := congrArg List.length h
    rw [List.length_drop, List.length_cons] at this
    omega
  have e : L[firstN L p] = y := by
    rw [List.drop_eq_getElem_cons hlt] at h
    injection h
  rw [← e]
  exact List.findIdx_getElem
theorem put_sorted {K : List Tm} {x : Tm} (h : Srt K) : Srt (putL K x) := by
  unfold putL
  have h1 : Srt (K.take (firstN K (after x)) ++ K.drop (firstN K (after x))) := by rw [List.take_append_drop]; exact h
  obtain ⟨ha, hb, hc⟩ := List.pairwise_append.1 h1
  have hge : ∀ y ∈ K.drop (firstN K (after x)), x.2 ≤ y.2 := by
    cases hd : K.drop (firstN K (after x)) with
    | nil => intro y hy; cases hy
    | cons z l =>
      have hz := after_yes (first_behind hd)
      rw [hd] at hb
      intro y hy
      rcases List.mem_cons.1 hy with rfl | hy
      · exact hz
      · exact Int.le_trans hz ((List.pairwise_cons.1 hb).1 y hy)
  have hle : ∀ y ∈ K.take (firstN K (after x)), y.2 ≤ x.2 := fun y hy => after_no (first_before hy)
  refine List.pairwise_append.2 ⟨List.pairwise_append.2 ⟨ha, List.pairwise_singleton _ _, fun a h1 b h2 => ?_⟩, hb, fun a h1 b h2 => ?_⟩
  · simp at h2; subst h2; exact hle a h1
  · rcases List.mem_append.1 h1 with h1 | h1
    · exact hc a h1 b h2
    · simp at h1; subst h1; exact hge b h2
theorem set_sorted {L : List Tm} {id a : Int} (h : 0 ≤ id ∧ 0 ≤ a ∧ a ≤ 1073741824) (hl : L.length < 200) (hs : Srt L) : Srt (setL L id a) := by
  rw [set_eq h hl]
  exact put_sorted (hs.sublist (stop_sub L id))
theorem due_take {L : List Tm} {now : Int} {x : Tm} (hs : Srt L) : x ∈ L.take (dueN L now) ↔ x ∈ L ∧ x.2 ≤ now := by
  have hb : x ∈ L.take (dueN L now) → x.2 ≤ now := fun h => by
    have := first_before (p := isLate now) h
    unfold isLate at this
    have := of_decide_eq_false this
    omega
  refine ⟨fun h => ⟨List.mem_of_mem_take h, hb h⟩, fun ⟨h1, h2⟩ => ?_⟩
  have h3 : x ∈ L.take (dueN L now) ++ L.drop (dueN L now) := by rw [List.take_append_drop]; exact h1
  rcases List.mem_append.1 h3 with h3 | h3
  · exact h3
  · exfalso
    cases hd : L.drop (dueN L now) with
    | nil => rw [hd] at h3; cases h3
    | cons z l =>
      have hz := first_behind (p := isLate now) hd
      unfold isLate at hz
      have hz := of_decide_eq_true hz
      have hp : Srt (z :: l) := by rw [← hd]; exact hs.sublist (List.drop_sublist _ _)
      rw [hd] at h3
      rcases List.mem_cons.1 h3 with rfl | h3
      · omega
      · have := (List.pairwise_cons.1 hp).1 x h3; omega
theorem due_drop {L : List Tm} {now : Int} {x : Tm} (hs : Srt L) (hn : Keys L) : x ∈ L.drop (dueN L now) ↔ x ∈ L ∧ now < x.2 := by
  constructor
  · intro h
    refine ⟨List.mem_of_mem_drop h, ?_⟩
    cases hd : L.drop (dueN L now) with
    | nil => rw [hd] at h; cases h
    | cons z l =>
      have hz := first_behind (p := isLate now) hd
      unfold isLate at hz
      have hz := of_decide_eq_true hz
      have hp : Srt (z :: l) := by rw [← hd]; exact hs.sublist (List.drop_sublist _ _)
      rw [hd] at h
      rcases List.mem_cons.1 h with rfl | h
      · exact hz
      · have := (List.pairwise_cons.1 hp).1 x h; omega
  · rintro ⟨h1, h2⟩
    have h3 : x ∈ L.take (dueN L now) ++ L.drop (dueN L now) := by rw [List.take_append_drop]; exact h1
    rcases List.mem_append.1 h3 with h3 | h3
    · have := ((due_take hs).1 h3).2; omega
    · exact h3
theorem val_memI {k v : Int} : ∀ {M : List Ent}, (M.map Prod.fst).Nodup → (k, v) ∈ M → valE M k = v
  | m :: M, hn, h => by
    have hn1 : m.1 ∉ M.map Prod.fst ∧ (M.map Prod.fst).Nodup := List.nodup_cons.1 hn
    rcases List.mem_cons.1 h with rfl | h
    · simp [valE]
    · have hne : k ≠ m.1 := fun e => hn1.1 (by rw [← e]; exact List.mem_map_of_mem (f := Prod.fst) h)
      have ih := val_memI hn1.2 h
      unfold valE at ih ⊢
      rw [List.find?_cons_of_neg (by simpa using hne)]
      exact ih
theorem put_mem {M : List Ent} {k v k' v' : Int} (hn : (M.map Prod.fst).Nodup) : (k', v') ∈ putE M k v ↔ (k' = k ∧ v' = v) ∨ (k' ≠ k ∧ (k', v') ∈ M) := by
  unfold putE
  split
  · rename_i hh
    have hk : k ∈ M.map Prod.fst := hasE_iff.1 hh
    rw [List.mem_map]
    constructor
    · rintro ⟨m, hm, e⟩
      split at e
      · rename_i hmk
        simp only [Prod.mk.injEq] at e
        exact .inl ⟨by rw [← e.1]; exact hmk, e.2.symm⟩
      · rename_i hmk
        subst e
        exact .inr ⟨hmk, hm⟩
    · rintro (⟨rfl, rfl⟩ | ⟨h1, h2⟩)
      · obtain ⟨m, hm, e⟩ := List.mem_map.1 hk
        exact ⟨m, hm, by rw [if_pos e, e]⟩
      · exact ⟨_, h2, by rw [if_neg h1]⟩
  · rename_i hh
    have hk : k ∉ M.map Prod.fst := hasE_not (by simpa using hh)
    rw [List.mem_append]
    constructor
    · rintro (h | h)
      · exact .inr ⟨fun e => hk (e ▸ List.mem_map_of_mem (f := Prod.fst) h), h⟩
      · simp at h; exact .inl h
    · rintro (⟨rfl, rfl⟩ | ⟨h1, h2⟩)
      · exact .inr (by simp)
      · exact .inl h2
theorem val_put {M : List Ent} {k v x : Int} (h : x ≠ k) : valE (putE M k v) x = valE M x := by
  unfold putE
  split
  · unfold valE
    rw [List.find?_map]
    have e : (fun m : Ent => decide (x = m.1)) ∘ (fun m => if m.1 = k then (m.1, v) else m) = fun m => decide (x = m.1) := by
      funext m
      show decide (x = (if m.1 = k then (m.1, v) else m).1) = _
      split <;> rfl
    rw [e]
    cases hf : M.find? (fun m => decide (x = m.1)) with
    | none => rfl
    | some m =>
      have hm : x = m.1 := by simpa using List.find?_some hf
      show (if m.1 = k then (m.1, v) else m).2 = m.2
      rw [if_neg (by rw [← hm]; exact h)]
  · unfold valE
    rw [List.find?_append]
    have e : ([(k, v)] : List Ent).find? (fun m => decide (x = m.1)) = none := by
      rw [List.find?_eq_none]
      intro m hm
      simp at hm
      subst hm
      simpa using h
    rw [e, Option.or_none]
theorem later_in {now d : Int} (h : 0 ≤ now ∧ now ≤ 1073741824) (hd : 0 ≤ d) : 0 ≤ laterV now d ∧ laterV now d ≤ 1073741824 := by
  unfold laterV
  split <;> omega
/-- what is left behind those that were sent again -/
theorem again_mem {t : List Int} {now : Int} (ht : 0 ≤ now ∧ now ≤ 1073741824) (hm : mayB t = true) : ∀ (l : List Int) (s : List Tm × List Ent), l.Nodup → (∀ x ∈ l, 0 ≤ x) → s.1.length + l.length < 200 → Keys s.1 → Srt s.1 → (s.2.map Prod.fst).Nodup →
    Keys (againS t now l s).1 ∧ Srt (againS t now l s).1 ∧ ((againS t now l s).2.map Prod.fst).Nodup ∧
      (∀ id v, (id, v) ∈ (againS t now l s).2 ↔ (id ∈ l ∧ v = valE s.2 id + 1) ∨ (id ∉ l ∧ (id, v) ∈ s.2)) ∧
      (∀ id a, (id, a) ∈ (againS t now l s).1 ↔ (id ∈ l ∧ a = laterV now (delayV t (valE s.2 id + 1))) ∨ (id ∉ l ∧ (id, a) ∈ s.1))
  | [], s, _, _, _, h1, h2, h3 => ⟨h1, h2, h3, fun id v => by simp [againS], fun id a => by simp [againS]⟩
  | x :: l, s, hn, hp, hl, h1, h2, h3 => by
    have hd := delay_in hm (valE s.2 x + 1)
    have hla := later_in ht (d := delayV t (valE s.2 x + 1)) (by omega)
    have hv : 0 ≤ x ∧ 0 ≤ laterV now (delayV t (valE s.2 x + 1)) ∧ laterV now (delayV t (valE s.2 x + 1)) ≤ 1073741824 := ⟨hp x (by simp), hla.1, hla.2⟩
    rw [List.length_cons] at hl
    have hl1 := setL_len s.1 x (laterV now (delayV t (valE s.2 x + 1)))
    obtain ⟨hx, hn2⟩ := List.nodup_cons.1 hn
    obtain ⟨a, b, c, d, e⟩ := again_mem ht hm l (again1 t now s x) hn2 (fun y hy => hp y (List.mem_cons_of_mem _ hy)) (by show (setL s.1 x _).length + _ < _; omega) (set_keys hv (by omega) h1) (set_sorted hv (by omega) h2) (put_nodup h3 _ _)
    have hval : ∀ id, id ∈ l → valE (again1 t now s x).2 id = valE s.2 id := fun id hid => val_put (fun g => hx (g ▸ hid))
    refine ⟨a, b, c, fun id v => ?_, fun id v => ?_⟩
    · show (id, v) ∈ (againS t now l (again1 t now s x)).2 ↔ _
      rw [d]
      show (id ∈ l ∧ _) ∨ (id ∉ l ∧ (id, v) ∈ putE s.2 x (valE s.2 x + 1)) ↔ _
      rw [put_mem h3, List.mem_cons]
      constructor
      · rintro (⟨g1, g2⟩ | ⟨g1, ⟨rfl, g2⟩ | ⟨g2, g3⟩⟩)
        · exact .inl ⟨.inr g1, by rw [g2, hval id g1]⟩
        · exact .inl ⟨.inl rfl, g2⟩
        · exact .inr ⟨fun g => g.elim g2 g1, g3⟩
      · rintro (⟨rfl | g1, g2⟩ | ⟨g1, g2⟩)
        · exact .inr ⟨hx, .inl ⟨rfl, g2⟩⟩
        · exact .inl ⟨g1, by rw [g2, hval id g1]⟩
        · exact .inr ⟨fun g => g1 (.inr g), .inr ⟨fun g => g1 (.inl g), g2⟩⟩
    · show (id, v) ∈ (againS t now l (again1 t now s x)).1 ↔ _
      rw [e]
      show (id ∈ l ∧ _) ∨ (id ∉ l ∧ (id, v) ∈ setL s.1 x (laterV now (delayV t (valE s.2 x + 1)))) ↔ _
      rw [set_mem hv (by omega) h1, List.mem_cons]
      constructor
      · rintro (⟨g1, g2⟩ | ⟨g1, g2 | ⟨g2, g3⟩⟩)
        · exact .inl ⟨.inr g1, by rw [g2, hval id g1]⟩
        · simp only [Prod.mk.injEq] at g2
          obtain ⟨rfl, g2⟩ := g2
          exact .inl ⟨.inl rfl, g2⟩
        · exact .inr ⟨fun g => g.elim g3 g1, g2⟩
      · rintro (⟨rfl | g1, g2⟩ | ⟨g1, g2⟩)
        · exact .inr ⟨hx, .inl (by rw [g2])⟩
        · exact .inl ⟨g1, by rw [g2, hval id g1]⟩
        · exact .inr ⟨fun g => g1 (.inr g), .inr ⟨g2, fun g => g1 (.inl g)⟩⟩
end Go.Proofs.Ytbgbpibfmdkndaa
