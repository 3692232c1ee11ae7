/- Plain: a table of locks: who has a key, what is taken, dropped, held. -/
import Derived.Test.YtbgbpibfmdkndaaDoorLG
import Derived.Test.YtbgbpibfmdkndaaDoorLC
set_option linter.unusedVariables false
set_option linter.unusedSimpArgs false
set_option linter.unnecessarySimpa false
set_option maxRecDepth 100000
namespace Go.Proofs.YtbgbpibfmdkndaaDoor
/-- keys rise, all are names, all have an owner -/
structure TabOk (D : List Ent) : Prop where
  rise : (D.map Prod.fst).Pairwise fun a b => cmpN a b < 0
  name : ∀ m ∈ D, isN m.1 = true
  pos : ∀ m ∈ D, 1 ≤ m.2
theorem TabOk.nil : TabOk [] := ⟨.nil, (fun m h => by cases h), (fun m h => by cases h)⟩
theorem rise_nodup {l : List ByteArray} (h : l.Pairwise fun a b => cmpN a b < 0) : l.Nodup := h.imp fun {a b} h e => by rw [e, cmp_self] at h; omega
theorem TabOk.nodup {D : List Ent} (h : TabOk D) : (D.map Prod.fst).Nodup := rise_nodup h.rise
theorem TabOk.sub {D E : List Ent} (h : TabOk D) (s : E.Sublist D) : TabOk E := ⟨h.rise.sublist (s.map _), fun m hm => h.name m (s.subset hm), fun m hm => h.pos m (s.subset hm)⟩
theorem TabOk.filter {D : List Ent} (h : TabOk D) (p : Ent → Bool) : TabOk (D.filter p) := h.sub List.filter_sublist
theorem val_mem {k : ByteArray} {v : Int} : ∀ {M : List Ent}, (M.map Prod.fst).Nodup → (k, v) ∈ M → valE M k = v
  | m :: M, hn, h => by
    have hn1 : m.1 ∉ M.map Prod.fst ∧ (M.map Prod.fst).Nodup := List.nodup_cons.1 hn
    rcases List.mem_cons.1 h with rfl | h
    · simp [valE]
    · have hne : k ≠ m.1 := fun e => hn1.1 (by rw [← e]; exact List.mem_map_of_mem (f := Prod.fst) h)
      have ih := val_mem hn1.2 h
      unfold valE at ih ⊢
      rw [List.find?_cons_of_neg (by simpa using hne)]
      exact ih
theorem val_none {k : ByteArray} {M : List Ent} (h : k ∉ M.map Prod.fst) : valE M k = 0 := by
  unfold valE
  rw [List.find?_eq_none.2]
  intro x hx
  have : k ≠ x.1 := fun e => h (by rw [e]; exact List.mem_map_of_mem (f := Prod.fst) hx)
  simpa using this
theorem TabOk.has {D : List Ent} (h : TabOk D) {k : ByteArray} : k ∈ D.map Prod.fst ↔ valE D k ≠ 0 := by
  constructor
  · intro hk
    obtain ⟨m, hm, rfl⟩ := List.mem_map.1 hk
    rw [val_mem h.nodup (show (m.1, m.2) ∈ D from hm)]
    have := h.pos m hm
    omega
  · intro hk
    by_cases hm : k ∈ D.map Prod.fst
    · exact hm
    · exact absurd (val_none hm) hk
theorem TabOk.got {D : List Ent} (h : TabOk D) {k : ByteArray} (hk : valE D k ≠ 0) : (k, valE D k) ∈ D := by
  obtain ⟨m, hm, rfl⟩ := List.mem_map.1 (h.has.2 hk)
  rw [val_mem h.nodup (show (m.1, m.2) ∈ D from hm)]
  exact hm
theorem TabOk.val_iff {D : List Ent} (h : TabOk D) {k : ByteArray} {v : Int} (hv : v ≠ 0) : valE D k = v ↔ (k, v) ∈ D :=
  ⟨fun e => by subst e; exact h.got hv, fun m => val_mem h.nodup m⟩
theorem val_perm {M D : List Ent} (hD : TabOk D) (h : M.Perm D) (k : ByteArray) : valE M k = valE D k := by
  by_cases hk : valE D k = 0
  · rw [hk]
    refine val_none fun hm => ?_
    have : k ∈ D.map Prod.fst := (h.map Prod.fst).mem_iff.1 hm
    exact hD.has.1 this hk
  · exact val_mem ((h.map Prod.fst).nodup_iff.2 hD.nodup) (h.mem_iff.2 (hD.got hk))
theorem has_perm {M D : List Ent} (hD : TabOk D) (h : M.Perm D) (k : ByteArray) : hasE M k = decide (valE D k ≠ 0) := by
  by_cases hk : valE D k = 0
  · rw [decide_eq_false (by simpa using hk)]
    cases hh : hasE M k with
    | false => rfl
    | true => exact absurd hk (hD.has.1 ((h.map Prod.fst).mem_iff.1 (hasE_iff.1 hh)))
  · rw [decide_eq_true hk]
    exact hasE_iff.2 ((h.map Prod.fst).mem_iff.2 (hD.has.2 hk))
/-- where a new key goes -/
def atE (D : List Ent) (k : ByteArray) : Nat := lessK (D.map Prod.fst) k
def insE (inst : Int) (D : List Ent) (k : ByteArray) : List Ent := if valE D k = 0 then D.take (atE D k) ++ (k, inst) :: D.drop (atE D k) else D
theorem insE_perm {inst : Int} {D : List Ent} {k : ByteArray} (h : valE D k = 0) : (insE inst D k).Perm ((k, inst) :: D) := by
  unfold insE
  rw [if_pos h]
  refine List.perm_middle.trans (List.Perm.cons _ ?_)
  rw [List.take_append_drop]
theorem insE_other {inst : Int} {D : List Ent} {k : ByteArray} (h : valE D k ≠ 0) : insE inst D k = D := by
  unfold insE
  rw [if_neg h]
theorem TabOk.ins {inst : Int} {D : List Ent} {k : ByteArray} (h : TabOk D) (hk : isN k = true) (hi : 1 ≤ inst) : TabOk (insE inst D k) := by
  by_cases h0 : valE D k = 0
  · have hp := insE_perm (inst := inst) h0
    have hno : k ∉ D.map Prod.fst := fun hm => h.has.1 hm h0
    refine ⟨?_, fun m hm => ?_, fun m hm => ?_⟩
    · have e : (insE inst D k).map Prod.fst = insN (D.map Prod.fst) k := by
        unfold insE insN
        rw [if_pos h0, if_neg fun e => hno (List.mem_of_getElem? e)]
        simp [atE, List.map_take, List.map_drop]
      rw [e]
      exact ins_strict h.rise (fun x hx => by obtain ⟨m, hm, rfl⟩ := List.mem_map.1 hx; exact h.name m hm) hk
    · rcases List.mem_cons.1 (hp.mem_iff.1 hm) with rfl | hm
      · exact hk
      · exact h.name m hm
    · rcases List.mem_cons.1 (hp.mem_iff.1 hm) with rfl | hm
      · exact hi
      · exact h.pos m hm
  · rw [insE_other h0]
    exact h
theorem insE_len {inst : Int} {D : List Ent} {k : ByteArray} : (insE inst D k).length ≤ D.length + 1 := by
  by_cases h0 : valE D k = 0
  · rw [(insE_perm h0).length_eq]; simp
  · rw [insE_other h0]; omega
theorem val_ins {inst : Int} {D : List Ent} {k x : ByteArray} (h : TabOk D) (hk : isN k = true) (hi : 1 ≤ inst) (h0 : valE D k = 0) : valE (insE inst D k) x = if x = k then inst else valE D x := by
  have hp := insE_perm (inst := inst) h0
  have hT := h.ins hk hi
  by_cases hx : x = k
  · subst hx
    rw [if_pos rfl]
    exact val_mem hT.nodup (hp.mem_iff.2 (by simp))
  · rw [if_neg hx]
    by_cases hv : valE D x = 0
    · rw [hv]
      refine val_none fun hm => ?_
      obtain ⟨m, hm2, e⟩ := List.mem_map.1 hm
      rcases List.mem_cons.1 (hp.mem_iff.1 hm2) with rfl | hm3
      · exact hx e.symm
      · exact h.has.1 (by rw [← e]; exact List.mem_map_of_mem (f := Prod.fst) hm3) hv
    · exact val_mem hT.nodup (hp.mem_iff.2 (List.mem_cons_of_mem _ (h.got hv)))
theorem put_perm {inst : Int} {M D : List Ent} {k : ByteArray} (h : TabOk D) (hp : M.Perm D) (hv : valE D k = 0 ∨ valE D k = inst) : (putE M k inst).Perm (insE inst D k) := by
  by_cases h0 : valE D k = 0
  · unfold putE
    rw [has_perm h hp, if_neg (by simpa using h0)]
    exact (List.perm_append_comm.trans (hp.cons _)).trans (insE_perm h0).symm
  · have hi : valE D k = inst := hv.resolve_left h0
    unfold putE
    rw [has_perm h hp, if_pos (by simpa using h0), insE_other h0]
    have e : M.map (fun m => if m.1 = k then (m.1, inst) else m) = M := by
      conv => rhs; rw [← List.map_id M]
      refine List.map_congr_left fun m hm => ?_
      by_cases hk : m.1 = k
      · rw [if_pos hk]
        have := val_mem h.nodup (show (m.1, m.2) ∈ D from hp.mem_iff.1 hm)
        rw [hk, hi] at this
        rw [this]
        rfl
      · rw [if_neg hk]
        rfl
    rw [e]
    exact hp
/-- does the key belong to another one? -/
def othE (D : List Ent) (inst : Int) (k : ByteArray) : Bool := decide (valE D k ≠ 0 ∧ valE D k ≠ inst)
/-- may the keys be asked for? -/
def askE (inst : Int) (keys : List ByteArray) : Bool := decide (1 ≤ inst) && keys.all isN
def takenE (D : List Ent) (inst : Int) (keys : List ByteArray) : List Ent := keys.foldl (insE inst) D
def takeE (D : List Ent) (inst : Int) (keys : List ByteArray) : ByteArray × Bool × List Ent :=
  if askE inst keys then (match keys.find? (othE D inst) with | some k => (k, false, D) | none => (⟨#[]⟩, true, takenE D inst keys)) else (⟨#[]⟩, false, D)
theorem taken_succ (D : List Ent) (inst : Int) (keys : List ByteArray) (j : Nat) (k : ByteArray) (h : keys[j]? = some k) : takenE D inst (keys.take (j + 1)) = insE inst (takenE D inst (keys.take j)) k := by
  obtain ⟨hj, rfl⟩ := List.getElem?_eq_some_iff.1 h
  unfold takenE
  rw [List.take_succ_eq_append_getElem hj, List.foldl_append]
  rfl
theorem taken_ok {inst : Int} (hi : 1 ≤ inst) : ∀ (keys : List ByteArray) {D : List Ent}, TabOk D → (∀ k ∈ keys, isN k = true) → TabOk (takenE D inst keys)
  | [], D, h, _ => h
  | k :: keys, D, h, hn => taken_ok hi keys (h.ins (hn k (by simp)) hi) fun x hx => hn x (List.mem_cons_of_mem _ hx)
theorem taken_len {inst : Int} : ∀ (keys : List ByteArray) {D : List Ent}, (takenE D inst keys).length ≤ D.length + keys.length
  | [], D => by simp [takenE]
  | k :: keys, D => by
    have h1 := taken_len (inst := inst) keys (D := insE inst D k)
    have h2 := insE_len (inst := inst) (D := D) (k := k)
    have e : takenE D inst (k :: keys) = takenE (insE inst D k) inst keys := rfl
    rw [e, List.length_cons]
    omega
open Classical in
theorem taken_val {inst : Int} (hi : 1 ≤ inst) : ∀ (keys : List ByteArray) {D : List Ent}, TabOk D → (∀ k ∈ keys, isN k = true) → ∀ x, valE (takenE D inst keys) x = if valE D x = 0 ∧ x ∈ keys then inst else valE D x
  | [], D, h, _, x => by simp [takenE]
  | k :: keys, D, h, hn, x => by
    have hk := hn k (by simp)
    have ih := taken_val hi keys (h.ins hk hi) (fun x hx => hn x (List.mem_cons_of_mem _ hx)) x
    have e : takenE D inst (k :: keys) = takenE (insE inst D k) inst keys := rfl
    rw [e, ih]
    by_cases h0 : valE D k = 0
    · rw [val_ins h hk hi h0]
      by_cases hx : x = k
      · subst hx
        have : ¬ inst = 0 := by omega
        simp [h0, this]
      · simp [hx]
    · rw [insE_other h0]
      by_cases hx : x = k
      · subst hx
        simp [h0]
      · simp [hx]
/-- none of the keys is another one's, behind any of them -/
theorem taken_free {inst : Int} (hi : 1 ≤ inst) (keys : List ByteArray) {D : List Ent} (h : TabOk D) (hn : ∀ k ∈ keys, isN k = true) (hf : keys.find? (othE D inst) = none) (j : Nat) (k : ByteArray) (hk : k ∈ keys) :
    valE (takenE D inst (keys.take j)) k = 0 ∨ valE (takenE D inst (keys.take j)) k = inst := by
  rw [taken_val hi _ h (fun x hx => hn x (List.mem_of_mem_take hx))]
  have h1 := List.find?_eq_none.1 hf k hk
  have h2 : valE D k = 0 ∨ valE D k = inst := by
    unfold othE at h1
    simp at h1
    by_cases h0 : valE D k = 0
    · exact .inl h0
    · exact .inr (h1 h0)
  split
  · exact .inr rfl
  · exact h2
theorem take_ok {D : List Ent} {inst : Int} {keys : List ByteArray} (h : TabOk D) : TabOk (takeE D inst keys).2.2 := by
  unfold takeE
  split
  · rename_i ha
    unfold askE at ha
    simp at ha
    split
    · exact h
    · exact taken_ok ha.1 keys h ha.2
  · exact h
theorem take_len {D : List Ent} {inst : Int} {keys : List ByteArray} : (takeE D inst keys).2.2.length ≤ D.length + keys.length := by
  unfold takeE
  split
  · split
    · exact Nat.le_add_right _ _
    · exact taken_len keys
  · exact Nat.le_add_right _ _
def dropE (D : List Ent) (inst : Int) : List Ent := D.filter fun m => decide (m.2 ≠ inst)
def heldE (D : List Ent) (inst : Int) : List ByteArray := (D.filter fun m => decide (m.2 = inst)).map Prod.fst
theorem held_len (D : List Ent) (inst : Int) : (heldE D inst).length ≤ D.length := by unfold heldE; rw [List.length_map]; exact List.length_filter_le _ _
theorem held_rise {D : List Ent} (h : TabOk D) (inst : Int) : (heldE D inst).Pairwise fun a b => cmpN a b < 0 := h.rise.sublist (List.filter_sublist.map _)
theorem held_name {D : List Ent} (h : TabOk D) (inst : Int) : ∀ x ∈ heldE D inst, isN x = true := fun x hx => by
  obtain ⟨m, hm, rfl⟩ := List.mem_map.1 hx
  exact h.name m (List.mem_filter.1 hm).1
theorem drop_len (D : List Ent) (inst : Int) : (dropE D inst).length + (heldE D inst).length = D.length := by
  unfold dropE heldE
  rw [List.length_map]
  induction D with
  | nil => rfl
  | cons m D ih =>
    by_cases h : m.2 = inst
    · simp [h] at ih ⊢; omega
    · simp [h] at ih ⊢; omega
theorem TabOk.drop {D : List Ent} (h : TabOk D) (inst : Int) : TabOk (dropE D inst) := h.filter _
theorem TabOk.held_iff {D : List Ent} (h : TabOk D) {inst : Int} (hi : inst ≠ 0) {k : ByteArray} : k ∈ heldE D inst ↔ valE D k = inst := by
  unfold heldE
  rw [List.mem_map, h.val_iff hi]
  constructor
  · rintro ⟨m, hm, rfl⟩
    obtain ⟨h1, h2⟩ := List.mem_filter.1 hm
    have : m.2 = inst := by simpa using h2
    subst this
    exact h1
  · exact fun hm => ⟨_, List.mem_filter.2 ⟨hm, by simp⟩, rfl⟩
theorem held_sort {D : List Ent} (h : TabOk D) (inst : Int) {M M' : List ByteArray} (hM : M.Perm (heldE D inst)) (hM' : M'.Perm M)
    (hs : ∀ i j (hi : i < M'.length) (hj : j < M'.length), i < j → M'[i] ≠ M'[j] → cmpN M'[i] M'[j] < 0) : M' = heldE D inst := by
  have hp := hM'.trans hM
  have hn : M'.Nodup := hp.nodup_iff.2 (rise_nodup (held_rise h inst))
  refine strict_unique (r := fun a b => cmpN a b < 0) (fun a b x y => by have := cmp_back a b; omega) _ _ ?_ (held_rise h inst) fun x => hp.mem_iff
  rw [List.pairwise_iff_getElem]
  intro i j hi hj hij
  refine hs i j hi hj hij fun e => ?_
  have := (List.getElem_inj hn).1 e
  omega
end Go.Proofs.YtbgbpibfmdkndaaDoor
